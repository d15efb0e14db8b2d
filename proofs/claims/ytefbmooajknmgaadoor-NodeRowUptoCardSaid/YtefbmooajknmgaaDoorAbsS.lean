/-
  THE ABSTRACT MACHINE, PART S: single steps over own objects whose keys are not known in the text (a walk by hand).
-/
import Derived.Test.YtefbmooajknmgaaDoorAbsQ
set_option linter.unusedVariables false
namespace Go.Abs

section
variable {T : Nat → Option TI} {Γ : Nat → Option PSpec} {M nm L : List Nat} {N k n : Nat} {all os : List Oper} {o : Oper} {σ σ' : St} {K : St → Prop} {φ : Option Prop} {x : AV} {d : Nat}

theorem andO_in {φ : Option Prop} {K : Prop} (h1 : φ.getD True) (h2 : K) : andO φ K := by
  cases φ with
  | none => exact h2
  | some p => exact ⟨h1, h2⟩
theorem lay_in (h : K (σ.putN d x)) : lay false (some d) x σ K := by
  simp only [lay, forced_eq]; exact h

theorem evOps_step (hg : o.guard = none) (hd : o.dst = some d) (hN : Nat.blt d N = true) (hc : callOf T Γ o σ.env = none) (hn : dIn (some d) nm = false) (hs : step1 T (dIn (some d) M) o σ = some (φ, x, σ')) (hφ : φ.getD True)
    (h : evOps T Γ M nm N all os (σ'.putN d x) K) : evOps T Γ M nm N all (o :: os) σ K := by
  unfold evOps
  rw [hg, hd]
  dsimp only
  rw [hN, hc, hn, hs]
  exact andO_in hφ (lay_in h)
theorem evOps_step0 (hg : o.guard = none) (hd : o.dst = none) (hc : callOf T Γ o σ.env = none) (hs : step1 T (dIn none M) o σ = some (φ, x, σ')) (hφ : φ.getD True)
    (h : evOps T Γ M nm N all os σ' K) : evOps T Γ M nm N all (o :: os) σ K := by
  unfold evOps
  rw [hg, hd, hc, hs]
  exact andO_in hφ h
theorem evD_step (hg : o.guard = none) (hd : o.dst = some d) (hL : inL k L = true) (hc : callOf T Γ o σ.env = none) (hn : dIn (some d) nm = false) (hs : step1 T (dIn (some d) M) o σ = some (φ, x, σ')) (hφ : φ.getD True)
    (h : evD T Γ M nm L [] n all os (k + 1) (σ'.putN d x) K) : evD T Γ M nm L [] n all (o :: os) k σ K := by
  unfold evD
  rw [hg, hd, hL, hc, hn, hs]
  simp only [inL, Bool.false_and]
  exact andO_in hφ (lay_in h)
theorem evD_step0 (hg : o.guard = none) (hd : o.dst = none) (hL : inL k L = true) (hc : callOf T Γ o σ.env = none) (hs : step1 T (dIn none M) o σ = some (φ, x, σ')) (hφ : φ.getD True)
    (h : evD T Γ M nm L [] n all os (k + 1) σ' K) : evD T Γ M nm L [] n all (o :: os) k σ K := by
  unfold evD
  rw [hg, hd, hL, hc, hs]
  simp only [inL, Bool.false_and]
  exact andO_in hφ h

/- What a step does: indexing, loads, stores of rows; loads and stores of boxes. -/
theorem s1_idx {own : Bool} {t e q sz kk : Nat} {j ti : TI} {y i : Operand} {n : Int} {ki : IntKind} {rows : List (List S)} (ho : o.op = .indexAddr t y i) (ht : T t = some ti) (hk : ti.k = .slice e) (hj : T e = some j) (hy : opd T σ.env t y = .orow q)
    (hi : opd T σ.env 0 i = .s (.int ki n)) (hh : σ.hp q = some (.row kk sz rows)) (hz : Nat.beq sz j.size = true) : step1 T own o σ = some (some (0 ≤ n ∧ n < rows.length), .rp q sz n.toNat 0, σ) := by
  have e1 : pstep T own o σ.env = none := by simp only [pstep, ho, pIndexAddr, hy, hi, AV.nrm, ht, hk]
  simp only [step1, e1, lstepB, lstep, ho, elemOf, ht, hk, hj, hy, hi, hh, hz]
theorem s1_idxA {own : Bool} {t e q sz kk : Nat} {j ti : TI} {y i : Operand} {n : Int} {ki : IntKind} {rows : List (List AV)} (ho : o.op = .indexAddr t y i) (ht : T t = some ti) (hk : ti.k = .slice e) (hj : T e = some j) (hy : opd T σ.env t y = .orow q)
    (hi : opd T σ.env 0 i = .s (.int ki n)) (hh : σ.hp q = some (.arow kk sz rows)) (hz : Nat.beq sz j.size = true) : step1 T own o σ = some (some (0 ≤ n ∧ n < rows.length), .rp q sz n.toNat 0, σ) := by
  have e1 : pstep T own o σ.env = none := by simp only [pstep, ho, pIndexAddr, hy, hi, AV.nrm, ht, hk]
  simp only [step1, e1, lstepB, lstep, lstepA, ho, elemOf, ht, hk, hj, hy, hi, hh, hz]
theorem s1_store {own : Bool} {t q sz r off kk : Nat} {ti : TI} {y z : Operand} {rows : List (List S)} {ss : List S} (ho : o.op = .store t y z) (ht : T t = some ti) (hy : opd T σ.env 0 y = .rp q sz r off)
    (hz : (opd T σ.env t z).cellsS = some ss) (hh : σ.hp q = some (.row kk sz rows)) (h1 : Nat.beq sz sz = true) (h2 : Nat.beq ss.length ti.size = true) (h3 : Nat.ble (off + ti.size) sz = true) :
    step1 T own o σ = some (some (r < rows.length), .junk, updOb σ q (.row kk sz (rows.set r ((rows.getD r []).take off ++ ss ++ (rows.getD r []).drop (off + ti.size))))) := by
  have e1 : pstep T own o σ.env = none := by simp only [pstep, ho]
  simp only [step1, e1, lstepB, lstep, ho, ht, hy, hz, hh, h1, h2, h3]
theorem s1_storeA {own : Bool} {t q sz r off kk : Nat} {ti : TI} {y z : Operand} {rows : List (List AV)} (ho : o.op = .store t y z) (ht : T t = some ti) (hy : opd T σ.env 0 y = .rp q sz r off)
    (hh : σ.hp q = some (.arow kk sz rows)) (h1 : Nat.beq sz sz = true) (h2 : Nat.beq (opd T σ.env t z).cellsA.length ti.size = true) (h3 : Nat.ble (off + ti.size) sz = true) (h4 : ((opd T σ.env t z).cellsA).all AV.one = true) :
    step1 T own o σ = some (some (r < rows.length), .junk, updOb σ q (.arow kk sz (rows.set r ((rows.getD r []).take off ++ (opd T σ.env t z).cellsA ++ (rows.getD r []).drop (off + ti.size))))) := by
  have e1 : pstep T own o σ.env = none := by simp only [pstep, ho]
  have e2 : lstep T own o σ = none := by
    simp only [lstep, ho, hy, ht, hh]
  simp only [step1, e1, lstepB, e2, lstepA, ho, ht, hy, hh, h1, h2, h3, h4]
theorem s1_storeB {own : Bool} {t q off : Nat} {ti : TI} {y z : Operand} {bt : Nat} {cells : List AV} (ho : o.op = .store t y z) (ht : T t = some ti) (hy : opd T σ.env 0 y = .op q off)
    (hh : σ.hp q = some (.box bt cells)) (h2 : Nat.beq (opd T σ.env t z).cellsA.length ti.size = true) (h3 : Nat.ble (off + ti.size) cells.length = true) (h4 : ((opd T σ.env t z).cellsA).all AV.one = true) (h5 : AV.ltAll σ.nx (opd T σ.env t z).cellsA = true) :
    step1 T own o σ = some (none, .junk, updOb σ q (.box bt (cells.take off ++ (opd T σ.env t z).cellsA ++ cells.drop (off + ti.size)))) := by
  have e1 : pstep T own o σ.env = none := by simp only [pstep, ho]
  simp only [step1, e1, lstepB, lstep, ho, ht, hy, hh, h2, h3, h4, h5, spine_eq]
theorem s1_loadB {own : Bool} {t q off : Nat} {ti : TI} {y : Operand} {bt : Nat} {cells : List AV} {c : AV} (ho : o.op = .load t y) (ht : T t = some ti) (ha : ti.k.agg = false) (hy : opd T σ.env 0 y = .op q off) (hh : σ.hp q = some (.box bt cells)) (hc : cells[off]? = some c) :
    step1 T own o σ = some (none, c, σ) := by
  have e1 : pstep T own o σ.env = none := by simp only [pstep, ho, hy]
  simp only [step1, e1, lstepB, lstep, ho, ht, hy, hh, ha, hc]
theorem s1_loadBA {own : Bool} {t q off : Nat} {ti : TI} {y : Operand} {bt : Nat} {cells : List AV} (ho : o.op = .load t y) (ht : T t = some ti) (ha : ti.k.agg = true) (hy : opd T σ.env 0 y = .op q off) (hh : σ.hp q = some (.box bt cells)) (hc : Nat.ble (off + ti.size) cells.length = true) :
    step1 T own o σ = some (none, .agg ((cells.drop off).take ti.size), σ) := by
  have e1 : pstep T own o σ.env = none := by simp only [pstep, ho, hy]
  simp only [step1, e1, lstepB, lstep, ho, ht, hy, hh, ha, hc]
theorem s1_len {own : Bool} {t q kk sz : Nat} {e : Nat} {args : Array Operand} {ts : Array Nat} {y : Operand} {rows : List (List S)} (ho : o.op = .call { callee := .builtin .len, args := args, argTypes := ts }) (ha : args.toList = [y]) (hts : ts.toList = [t]) (ht : tk T t = .slice e)
    (hy : opd T σ.env t y = .orow q) (hh : σ.hp q = some (.row kk sz rows)) : step1 T own o σ = some (none, .s (.int .i64 (rows.length : Int)), σ) := by
  have e1 : pstep T own o σ.env = none := by simp only [pstep, ho, ha, hts, pLen, ht, hy]
  simp only [step1, e1, lstepB, lstep, ho, ha, hts, ht, hy, hh]
theorem s1_lenA {own : Bool} {t q kk sz : Nat} {e : Nat} {args : Array Operand} {ts : Array Nat} {y : Operand} {rows : List (List AV)} (ho : o.op = .call { callee := .builtin .len, args := args, argTypes := ts }) (ha : args.toList = [y]) (hts : ts.toList = [t]) (ht : tk T t = .slice e)
    (hy : opd T σ.env t y = .orow q) (hh : σ.hp q = some (.arow kk sz rows)) : step1 T own o σ = some (none, .s (.int .i64 (rows.length : Int)), σ) := by
  have e1 : pstep T own o σ.env = none := by simp only [pstep, ho, ha, hts, pLen, ht, hy]
  have e2 : lstep T own o σ = none := by simp only [lstep, ho, ha, hts, ht, hy, hh]
  simp only [step1, e1, lstepB, e2, lstepA, ho, ha, hts, ht, hy, hh]

/- Loads through a pointer into an own row. -/
theorem step1_ld {own : Bool} {t q sz r off : Nat} {y : Operand} (ho : o.op = .load t y) (hy : opd T σ.env 0 y = .rp q sz r off) : step1 T own o σ = none ∧ callOf T Γ o σ.env = none ∧ rawCall T o σ.env = none := by
  have e1 : pstep T own o σ.env = none := by simp only [pstep, ho, hy]
  have e2 : lstep T own o σ = none := by simp only [lstep, ho, hy]
  have e3 : lstepA T o σ = none := by simp only [lstepA, ho]
  exact ⟨by simp only [step1, e1, lstepB, e2, e3], by simp only [callOf, ho], by simp only [rawCall, ho]⟩
theorem evOps_ld {t q sz r off kk : Nat} {y : Operand} {rows : List (List S)} {c : AV} (hg : o.guard = none) (hd : o.dst = some d) (hN : Nat.blt d N = true) (hn : dIn (some d) nm = false) (ho : o.op = .load t y) (hy : opd T σ.env 0 y = .rp q sz r off)
    (hh : σ.hp q = some (.row kk sz rows)) (hr : r < rows.length) (hc : loadS T t ((rows.getD r []).drop off) = some c) (h : evOps T Γ M nm N all os (σ.putN d c) K) : evOps T Γ M nm N all (o :: os) σ K := by
  obtain ⟨e1, e2, e3⟩ := step1_ld (Γ := Γ) (own := dIn (some d) M) ho hy
  unfold evOps
  rw [hg, hd]
  dsimp only
  rw [hN, e2, hn, e1]
  have hz : Nat.beq sz sz = true := Nat.beq_refl sz
  simp only [callL, e3, loadL, ho, hy, hh, hz]
  exact ⟨hr, _, rfl, by rw [hc]; exact lay_in h⟩
theorem evOps_ldA {t q sz r off kk : Nat} {y : Operand} {rows : List (List AV)} {c : AV} (hg : o.guard = none) (hd : o.dst = some d) (hN : Nat.blt d N = true) (hn : dIn (some d) nm = false) (ho : o.op = .load t y) (hy : opd T σ.env 0 y = .rp q sz r off)
    (hh : σ.hp q = some (.arow kk sz rows)) (hr : r < rows.length) (hc : loadA T t ((rows.getD r []).drop off) = some c) (h : evOps T Γ M nm N all os (σ.putN d c) K) : evOps T Γ M nm N all (o :: os) σ K := by
  obtain ⟨e1, e2, e3⟩ := step1_ld (Γ := Γ) (own := dIn (some d) M) ho hy
  unfold evOps
  rw [hg, hd]
  dsimp only
  rw [hN, e2, hn, e1]
  have hz : Nat.beq sz sz = true := Nat.beq_refl sz
  simp only [callL, e3, loadL, ho, hy, hh, hz]
  exact ⟨hr, _, rfl, by rw [hc]; exact lay_in h⟩
theorem evD_ld {t q sz r off kk : Nat} {y : Operand} {rows : List (List S)} {c : AV} (hg : o.guard = none) (hd : o.dst = some d) (hL : inL k L = true) (hn : dIn (some d) nm = false) (ho : o.op = .load t y) (hy : opd T σ.env 0 y = .rp q sz r off)
    (hh : σ.hp q = some (.row kk sz rows)) (hr : r < rows.length) (hc : loadS T t ((rows.getD r []).drop off) = some c) (h : evD T Γ M nm L [] n all os (k + 1) (σ.putN d c) K) : evD T Γ M nm L [] n all (o :: os) k σ K := by
  obtain ⟨e1, e2, e3⟩ := step1_ld (Γ := Γ) (own := dIn (some d) M) ho hy
  unfold evD
  rw [hg, hd, e2, hL, hn, e1]
  have hz : Nat.beq sz sz = true := Nat.beq_refl sz
  simp only [inL, Bool.false_and, callL, e3, loadL, ho, hy, hh, hz]
  exact ⟨hr, _, rfl, by rw [hc]; exact lay_in h⟩
theorem evD_ldA {t q sz r off kk : Nat} {y : Operand} {rows : List (List AV)} {c : AV} (hg : o.guard = none) (hd : o.dst = some d) (hL : inL k L = true) (hn : dIn (some d) nm = false) (ho : o.op = .load t y) (hy : opd T σ.env 0 y = .rp q sz r off)
    (hh : σ.hp q = some (.arow kk sz rows)) (hr : r < rows.length) (hc : loadA T t ((rows.getD r []).drop off) = some c) (h : evD T Γ M nm L [] n all os (k + 1) (σ.putN d c) K) : evD T Γ M nm L [] n all (o :: os) k σ K := by
  obtain ⟨e1, e2, e3⟩ := step1_ld (Γ := Γ) (own := dIn (some d) M) ho hy
  unfold evD
  rw [hg, hd, e2, hL, hn, e1]
  have hz : Nat.beq sz sz = true := Nat.beq_refl sz
  simp only [inL, Bool.false_and, callL, e3, loadL, ho, hy, hh, hz]
  exact ⟨hr, _, rfl, by rw [hc]; exact lay_in h⟩
end
end Go.Abs
