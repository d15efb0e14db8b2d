/-
  THE ABSTRACT MACHINE, PART D: the operations of part C do what they say.
-/
import Derived.Test.YtefbmooajknmgaaDoorAbsC
import Derived.Laws.StructEq
import Derived.Lib.Builder
namespace Go.Abs

theorem wp_value {P : Program} {o : Oper} {a : Act} {w w' : World} {v : Value} {K : Act → World → Prop} {Q : Exit → Act → World → Prop}
    (hr : (execOp a.eval o).run P w = .ok (.value v) w') (h : K (a.put o.dst v) w') : o.wp P a w K Q := by
  unfold Oper.wp; rw [hr]; exact h

section
variable {P : Program} {T : Nat → Option TI} {G : Nat → Prop} {w : World} {β : Nat → Value}

theorem tk_desc (hT : TOk P T) {t : Nat} {k : TK} (h : tk T t = k) (hk : k ≠ .other) : ∃ d, P.underlying t = some d ∧ tkOf d = k := by
  unfold tk at h
  split at h
  · rename_i i hi
    obtain ⟨d, info, z, h1, h2, _⟩ := hT t i hi
    exact ⟨d, h1, by rw [h2, h]⟩
  · exact absurd h.symm hk

theorem run_pInt {op : BinOp} {k : IntKind} {a b : Int} {φ : Option Prop} {x : AV} (h : pInt op k a b = some (φ, x)) (hφ : φ.getD True) (t : Nat) :
    ∃ v, (binOp op t (.int k a) (.int k b)).run P w = .ok v w ∧ AVal G w β x v := by
  cases op <;> simp only [pInt, Option.some.injEq, Prod.mk.injEq, reduceCtorEq] at h <;> obtain ⟨rfl, rfl⟩ := h <;>
    simp only [Option.getD_some, Option.getD_none] at hφ <;>
    simp [binOp, Op.intArith, Op.intDiv, Op.intBits, Op.intCmp, AVal, Rep, bitOp, hφ]

theorem run_pStr {op : BinOp} {a b : List UInt8} {φ : Option Prop} {x : AV} (h : pStr op a b = some (φ, x)) (hφ : φ.getD True) (t : Nat) :
    ∃ v, (binOp op t (.string ⟨a.toArray⟩) (.string ⟨b.toArray⟩)).run P w = .ok v w ∧ AVal G w β x v := by
  have e1 : ∀ l : List UInt8, (ByteArray.mk l.toArray).toList = l := fun l => by rw [ByteArray.toList_eq]
  have e2 : ∀ l : List UInt8, (ByteArray.mk l.toArray).size = l.length := fun l => rfl
  have e3 : ByteArray.mk a.toArray ++ ByteArray.mk b.toArray = ByteArray.mk (a ++ b).toArray := by
    apply ByteArray.ext
    simp
  cases op <;> simp only [pStr, Option.some.injEq, Prod.mk.injEq, reduceCtorEq] at h <;> obtain ⟨rfl, rfl⟩ := h <;>
    simp only [Option.getD_some, Option.getD_none] at hφ
  · have hn : ¬ (9223372036854775807 < (a.length : Int) + b.length) := by omega
    simp [binOp, Op.stringOp, e2, e3, AVal, Rep, IntKind.max, IntKind.signed, IntKind.bits, hn]
  all_goals simp [binOp, Op.stringOp, e1, AVal, Rep]

theorem run_eq_bool (hT : TOk P T) {t : Nat} (h : tk T t = .bool) (a b : Bool) : (Op.equal t (.bool a) (.bool b)).run P w = .ok (a == b) w := by
  obtain ⟨d, hd, hk⟩ := tk_desc hT h (by simp)
  cases d <;> simp only [tkOf, reduceCtorEq] at hk
  show (Op.equalIn (9999 + 1) t (.bool a) (.bool b)).run P w = _
  unfold Op.equalIn
  simp [run_underlying' w hd]
theorem run_eq_ptr (hT : TOk P T) {t e : Nat} (h : tk T t = .ptr e) (a : Option Addr) : (Op.equal t (.pointer a) (.pointer none)).run P w = .ok a.isNone w := by
  obtain ⟨d, hd, hk⟩ := tk_desc hT h (by simp)
  cases d <;> simp only [tkOf, reduceCtorEq] at hk
  show (Op.equalIn (9999 + 1) t (.pointer a) (.pointer none)).run P w = _
  unfold Op.equalIn
  cases a <;> simp [run_underlying' w hd]

theorem run_eq_ptr_same (hT : TOk P T) {t e : Nat} {j : TI} (h : tk T t = .ptr e) (he : T e = some j) (a : Addr) : (Op.equal t (.pointer (some a)) (.pointer (some a))).run P w = .ok true w := by
  obtain ⟨d, hd, hk⟩ := tk_desc hT h (by simp)
  cases d <;> simp only [tkOf, reduceCtorEq] at hk
  cases hk
  obtain ⟨_, info, _, _, _, h3, _⟩ := hT _ _ he
  show (Op.equalIn (9999 + 1) t (.pointer (some a)) (.pointer (some a))).run P w = _
  unfold Op.equalIn
  simp [run_underlying' w hd, sizeOf, typeInfo, h3, run_sameAddr_same]

theorem run_eqGuard {op : BinOp} {t : Nat} {ox oy : Operand} {u v : Value} (h : (∀ cs, u ≠ .agg cs) ∧ u ≠ .nilIface) : (eqGuard op t ox oy u v).run P w = .ok () w := by
  unfold eqGuard
  cases op <;> simp <;> (split <;> first | rfl | simp_all)

theorem rep_guard {s : S} {v : Value} (h : Rep G w s v) : (∀ cs, v ≠ .agg cs) ∧ v ≠ .nilIface := by
  have := h.one
  refine ⟨fun cs e => by subst e; simp [Value.oneCell'] at this, fun e => ?_⟩
  subst e
  cases s <;> simp [Rep] at h

theorem run_pBin0 (hT : TOk P T) {op : BinOp} {t : Nat} {x y r : AV} {φ : Option Prop} (h : pBin0 T t op x y = some (φ, r)) (hφ : φ.getD True) {u v : Value} (hx : AVal G w β x u) (hy : AVal G w β y v) (ox oy : Operand) :
    ∃ z, (do eqGuard op t ox oy u v; binOp op t u v : Sem Value).run P w = .ok z w ∧ AVal G w β r z := by
  have key : (∃ z, (binOp op t u v).run P w = .ok z w ∧ AVal G w β r z) ∧ ((∀ cs, u ≠ .agg cs) ∧ u ≠ .nilIface) := by
    unfold pBin0 at h
    split at h
    · cases h; simp only [AVal, Rep] at hx hy; subst hx; subst hy
      simp only [Option.getD_some] at hφ
      refine ⟨?_, by simp⟩
      refine ⟨_, by simp only [binOp, Op.shift]; rw [if_neg (by omega)]; rfl, by simp [AVal, Rep]⟩
    · cases h; simp only [AVal, Rep] at hx hy; subst hx; subst hy
      simp only [Option.getD_some] at hφ
      refine ⟨?_, by simp⟩
      refine ⟨_, by simp only [binOp, Op.shift]; rw [if_neg (by omega)]; rfl, by simp [AVal, Rep]⟩
    · split at h
      · rename_i hk
        obtain rfl := kEq_eq hk
        simp only [AVal, Rep] at hx hy; subst hx; subst hy
        exact ⟨run_pInt h hφ t, by simp⟩
      · cases h
    · simp only [AVal, Rep] at hx hy; subst hx; subst hy
      exact ⟨run_pStr h hφ t, by simp⟩
    · split at h
      · rename_i hk
        cases h; simp only [AVal, Rep] at hx hy; subst hx; subst hy
        refine ⟨?_, by simp⟩
        simp [binOp, run_eq_bool hT hk, AVal, Rep]
      · cases h
    · split at h
      · rename_i hk
        cases h; simp only [AVal, Rep] at hx hy; subst hx; subst hy
        refine ⟨?_, by simp⟩
        simp [binOp, run_eq_bool hT hk, AVal, Rep]
      · cases h
    · split at h
      · rename_i hk
        cases h; simp only [AVal, Rep] at hx hy; subst hx; subst hy
        refine ⟨?_, by simp⟩
        simp [binOp, run_eq_ptr hT hk, AVal, Rep]
      · cases h
    · split at h
      · rename_i hk
        cases h; simp only [AVal, Rep] at hx hy; subst hx; subst hy
        refine ⟨?_, by simp⟩
        simp [binOp, run_eq_ptr hT hk, AVal, Rep]
      · cases h
    · split at h
      · rename_i hk
        cases h; simp only [AVal, Rep] at hx hy; obtain ⟨b, off, rfl, _⟩ := hx; subst hy
        refine ⟨?_, by simp⟩
        simp [binOp, run_eq_ptr hT hk, AVal, Rep]
      · cases h
    · split at h
      · rename_i hk
        cases h; simp only [AVal, Rep] at hx hy; obtain ⟨b, off, rfl, _⟩ := hx; subst hy
        refine ⟨?_, by simp⟩
        simp [binOp, run_eq_ptr hT hk, AVal, Rep]
      · cases h
    · split at h
      · rename_i hk
        cases h; simp only [AVal, Rep] at hx hy; obtain ⟨b, _, rfl⟩ := hx; subst hy
        refine ⟨?_, by simp⟩
        simp [binOp, run_eq_ptr hT hk, AVal, Rep]
      · cases h
    · split at h
      · rename_i hk
        cases h; simp only [AVal, Rep] at hx hy; obtain ⟨b, _, rfl⟩ := hx; subst hy
        refine ⟨?_, by simp⟩
        simp [binOp, run_eq_ptr hT hk, AVal, Rep]
      · cases h
    · split at h
      · rename_i hk
        split at h
        · rename_i he hk1 hk2
          cases h
          obtain rfl := Nat.eq_of_beq_eq_true hk1
          obtain rfl := Nat.eq_of_beq_eq_true hk2
          simp only [AVal] at hx hy; obtain ⟨b, h1, rfl⟩ := hx; obtain ⟨b', h2, rfl⟩ := hy
          rw [h1] at h2; cases h2
          refine ⟨?_, by simp⟩
          simp [binOp, run_eq_ptr_same hT hk he, AVal, Rep]
        · cases h
      · cases h
    · split at h
      · rename_i hk
        split at h
        · rename_i he hk1 hk2
          cases h
          obtain rfl := Nat.eq_of_beq_eq_true hk1
          obtain rfl := Nat.eq_of_beq_eq_true hk2
          simp only [AVal] at hx hy; obtain ⟨b, h1, rfl⟩ := hx; obtain ⟨b', h2, rfl⟩ := hy
          rw [h1] at h2; cases h2
          refine ⟨?_, by simp⟩
          simp [binOp, run_eq_ptr_same hT hk he, AVal, Rep]
        · cases h
      · cases h
    · cases h
  obtain ⟨⟨z, h1, h2⟩, h3⟩ := key
  exact ⟨z, by simp [run_eqGuard h3, h1], h2⟩

theorem run_equalIn_arr2 (w : World) (n : Nat) (t e : TypeId) (k : IntKind) (i : TypeInfo) (ht : P.underlying t = some (.array 2 e)) (he : P.underlying e = some (.int k)) (hi : P.info? e = some i) (hs : i.size = 1) (a b c d : Int) :
    (Op.equalIn (n + 2) t (.agg #[.int k a, .int k b]) (.agg #[.int k c, .int k d])).run P w = .ok (a == c && b == d) w := by
  have h1 : ∀ x y, (Op.equalIn (n + 1) e (.int k x) (.int k y)).run P w = .ok (x == y) w := fun x y => by
    simp [Op.equalIn, run_underlying' w he]
  unfold Op.equalIn
  cases hac : a == c <;> cases hbd : b == d <;>
  simp [List.range', run_underlying' w ht, run_sizeOf' w hi, hs, part, isAgg, run_underlying' w he, h1, hac, hbd]
theorem run_guard_arr2 (w : World) (op : BinOp) (t e : TypeId) (k : IntKind) (i : TypeInfo) (ht : P.underlying t = some (.array 2 e)) (he : P.underlying e = some (.int k)) (hi : P.info? e = some i) (hs : i.size = 1) (x y : Operand) (a b c d : Int) :
    (eqGuard op t x y (.agg #[.int k a, .int k b]) (.agg #[.int k c, .int k d])).run P w = .ok () w := by
  have h1 : ∀ x y, (Op.eqGuardIn 9999 e (.int k x) (.int k y)).run P w = .ok false w := fun x y => by
    unfold Op.eqGuardIn
    simp [run_underlying' w he]
  have h2 : (Op.eqGuardIn Op.maxDepth t (.agg #[.int k a, .int k b]) (.agg #[.int k c, .int k d])).run P w = .ok false w := by
    unfold Op.maxDepth Op.eqGuardIn
    simp [List.range', run_underlying' w ht, run_sizeOf' w hi, hs, part, isAgg, run_underlying' w he, h1]
  unfold eqGuard
  cases op <;> simp
  all_goals (cases hg : P.eqGuardType P.depth t <;> simp [hg, h2])
theorem run_neq_arr2 (w : World) (t e : TypeId) (k : IntKind) (i : TypeInfo) (ht : P.underlying t = some (.array 2 e)) (he : P.underlying e = some (.int k)) (hi : P.info? e = some i) (hs : i.size = 1) (a b c d : Int) :
    (binOp .neq t (.agg #[.int k a, .int k b]) (.agg #[.int k c, .int k d])).run P w = .ok (.bool (!(a == c && b == d))) w := by
  have := run_equalIn_arr2 w 9998 t e k i ht he hi hs a b c d
  rw [run_neq_struct, this]; rfl

theorem run_pBin (hT : TOk P T) {op : BinOp} {t : Nat} {x y r : AV} {φ : Option Prop} (h : pBin T t op x y = some (φ, r)) (hφ : φ.getD True) {u v : Value} (hx : AVal G w β x u) (hy : AVal G w β y v) (ox oy : Operand) :
    ∃ z, (do eqGuard op t ox oy u v; binOp op t u v : Sem Value).run P w = .ok z w ∧ AVal G w β r z := by
  unfold pBin at h
  split at h
  · rename_i r' h0
    cases h
    exact run_pBin0 hT h0 hφ hx hy ox oy
  · unfold pArr at h
    split at h
    · split at h
      · rename_i e hk
        split at h
        · rename_i i hi
          split at h
          · rename_i k4 hk4 hs hke
            split at h
            · rename_i hk5
              cases h
              simp only [Bool.and_eq_true] at hke
              obtain rfl := kEq_eq hke.1
              obtain rfl := kEq_eq hke.2.1
              obtain rfl := kEq_eq hke.2.2
              obtain rfl := kEq_eq hk5
              obtain ⟨d, hd, hdk⟩ := tk_desc hT hk (by simp)
              cases d <;> simp only [tkOf, reduceCtorEq, TK.arr.injEq] at hdk
              obtain ⟨rfl, rfl⟩ := hdk
              obtain ⟨d', info, z, g1, g2, g3, g4, _⟩ := hT _ i hi
              rw [hk4] at g2
              cases d' <;> simp only [tkOf, reduceCtorEq, TK.int.injEq] at g2
              subst g2
              simp only [AVal, AVals, Rep] at hx hy
              obtain ⟨_, rfl, _, _, rfl, rfl, _, _, rfl, rfl, rfl⟩ := hx
              obtain ⟨_, rfl, _, _, rfl, rfl, _, _, rfl, rfl, rfl⟩ := hy
              have hsz : info.size = 1 := g4.trans (Nat.eq_of_beq_eq_true hs)
              refine ⟨_, ?_, by simp only [AVal, Rep]; rfl⟩
              rw [Sem.run_bind, run_guard_arr2 w _ t _ _ info hd g1 g3 hsz]
              exact run_neq_arr2 w t _ _ info hd g1 g3 hsz _ _ _ _
            · cases h
          · cases h
        · cases h
      · cases h
    · cases h

theorem run_pUn {op : UnOp} {x r : AV} {φ : Option Prop} (h : pUn op x = some (φ, r)) {u : Value} (hx : AVal G w β x u) :
    ∃ z, (Op.unary op u).run P w = .ok z w ∧ AVal G w β r z := by
  unfold pUn at h
  split at h
  · cases h; simp only [AVal, Rep] at hx; subst hx; exact ⟨_, rfl, by simp [AVal, Rep]⟩
  · cases h; simp only [AVal, Rep] at hx; subst hx; exact ⟨_, rfl, by simp [AVal, Rep]⟩
  · cases h

/-- Cells that read as these data. -/
def RowAt (G : Nat → Prop) (w : World) (b : Nat) (row : List S) (off : Nat) : Prop := ∀ (i : Nat) s, row[i]? = some s → ∃ v, w.cell? ⟨b, off + i, none⟩ = some v ∧ Rep G w s v

/-- The cells of a row can be loaded. -/
theorem run_loadRow {row : List S} {b off : Nat} (h : RowAt G w b row off) (n : Nat) (hn : n ≤ row.length) :
    ∃ vs, (loadCells ⟨b, off, none⟩ n).run P w = .ok vs.toArray w ∧ Reps G w (row.take n) vs := by
  have hv : ∀ i, i < n → ∃ v, w.cell? ⟨b, off + i, none⟩ = some v ∧ Rep G w (row.getD i .np) v := fun i hi => by
    exact h i (row.getD i .np) (by simp [List.getElem?_eq_getElem (show i < row.length by omega)])
  refine ⟨(List.range n).map (fun i => (w.cell? ⟨b, off + i, none⟩).getD undef), ?_, ?_, ?_⟩
  · refine run_loadCells w ⟨b, off, none⟩ n (fun i => (w.cell? ⟨b, off + i, none⟩).getD undef) fun j hj => ?_
    obtain ⟨v, h1, _⟩ := hv j hj
    have : (Addr.mk b off none).add j = ⟨b, off + j, none⟩ := by
      unfold Addr.add; split
      · rename_i e; subst e; simp
      · rfl
    rw [this, h1]; rfl
  · simp; omega
  · intro i s v hs hv'
    rw [List.getElem?_take] at hs
    split at hs
    · rename_i hi
      obtain ⟨u, h1, h2⟩ := hv i hi
      simp [hi, h1] at hv'
      subst hv'
      have : row.getD i .np = s := by simp [List.getD, hs]
      rw [← this]; exact h2
    · cases hs

theorem Reps.avals {ss : List S} {vs : List Value} (h : Reps G w ss vs) : AVals G w β (ss.map .s) vs :=
  AVals.mk (by simp [h.1]) fun i x v hx hv => by
    rw [List.getElem?_map] at hx
    cases hs : ss[i]? with
    | none => rw [hs] at hx; simp at hx
    | some s => rw [hs] at hx; simp at hx; subst hx; simpa only [AVal] using h.2 i s v hs hv

theorem run_loadAt (hT : TOk P T) {t : Nat} {row : List S} {y : AV} (h : loadS T t row = some y) {b off : Nat} (hr : RowAt G w b row off) :
    ∃ z, (Instr.loadAt t (.pointer (some ⟨b, off, none⟩))).run P w = .ok z w ∧ AVal G w β y z := by
  unfold loadS at h
  split at h
  · cases h
  · rename_i i hi
    obtain ⟨d, info, z, h1, h2, h3, h4, h5, h6, h7, h8, h9, h10⟩ := hT t i hi
    split at h
    · rename_i ha
      split at h
      · rename_i hle
        cases h
        obtain ⟨vs, hl, hreps⟩ := run_loadRow (P := P) hr i.size (Nat.le_of_ble_eq_true hle)
        refine ⟨.agg vs.toArray, ?_, ?_⟩
        · simp [Instr.loadAt, Instr.sureAddr, loadVar, run_isAgg' w h1, h2, ha, run_sizeOf' w h3, h4, hl]
        · simp only [AVal]; exact ⟨vs, rfl, hreps.avals⟩
      · cases h
    · rename_i ha
      split at h
      · rename_i s r
        cases h
        obtain ⟨u, hu, hrep⟩ := hr 0 s rfl
        refine ⟨u, ?_, by simpa only [AVal] using hrep⟩
        simp only [Nat.add_zero] at hu
        simp [Instr.loadAt, Instr.sureAddr, loadVar, run_isAgg' w h1, h2, ha, hu]
      · cases h

theorem run_loadS (hT : TOk P T) {t : Nat} {row : List S} {y : AV} (h : loadS T t row = some y) {v : Value} (hx : AVal G w β (.s (.pt row)) v) :
    ∃ z, (Instr.loadAt t v).run P w = .ok z w ∧ AVal G w β y z := by
  simp only [AVal, Rep] at hx
  obtain ⟨b, off, rfl, hr⟩ := hx
  exact run_loadAt hT h fun i s hi => (hr.get hi).2

theorem bytes_loop (P : Program) (w : World) : ∀ (l : List UInt8) (s : ByteArray),
    (forIn (m := Sem) (l.map fun b => Value.int .u8 (b.toNat : Int)) s fun c s => do
      let .int .u8 n := c | stuck "bytesToString: byte expected"
      pure (ForInStep.yield (s.push (UInt8.ofNat n.toNat)))).run P w = .ok ⟨s.data ++ l.toArray⟩ w
  | [], s => by simp
  | b :: l, s => by
    simp only [List.map_cons, List.forIn_cons, Sem.run_bind, Sem.run_pure, Result.andThen_ok]
    rw [bytes_loop P w l]
    simp [ByteArray.push]


theorem browRow {row : List S} {b : UInt8} (h : row = brow b) : row.length = 1 := by subst h; rfl

/-- The cells of a slice of bytes. -/
theorem run_loadBytes {l : List UInt8} {b off : Nat} (h : RepRows G w 1 b (l.map brow) off) :
    (loadCells ⟨b, off, none⟩ l.length).run P w = .ok (l.map fun x => Value.int .u8 (x.toNat : Int)).toArray w := by
  have := run_loadCells_list (P := P) w ⟨b, off, none⟩ (l.map fun x => Value.int .u8 (x.toNat : Int)) fun j v hj => by
    rw [List.getElem?_map] at hj
    cases hl : l[j]? with
    | none => rw [hl] at hj; simp at hj
    | some x =>
      rw [hl] at hj; simp at hj; subst hj
      have h1 := h.get (i := j) (r := brow x) (by simp [List.getElem?_map, hl])
      obtain ⟨_, _, ⟨v, hv, hr⟩, _⟩ := h1
      simp only [Rep] at hr
      subst hr
      have : (Addr.mk b off none).add j = ⟨b, off + j * 1, none⟩ := by
        unfold Addr.add; split
        · rename_i e; subst e; simp
        · simp
      rw [this]; exact hv
  simpa using this

theorem run_pConv (hT : TOk P T) {src dst : Nat} {x r : AV} {φ : Option Prop} (h : pConv T src dst x = some (φ, r)) (hφ : φ.getD True) {u : Value} (hx : AVal G w β x u) :
    ∃ z, (convert src dst u).run P w = .ok z w ∧ AVal G w β r z := by
  unfold pConv at h
  split at h
  · rename_i i j hi hj
    obtain ⟨d1, i1, z1, a1, a2, _⟩ := hT src i hi
    obtain ⟨d2, i2, z2, b1, b2, _⟩ := hT dst j hj
    split at h
    · rename_i k1 k2 _ n e1 e2
      cases h
      rw [e1] at a2; rw [e2] at b2
      cases d1 <;> simp only [tkOf, reduceCtorEq] at a2
      cases d2 <;> simp only [tkOf, reduceCtorEq, TK.int.injEq] at b2
      subst b2
      simp only [AVal, Rep] at hx; subst hx
      simp [convert, run_underlying' w a1, run_underlying' w b1, Conv.intToInt, AVal, Rep]
    · rename_i l e1 e2
      cases h
      rw [e1] at a2; rw [e2] at b2
      cases d1 <;> simp only [tkOf, reduceCtorEq] at a2
      cases d2 <;> simp only [tkOf, reduceCtorEq] at b2
      simp only [AVal, Rep] at hx; subst hx
      simp [convert, run_underlying' w a1, run_underlying' w b1, AVal, Rep]
    · rename_i e sz rows e1 e2
      split at h
      · rename_i m hm
        split at h
        · rename_i hk
          cases h
          obtain ⟨d3, i3, z3, c1, c2, _⟩ := hT e m hm
          rw [e1] at a2; rw [e2] at b2; rw [hk] at c2
          cases d1 <;> simp only [tkOf, reduceCtorEq, TK.slice.injEq] at a2
          subst a2
          cases d2 <;> simp only [tkOf, reduceCtorEq] at b2
          cases d3 <;> simp only [tkOf, reduceCtorEq, TK.int.injEq] at c2
          subst c2
          simp only [Option.getD_some] at hφ
          generalize hl : rows.map browOf = l at *
          subst hφ
          simp only [AVal, Rep] at hx
          rcases hx with ⟨h0, o, cp, rfl⟩ | ⟨b, off, cap, rfl, hle, hr⟩
          · have : l = [] := by simpa using h0
            subst this
            refine ⟨.string .empty, ?_, by simp [AVal, Rep]; rfl⟩
            cases o <;> simp [convert, run_underlying' w a1, run_underlying' w b1, run_underlying' w c1, Conv.bytesToString, loadCells, loadCellsFrom]
          · have hsz : l ≠ [] → sz = 1 := fun hne => by
              cases l with
              | nil => exact absurd rfl hne
              | cons y l => have := (hr.get (i := 0) (r := brow y) (by simp)).1; simpa [brow] using this.symm
            have hr1 : RepRows G w 1 b (l.map brow) off := by
              by_cases hne : l = []
              · subst hne; trivial
              · rw [← hsz hne]; exact hr
            refine ⟨.string ⟨l.toArray⟩, ?_, by simp [AVal, Rep]⟩
            have hb := bytes_loop P w l .empty
            have hlb := run_loadBytes (P := P) hr1
            simp only [List.length_map]
            simp only [convert, run_underlying' w a1, run_underlying' w b1, run_underlying' w c1, Sem.run_bind, Result.andThen_ok, Conv.bytesToString, hlb]
            rw [← Array.forIn_toList]
            erw [hb]
            simp
        · cases h
      · cases h
    · cases h
  · cases h

theorem run_pPart (hT : TOk P T) {t : Nat} {xs : List AV} {vs : List Value} {off : Nat} {y : AV} (h : pPart T t xs off = some y) (hv : AVals G w β xs vs) :
    ∃ z, (part t vs.toArray off).run P w = .ok z w ∧ AVal G w β y z := by
  unfold pPart at h
  split at h
  · cases h
  · rename_i i hi
    obtain ⟨d, info, z, h1, h2, h3, h4, _⟩ := hT t i hi
    split at h
    · rename_i ha
      split at h
      · rename_i hle
        cases h
        have hle := Nat.le_of_ble_eq_true hle
        refine ⟨.agg ((vs.drop off).take i.size).toArray, ?_, ?_⟩
        · have : (vs.toArray.extract off (off + i.size)) = ((vs.drop off).take i.size).toArray := by
            apply Array.ext'
            simp
          simp [part, run_isAgg' w h1, h2, ha, run_sizeOf' w h3, h4]
        · simp only [AVal]
          refine ⟨_, rfl, AVals.mk ?_ fun j x v hx hv' => ?_⟩
          · have := hv.length; simp [this]
          · rw [List.getElem?_take, List.getElem?_drop] at hx hv'
            split at hx
            · rename_i hj
              rw [if_pos hj] at hv'
              obtain ⟨v2, h5, h6⟩ := hv.get hx
              rw [h5] at hv'; cases hv'; exact h6
            · cases hx
      · cases h
    · rename_i ha
      obtain ⟨v, h5, h6⟩ := hv.get h
      refine ⟨v, ?_, h6⟩
      simp [part, run_isAgg' w h1, h2, ha, h5]

theorem run_pField (hT : TOk P T) {t f : Nat} {x r : AV} {φ : Option Prop} (h : pField T t x f = some (φ, r)) {u : Value} (hx : AVal G w β x u) :
    ∃ z, (Instr.field t u f).run P w = .ok z w ∧ AVal G w β r z := by
  unfold pField at h
  split at h
  · rename_i i xs hi
    obtain ⟨d, info, z, h1, h2, _⟩ := hT t i hi
    split at h
    · rename_i fs hk
      split at h
      · rename_i off ft hf
        split at h
        · rename_i y hp
          cases h
          rw [hk] at h2
          cases d <;> simp only [tkOf, reduceCtorEq, TK.struct.injEq] at h2
          rename_i fields
          subst h2
          simp only [AVal] at hx
          obtain ⟨vs, rfl, hv⟩ := hx
          rw [List.getElem?_map] at hf
          cases hfa : fields.toList[f]? with
          | none => rw [hfa] at hf; simp at hf
          | some fld =>
            rw [hfa] at hf; simp at hf
            obtain ⟨rfl, rfl⟩ := hf
            obtain ⟨z, hz1, hz2⟩ := run_pPart hT hp hv
            refine ⟨z, ?_, hz2⟩
            have hfa' : fields[f]? = some fld := by simpa using hfa
            simp [Instr.field, run_underlying' w h1, hfa', asAgg, hz1]
        · cases h
      · cases h
    · cases h
  · cases h

theorem run_pIndex (hT : TOk P T) {t : Nat} {x i r : AV} {φ : Option Prop} (h : pIndex T t x i = some (φ, r)) (hφ : φ.getD True) {u v : Value} (hx : AVal G w β x u) (hi : AVal G w β i v) :
    ∃ z, (Instr.index t u v).run P w = .ok z w ∧ AVal G w β r z := by
  unfold pIndex at h
  split at h
  · rename_i ti l k n ht
    obtain ⟨d, info, z, h1, h2, _⟩ := hT t ti ht
    split at h
    · rename_i hk
      cases h
      rw [hk] at h2
      cases d <;> simp only [tkOf, reduceCtorEq] at h2
      simp only [AVal, Rep] at hx hi; subst hx; subst hi
      simp only [Option.getD_some] at hφ
      obtain ⟨h3, h4⟩ := hφ
      have hlt : n.toNat < l.length := by omega
      have hget : (ByteArray.mk l.toArray)[n.toNat]? = some l[n.toNat] := by
        rw [getElem?_pos _ _ (by simpa [ByteArray.size] using hlt)]
        rfl
      refine ⟨_, ?_, by simp [AVal, Rep]; rfl⟩
      simp [Instr.index, asIntOf, run_underlying' w h1, h3, hget, List.getElem?_eq_getElem hlt]
    · cases h
  · rename_i ti xs k n ht
    obtain ⟨d, info, z, h1, h2, _⟩ := hT t ti ht
    split at h
    · rename_i len e hk
      split at h
      · rename_i j hj
        split at h
        · rename_i y hp
          cases h
          obtain ⟨d', info', z', g1, g2, g3, g4, _⟩ := hT e j hj
          rw [hk] at h2
          cases d <;> simp only [tkOf, reduceCtorEq, TK.arr.injEq] at h2
          obtain ⟨rfl, rfl⟩ := h2
          simp only [AVal, Rep] at hx hi; subst hi
          obtain ⟨vs, rfl, hv⟩ := hx
          simp only [Option.getD_some] at hφ
          obtain ⟨z, hz1, hz2⟩ := run_pPart hT hp hv
          refine ⟨z, ?_, hz2⟩
          simp [Instr.index, asIntOf, run_underlying' w h1, hφ.1, hφ.2, run_sizeOf' w g3, g4, hz1]
        · cases h
      · cases h
    · cases h
  · cases h

theorem addr_add (b off n : Nat) : (Addr.mk b off none).add n = ⟨b, off + n, none⟩ := by
  unfold Addr.add; split
  · rename_i e; subst e; simp
  · rfl

theorem pAddr_rep {x y : AV} {n : Nat} (h : pAddr x n = some y) {u : Value} (hx : AVal G w β x u) : ∃ b off, u = .pointer (some ⟨b, off, none⟩) ∧ AVal G w β y (.pointer (some ⟨b, off + n, none⟩)) := by
  cases x with
  | s s =>
    cases s <;> simp only [pAddr, reduceCtorEq, Option.some.injEq] at h
    subst h
    simp only [AVal, Rep] at hx ⊢
    obtain ⟨b, off, rfl, hr⟩ := hx
    exact ⟨b, off, rfl, b, off + n, rfl, hr.drop n⟩
  | op k o =>
    simp only [pAddr, Option.some.injEq] at h; subst h
    simp only [AVal] at hx ⊢
    obtain ⟨b, h1, rfl⟩ := hx
    exact ⟨b, o, rfl, b, h1, rfl⟩
  | rp k sz i o =>
    simp only [pAddr, Option.some.injEq] at h; subst h
    simp only [AVal] at hx ⊢
    obtain ⟨b, m, c, h1, rfl⟩ := hx
    exact ⟨b, i * sz + o, rfl, b, m, c, h1, by rw [Nat.add_assoc]⟩
  | _ => simp only [pAddr, reduceCtorEq] at h

theorem run_pFieldAddr (hT : TOk P T) {t f : Nat} {x r : AV} {φ : Option Prop} (h : pFieldAddr T t x f = some (φ, r)) {u : Value} (hx : AVal G w β x u) :
    ∃ z, (Instr.fieldAt t u f).run P w = .ok z w ∧ AVal G w β r z := by
  unfold pFieldAddr at h
  split at h
  · rename_i i hi
    obtain ⟨d, info, z, h1, h2, _⟩ := hT t i hi
    split at h
    · rename_i fs hk
      split at h
      · rename_i off ft hf
        split at h
        · rename_i j hj
          split at h
          · rename_i y hs hp
            cases h
            obtain ⟨d', info', z', g1, g2, g3, g4, _⟩ := hT ft j hj
            rw [hk] at h2
            cases d <;> simp only [tkOf, reduceCtorEq, TK.struct.injEq] at h2
            rename_i fields
            subst h2
            rw [List.getElem?_map] at hf
            cases hfa : fields.toList[f]? with
            | none => rw [hfa] at hf; simp at hf
            | some fld =>
              rw [hfa] at hf; simp at hf
              obtain ⟨rfl, rfl⟩ := hf
              obtain ⟨b, o, rfl, hy⟩ := pAddr_rep hp hx
              have hfa' : fields[f]? = some fld := by simpa using hfa
              have hne : info'.size ≠ 0 := by have := Nat.le_of_ble_eq_true hs; omega
              refine ⟨_, ?_, hy⟩
              simp [Instr.fieldAt, run_underlying' w h1, hfa', Instr.sureAddr, fieldPlace, run_sizeOf' w g3, hne, addr_add]
          · cases h
        · cases h
      · cases h
    · cases h
  · cases h

theorem run_pIndexAddr (hT : TOk P T) {t : Nat} {x i r : AV} {φ : Option Prop} (h : pIndexAddr T t x i = some (φ, r)) (hφ : φ.getD True) {u v : Value} (hx : AVal G w β x u) (hi : AVal G w β i v) :
    ∃ z, (Instr.indexAt t u v).run P w = .ok z w ∧ AVal G w β r z := by
  unfold pIndexAddr at h
  split at h
  · rename_i ti k n ht
    obtain ⟨d, info, z, h1, h2, _⟩ := hT t ti ht
    simp only [AVal, Rep] at hi; subst hi
    split at h
    · rename_i e sz rows hk
      split at h
      · rename_i j hj
        split at h
        · rename_i hsz
          cases h
          obtain ⟨d', info', z', g1, g2, g3, g4, _⟩ := hT e j hj
          obtain rfl : sz = j.size := Nat.eq_of_beq_eq_true hsz
          rw [hk] at h2
          cases d <;> simp only [tkOf, reduceCtorEq, TK.slice.injEq] at h2
          subst h2
          simp only [Option.getD_some] at hφ
          obtain ⟨h3, h4⟩ := hφ
          have hlt : n.toNat < rows.length := by omega
          simp only [AVal, Rep] at hx
          rcases hx with ⟨rfl, _⟩ | ⟨b, off, cap, rfl, hle, hr⟩
          · simp at hlt
          · have hg := hr.get (i := n.toNat) (r := rows.getD n.toNat []) (by simp [List.getElem?_eq_getElem hlt])
            refine ⟨.pointer (some ⟨b, off + n.toNat * j.size, none⟩), ?_, ?_⟩
            · simp [Instr.indexAt, asIntOf, run_underlying' w h1, h3, h4, run_sizeOf' w g3, g4, addr_add]
            · simp only [AVal, Rep]; exact ⟨b, _, rfl, hg.2⟩
        · cases h
      · cases h
    · rename_i len e hk
      split at h
      · rename_i j hj
        split at h
        · rename_i y hp
          cases h
          obtain ⟨d', info', z', g1, g2, g3, g4, _⟩ := hT e j hj
          rw [hk] at h2
          cases d <;> simp only [tkOf, reduceCtorEq, TK.arr.injEq] at h2
          obtain ⟨rfl, rfl⟩ := h2
          simp only [Option.getD_some] at hφ
          obtain ⟨b, o, rfl, hy⟩ := pAddr_rep hp hx
          refine ⟨_, ?_, hy⟩
          simp [Instr.indexAt, asIntOf, run_underlying' w h1, hφ.1, hφ.2, Instr.sureAddr, run_sizeOf' w g3, g4, addr_add]
        · cases h
      · cases h
    · cases h
  · cases h

end
end Go.Abs
