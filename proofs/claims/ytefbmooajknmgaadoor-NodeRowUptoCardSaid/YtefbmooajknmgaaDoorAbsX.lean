/-
  THE ABSTRACT MACHINE, PART W: more single steps over own objects whose keys are not known in the text; what reads the same.
  THE ABSTRACT MACHINE, PART X: pointers to structs that lie in an own box or in an own row, alike.
-/
import Derived.Test.YtefbmooajknmgaaDoorAbsV
set_option linter.unusedVariables false
namespace Go.Abs

section
variable {T : Nat → Option TI} {Γ : Nat → Option PSpec} {M nm L : List Nat} {N k n : Nat} {all os : List Oper} {o : Oper} {σ σ' : St} {K : St → Prop} {φ : Option Prop} {x : AV} {d : Nat}

theorem s1_sliceA {own : Bool} {t e q kk sz : Nat} {j ti : TI} {y hi : Operand} {n : Int} {ki : IntKind} {rows : List (List AV)} (ho : o.op = .slice t y none (some hi) none) (ht : T t = some ti) (hk : ti.k = .slice e) (hj : T e = some j) (hy : opd T σ.env t y = .orow q)
    (hi' : opd T σ.env 0 hi = .s (.int ki n)) (hh : σ.hp q = some (.arow kk sz rows)) (hz : Nat.beq sz j.size = true) :
    step1 T own o σ = some (some (0 ≤ n ∧ n ≤ rows.length), .orow σ.nx, addOb (ridOb σ q) (.arow kk sz (rows.take n.toNat))) := by
  have e1 : pstep T own o σ.env = none := by simp only [pstep, ho, pSlice, hy, AV.nrm, ht, hk, Option.map_none, Option.map_some, hi']
  have e2 : lstep T own o σ = none := by simp only [lstep, ho, elemOf, ht, hk, hj, hy, hi', hh]
  simp only [step1, e1, lstepB, e2, lstepA, ho, elemOf, ht, hk, hj, hy, hi', hh, hz]
theorem s1_appA {own : Bool} {t tx e q q2 kk kk2 sz sz2 : Nat} {j ti : TI} {args : Array Operand} {ts : Array Nat} {y z : Operand} {rows rows2 : List (List AV)} (ho : o.op = .call { callee := .builtin .append, args := args, argTypes := ts }) (ha : args.toList = [y, z]) (hts : ts.toList = [t, tx])
    (ht : T t = some ti) (hk : ti.k = .slice e) (hj : T e = some j) (htx : tk T tx = .slice e) (hy : opd T σ.env t y = .orow q) (hz : opd T σ.env tx z = .orow q2) (hh : σ.hp q = some (.arow kk sz rows)) (hh2 : σ.hp q2 = some (.arow kk2 sz2 rows2))
    (h1 : Nat.beq sz j.size = true) (h2 : Nat.beq sz2 j.size = true) (h3 : Nat.beq e kk = true) :
    step1 T own o σ = some (some ((rows.length + rows2.length) * j.bytes ≤ 140737488355328 ∧ rows.length + rows2.length ≤ 9223372036854775807), .orow σ.nx, addOb (ridOb σ q) (.arow e sz (rows ++ rows2))) := by
  have e1 : pstep T own o σ.env = none := by simp only [pstep, ho]
  have e2 : lstep T own o σ = none := by simp only [lstep, ho, ha, hts, lAppend, elemOf, ht, hk, hj, hy, baseOf, hh]
  simp only [step1, e1, lstepB, e2, lstepA, ho, ha, hts, elemOf, ht, hk, hj, hy, hz, baseA, hh, rowsA, htx, hh2, h1, h2, h3]
theorem s1_copyA {own : Bool} {t tx e q kk sz sz2 e2 : Nat} {j ti : TI} {args : Array Operand} {ts : Array Nat} {y z : Operand} {rows : List (List AV)} {rows2 : List (List S)} (ho : o.op = .call { callee := .builtin .copy, args := args, argTypes := ts }) (ha : args.toList = [y, z]) (hts : ts.toList = [t, tx])
    (ht : T t = some ti) (hk : ti.k = .slice e) (hj : T e = some j) (htx : tk T tx = .slice e2) (hy : opd T σ.env t y = .orow q) (hz : opd T σ.env tx z = .s (.sl sz2 rows2)) (hh : σ.hp q = some (.arow kk sz rows))
    (h1 : Nat.beq sz j.size = true) (h2 : Nat.beq sz2 j.size = true) :
    step1 T own o σ = some (some ((rows2.map (·.map AV.s)).length = rows.length), .s (.int .i64 (rows.length : Int)), updOb σ q (.arow kk sz (rows2.map (·.map AV.s)))) := by
  have e1 : pstep T own o σ.env = none := by simp only [pstep, ho, ha, hts, pCopy, hy]
  have e2 : lstep T own o σ = none := by simp only [lstep, ho]
  simp only [step1, e1, lstepB, e2, lstepA, ho, ha, hts, elemOf, ht, hk, hj, hy, hz, baseA, hh, rowsA, htx, h1, h2]
theorem s1_mk {own : Bool} {t e : Nat} {j ti : TI} {y z : Operand} {n m : Int} {k1 k2 : IntKind} (hw : own = true) (ho : o.op = .makeSlice t y z) (ht : T t = some ti) (hk : ti.k = .slice e) (hj : T e = some j) (hy : opd T σ.env 0 y = .s (.int k1 n)) (hz : opd T σ.env 0 z = .s (.int k2 m)) (h1 : Nat.ble 1 j.size = true)
    (hp : pstep T own o σ.env = none) :
    step1 T own o σ = some (some (0 ≤ n ∧ n ≤ m ∧ m * j.bytes ≤ 281474976710656 ∧ m ≤ 281474976710656), .orow σ.nx, addOb σ (.row e j.size (List.replicate n.toNat j.zero))) := by
  simp only [step1, hp, lstepB, lstep, ho, elemOf, ht, hk, hj, hy, hz, h1]
end

/- What reads the same. -/
def cellSim (tr2 : Nat → Option Ob) (a b : AV) : Prop := b = a ∨ ∃ y, a = .s y ∧ Rd tr2 b y
def obSim (tr2 : Nat → Option Ob) : Ob → Ob → Prop
  | .box t cs, o => ∃ cs2, o = .box t cs2 ∧ cs2.length = cs.length ∧ ∀ (i : Nat) a b, cs[i]? = some a → cs2[i]? = some b → cellSim tr2 a b
  | .row e sz rows, o => o = .row e sz rows
  | .arow e sz rows, o => ∃ rows2, o = .arow e sz rows2 ∧ rows2.length = rows.length ∧ rows2.flatten.length = rows.flatten.length ∧ ∀ (i : Nat) a b, rows.flatten[i]? = some a → rows2.flatten[i]? = some b → cellSim tr2 a b
theorem Rd.s_inv {hp : Nat → Option Ob} {y s : S} (h : Rd hp (.s y) s) : s = y := by cases h; rfl
theorem cellSim.go {tr tr2 : Nat → Option Ob} {a b : AV} {s : S} (h : cellSim tr2 a b) (hr : Rd tr a s) (ih : Rd tr2 a s) : Rd tr2 b s := by
  rcases h with rfl | ⟨y, rfl, h⟩
  · exact ih
  · rw [hr.s_inv]; exact h
theorem Rd.upd {tr tr2 : Nat → Option Ob} (h : ∀ k ob, tr k = some ob → ∃ ob2, tr2 k = some ob2 ∧ obSim tr2 ob ob2) {x : AV} {s : S} (hr : Rd tr x s) : Rd tr2 x s := by
  induction hr with
  | s x => exact .s x
  | nl sz => exact .nl sz
  | row hk =>
    obtain ⟨ob2, h1, h2⟩ := h _ _ hk
    simp only [obSim] at h2
    subst h2
    exact .row h1
  | arow hk hl hrr hc ih =>
    obtain ⟨ob2, h1, rows2, rfl, h2, h3, h4⟩ := h _ _ hk
    refine .arow h1 (h2.trans hl) hrr fun i x2 s hx hs => ?_
    have hil := (List.getElem?_eq_some_iff.1 hx).1
    rw [h3] at hil
    have ha := List.getElem?_eq_getElem hil
    exact (h4 i _ x2 ha hx).go (hc i _ s ha hs) (ih i _ s ha hs)
  | box hk hl hc ih =>
    obtain ⟨ob2, h1, cs2, rfl, h2, h4⟩ := h _ _ hk
    refine .box h1 (h2.trans hl) fun i x2 s hx hs => ?_
    have hil := (List.getElem?_eq_some_iff.1 hx).1
    rw [h2] at hil
    have ha := List.getElem?_eq_getElem hil
    exact (h4 i _ x2 ha hx).go (hc i _ s ha hs) (ih i _ s ha hs)
  | el hk hl hrr hi hc ih =>
    obtain ⟨ob2, h1, rows2, rfl, h2, h3, h4⟩ := h _ _ hk
    refine .el h1 (h2.trans hl) hrr hi fun i x2 s hx hs => ?_
    have hil := (List.getElem?_eq_some_iff.1 hx).1
    rw [h3] at hil
    have ha := List.getElem?_eq_getElem hil
    exact (h4 i _ x2 ha hx).go (hc i _ s ha hs) (ih i _ s ha hs)
theorem Rd.mono {tr tr2 : Nat → Option Ob} (h : ∀ k ob, tr k = some ob → tr2 k = some ob) {x : AV} {s : S} (hr : Rd tr x s) : Rd tr2 x s := by
  refine hr.upd fun k ob hk => ⟨ob, h k ob hk, ?_⟩
  cases ob with
  | box t cs => exact ⟨cs, rfl, rfl, fun i a b h1 h2 => .inl (by rw [h1] at h2; exact (Option.some.inj h2).symm)⟩
  | row => rfl
  | arow e sz rows => exact ⟨rows, rfl, rfl, rfl, fun i a b h1 h2 => .inl (by rw [h1] at h2; exact (Option.some.inj h2).symm)⟩
end Go.Abs

set_option linter.unusedVariables false
namespace Go.Abs

/-- Of a pointer to a struct of sz cells. -/
def isL (sz : Nat) (p : AV) : Prop := (∃ q i, p = .rp q sz i 0) ∨ (∃ q, p = .op q 0)
def baseK : AV → Nat
  | .op q _ => q
  | .rp q _ _ _ => q
  | _ => 0
def locO (p : AV) (off : Nat) : AV := match p with
  | .op q _ => .op q off
  | .rp q sz i _ => .rp q sz i off
  | x => x
/-- The cells that a pointer points to. -/
def cellsAt (hp : Nat → Option Ob) : AV → Option (List AV)
  | .op q 0 => match hp q with | some (.box _ cs) => some cs | _ => none
  | .rp q sz i 0 => match hp q with | some (.arow _ sz' rows) => bif Nat.beq sz sz' then rows[i]? else none | _ => none
  | _ => none
/-- Other cells there. -/
def putC (hp : Nat → Option Ob) (p : AV) (c : List AV) (k : Nat) : Option Ob := match p with
  | .op q _ => match hp q with | some (.box bt _) => bif Nat.beq k q then some (.box bt c) else hp k | _ => hp k
  | .rp q _ i _ => match hp q with | some (.arow e sz rows) => bif Nat.beq k q then some (.arow e sz (rows.set i c)) else hp k | _ => hp k
  | _ => hp k
theorem beq_ne {k q : Nat} (h : k ≠ q) : Nat.beq k q = false := by
  cases e : Nat.beq k q with
  | true => exact absurd (Nat.eq_of_beq_eq_true e) h
  | false => rfl
theorem putC_other {hp : Nat → Option Ob} {p : AV} {c : List AV} {k : Nat} (h : k ≠ baseK p) : putC hp p c k = hp k := by
  unfold putC
  split
  · rename_i q _
    have h : k ≠ q := h
    split
    · rw [beq_ne h, cond_false]
    · rfl
  · rename_i q _ _ _
    have h : k ≠ q := h
    split
    · rw [beq_ne h, cond_false]
    · rfl
  · rfl
theorem putC_op {hp : Nat → Option Ob} {q o bt : Nat} {cs c : List AV} (h : hp q = some (.box bt cs)) : putC hp (.op q o) c = fun k => bif Nat.beq k q then some (.box bt c) else hp k := by
  funext k; simp only [putC, h]
theorem putC_rp {hp : Nat → Option Ob} {q s i o e sz : Nat} {rows : List (List AV)} {c : List AV} (h : hp q = some (.arow e sz rows)) : putC hp (.rp q s i o) c = fun k => bif Nat.beq k q then some (.arow e sz (rows.set i c)) else hp k := by
  funext k; simp only [putC, h]
theorem cellsAt_op {hp : Nat → Option Ob} {q bt : Nat} {cs : List AV} (h : hp q = some (.box bt cs)) : cellsAt hp (.op q 0) = some cs := by simp only [cellsAt, h]
theorem cellsAt_rp {hp : Nat → Option Ob} {q e sz i : Nat} {rows : List (List AV)} (h : hp q = some (.arow e sz rows)) : cellsAt hp (.rp q sz i 0) = rows[i]? := by simp only [cellsAt, h, Nat.beq_refl, cond_true]
theorem cellsAt_inv {hp : Nat → Option Ob} {sz : Nat} {p : AV} {cs : List AV} (hl : isL sz p) (h : cellsAt hp p = some cs) : (∃ q i e rows, p = .rp q sz i 0 ∧ hp q = some (.arow e sz rows) ∧ rows[i]? = some cs) ∨ ∃ q bt, p = .op q 0 ∧ hp q = some (.box bt cs) := by
  rcases hl with ⟨q, i, rfl⟩ | ⟨q, rfl⟩
  · simp only [cellsAt] at h
    split at h
    · rename_i e sz' rows hq
      cases hb : Nat.beq sz sz' with
      | false => rw [hb] at h; cases h
      | true =>
        rw [hb, cond_true] at h
        obtain rfl := Nat.eq_of_beq_eq_true hb
        exact .inl ⟨q, i, e, rows, rfl, hq, h⟩
    · cases h
  · simp only [cellsAt] at h
    split at h
    · rename_i bt cs' hq
      cases h
      exact .inr ⟨q, bt, rfl, hq⟩
    · cases h
theorem cellsAt_put {hp : Nat → Option Ob} {sz : Nat} {p : AV} {c cs : List AV} (hl : isL sz p) (h : cellsAt hp p = some cs) : cellsAt (putC hp p c) p = some c := by
  rcases cellsAt_inv hl h with ⟨q, i, e, rows, rfl, hq, hi⟩ | ⟨q, bt, rfl, hq⟩
  · rw [putC_rp hq, cellsAt_rp (e := e) (rows := rows.set i c) (by simp only [Nat.beq_refl, cond_true]), List.getElem?_set, if_pos rfl, if_pos (List.getElem?_eq_some_iff.1 hi).1]
  · rw [putC_op hq, cellsAt_op (bt := bt) (cs := c) (by simp only [Nat.beq_refl, cond_true])]
theorem cellsAt_eq {hp hp' : Nat → Option Ob} {sz : Nat} {p : AV} (hl : isL sz p) (h : hp' (baseK p) = hp (baseK p)) : cellsAt hp' p = cellsAt hp p := by
  rcases hl with ⟨q', i', rfl⟩ | ⟨q', rfl⟩ <;> (simp only [baseK] at h; simp only [cellsAt, h])
theorem putC_cell {hp : Nat → Option Ob} {sz : Nat} {p p' : AV} {c cs : List AV} (hl : isL sz p) (hc : cellsAt hp p = some cs) (hl' : isL sz p') (hne : p' ≠ p) : cellsAt (putC hp p c) p' = cellsAt hp p' := by
  by_cases hb : baseK p' = baseK p
  · rcases cellsAt_inv hl hc with ⟨q, i, e, rows, rfl, hq, hi⟩ | ⟨q, bt, rfl, hq⟩
    · have hp2 : putC hp (.rp q sz i 0) c q = some (.arow e sz (rows.set i c)) := by rw [putC_rp hq]; simp only [Nat.beq_refl, cond_true]
      rcases hl' with ⟨q', i', rfl⟩ | ⟨q', rfl⟩ <;> (simp only [baseK] at hb; subst hb)
      · have hi : i' ≠ i := fun e => hne (by rw [e])
        rw [cellsAt_rp hp2, cellsAt_rp hq, List.getElem?_set, if_neg (Ne.symm hi)]
      · simp only [cellsAt, hp2, hq]
    · have hp2 : putC hp (.op q 0) c q = some (.box bt c) := by rw [putC_op hq]; simp only [Nat.beq_refl, cond_true]
      rcases hl' with ⟨q', i', rfl⟩ | ⟨q', rfl⟩ <;> (simp only [baseK] at hb; subst hb)
      · simp only [cellsAt, hp2, hq]
      · exact absurd rfl hne
  · exact cellsAt_eq hl' (putC_other hb)
theorem putC_row {hp : Nat → Option Ob} {sz' : Nat} {p : AV} {c cs : List AV} (hl : isL sz' p) (hc : cellsAt hp p = some cs) {q e sz : Nat} {rows : List (List AV)} (h : hp q = some (.arow e sz rows)) : ∃ rows', putC hp p c q = some (.arow e sz rows') ∧ rows'.length = rows.length := by
  by_cases hb : q = baseK p
  · subst hb
    rcases cellsAt_inv hl hc with ⟨q, i, e', rows', rfl, hq, hi⟩ | ⟨q, bt, rfl, hq⟩
    · simp only [baseK] at h ⊢
      rw [hq] at h; cases h
      rw [putC_rp hq]; exact ⟨_, by simp only [Nat.beq_refl, cond_true]; rfl, List.length_set ..⟩
    · simp only [baseK] at h
      rw [hq] at h; cases h
  · rw [putC_other hb]; exact ⟨rows, h, rfl⟩

section
variable {T : Nat → Option TI} {Γ : Nat → Option PSpec} {M nm L : List Nat} {N k n : Nat} {all os : List Oper} {o : Oper} {σ σ' : St} {K : St → Prop} {φ : Option Prop} {x : AV} {d : Nat}

theorem s1_nilL {own : Bool} {sz : Nat} {p : AV} {y : Operand} (hl : isL sz p) (ho : o.op = .nilCheck y) (hy : opd T σ.env 0 y = p) : step1 T own o σ = some (none, p, σ) := by
  have e1 : pstep T own o σ.env = some (none, p) := by
    rcases hl with ⟨q, i, rfl⟩ | ⟨q, rfl⟩ <;> simp only [pstep, ho, hy]
  simp only [step1, e1]
theorem s1_fldL {own : Bool} {sz : Nat} {p : AV} {t f off ft : Nat} {ti j : TI} {fs : List (Nat × Nat)} {y : Operand} (hl : isL sz p) (ho : o.op = .fieldAddr t y f) (hy : opd T σ.env 0 y = p) (ht : T t = some ti) (hk : ti.k = .struct fs) (hf : fs[f]? = some (off, ft)) (hj : T ft = some j) (hz : Nat.ble 1 j.size = true) :
    step1 T own o σ = some (none, locO p off, σ) := by
  have e1 : pstep T own o σ.env = some (none, locO p off) := by
    rcases hl with ⟨q, i, rfl⟩ | ⟨q, rfl⟩ <;> simp only [pstep, ho, hy, pFieldAddr, ht, hk, hf, hj, hz, pAddr, locO, Nat.zero_add]
  simp only [step1, e1]
theorem evOps_ldL {sz t off : Nat} {ti : TI} {y : Operand} {p c : AV} {cs : List AV} (hg : o.guard = none) (hd : o.dst = some d) (hN : Nat.blt d N = true) (hn : dIn (some d) nm = false) (ho : o.op = .load t y) (ht : T t = some ti) (ha : ti.k.agg = false) (hl : isL sz p) (hy : opd T σ.env 0 y = locO p off)
    (hcs : cellsAt σ.hp p = some cs) (hc : cs[off]? = some c) (h : evOps T Γ M nm N all os (σ.putN d c) K) : evOps T Γ M nm N all (o :: os) σ K := by
  rcases cellsAt_inv hl hcs with ⟨q, i, e, rows, rfl, hq, hi⟩ | ⟨q, bt, rfl, hq⟩
  · have hgd : rows.getD i [] = cs := by rw [List.getD_eq_getElem?_getD, hi]; rfl
    refine evOps_ldA hg hd hN hn ho hy hq (List.getElem?_eq_some_iff.1 hi).1 (c := c) ?_ h
    simp only [loadA, ht, ha, hgd]
    rw [List.drop_eq_getElem_cons (List.getElem?_eq_some_iff.1 hc).1]
    simp only [(List.getElem?_eq_some_iff.1 hc).2]
  · have hcall : callOf T Γ o σ.env = none := by simp only [callOf, ho]
    exact evOps_step hg hd hN hcall hn (s1_loadB ho ht ha hy hq hc) trivial h
theorem evOps_stL {sz t off : Nat} {ti : TI} {y z : Operand} {p c : AV} {cs : List AV} (hg : o.guard = none) (hd : o.dst = none) (ho : o.op = .store t y z) (ht : T t = some ti) (hs : ti.size = 1) (hl : isL sz p) (hy : opd T σ.env 0 y = locO p off)
    (hcs : cellsAt σ.hp p = some cs) (hlen : cs.length = sz) (hoff : off < sz) (hz : (opd T σ.env t z).cellsA = [c]) (ho1 : c.one = true) (hlt : c.lt σ.nx = true)
    (h : evOps T Γ M nm N all os { σ with hp := putC σ.hp p (cs.set off c) } K) : evOps T Γ M nm N all (o :: os) σ K := by
  have hcall : callOf T Γ o σ.env = none := by simp only [callOf, ho]
  have hset : cs.take off ++ [c] ++ cs.drop (off + 1) = cs.set off c := by
    rw [List.set_eq_take_append_cons_drop, if_pos (by omega)]; simp
  have h1 : Nat.ble (off + 1) sz = true := Nat.ble_eq_true_of_le hoff
  rcases cellsAt_inv hl hcs with ⟨q, i, e, rows, rfl, hq, hi⟩ | ⟨q, bt, rfl, hq⟩
  · have hgd : rows.getD i [] = cs := by rw [List.getD_eq_getElem?_getD, hi]; rfl
    have hst := s1_storeA (T := T) (own := dIn none M) (o := o) (σ := σ) ho ht hy hq (Nat.beq_refl _) (by rw [hz, hs]; rfl) (by rw [hs]; exact h1) (by rw [hz]; simp [ho1])
    refine evOps_step0 hg hd hcall hst (List.getElem?_eq_some_iff.1 hi).1 ?_
    rw [hgd, hz, hs, hset]
    rw [putC_rp hq] at h
    exact h
  · have hst := s1_storeB (T := T) (own := dIn none M) (o := o) (σ := σ) ho ht hy hq (by rw [hz, hs]; rfl) (by rw [hs, hlen]; exact h1) (by rw [hz]; simp [ho1]) (by rw [hz]; simp [AV.ltAll, hlt])
    refine evOps_step0 hg hd hcall hst trivial ?_
    rw [hz, hs, hset]
    rw [putC_op hq] at h
    exact h
/-- A copy in which nothing is left but fewer objects. -/
theorem Le.fewer {c : Cx} {σ : St} (l : List (Nat × AV)) (hp' : Nat → Option Ob) (h : holds σ.env l) (hh : ∀ k ob, hp' k = some ob → σ.hp k = some ob) : Le c σ ⟨ofL l, hp', σ.nx⟩ := by
  refine Le.trans (Le.forget l h) ?_
  unfold Le
  intro G β a w hc
  exact ⟨G, β, { hc with hp := fun k ob hk => hc.hp k ob (hh k ob hk), hplt := fun k ob hk => hc.hplt k ob (hh k ob hk), inj := fun k k' ob ob' hk hk' => hc.inj k k' ob ob' (hh k ob hk) (hh k' ob' hk') }⟩
end

/-- Whoever hands back own memory may be taken to hand back data. -/
theorem PSound.giveAll {P : Program} {f : Nat} {R : List AV → (Nat → Option Ob) → Nat → (AV → (Nat → Option Ob) → Nat → Prop) → Prop} {S : List AV → Ret → Prop} (h : PSound P f (hspec R))
    (hS : ∀ xs r, S xs r → ∃ y, r = .val y ∧ y.pers = true ∧ R xs (fun _ => none) 0 fun x hp n => RdV hp x y) : PSound P f (pspec S) := by
  refine ⟨h.1, fun G w xs vs r hlt hgl hp hv hs => ?_, fun R hR => (by cases hR), fun R hR => (by cases hR)⟩
  obtain ⟨y, rfl, hy, hR⟩ := hS xs r hs
  refine (h.2.2.2 R rfl G w (fun _ => .tuple #[]) xs vs (fun _ => none) 0 _ hlt hgl hv (AV.persAll_lt hp) ⟨fun k ob hk => (by cases hk), fun k ob hk => (by cases hk), fun k k' ob ob' hk => (by cases hk)⟩ hR).mono ?_
  rintro e w' ⟨v, G', β', x, hp', n', rfl, hΦ, hn, hfr, hsub, hnew, hlt', hx, hxl, hob, hst⟩
  let c : Cx := heapCx P w (fun _ => .tuple #[]) (fun _ => none) 0 G 0
  have hk : Keep G G' w w' := ⟨hsub, fun b hb => hfr.old b (hlt b hb) (by rintro ⟨k, ob, h, _⟩; cases h)⟩
  have hc : Conc c G' β' ⟨fun _ => .junk, hp', n'⟩ { tmps := #[], defers := [] } w' := {
    defers := rfl
    size := rfl
    env := fun t => by simp only [AVal]
    envlt := fun t => rfl
    hp := hob.obs
    hplt := hob.lts
    inj := hob.inj
    lt := hlt'
    sub := hsub
    new := hnew
    fr := hfr
    stay := ⟨hn, hst⟩
    glob := hgl.keep hk }
  have hmine : ∀ b, c.mine b → w.heap.size ≤ b := fun b hb => by
    rcases hb with ⟨k, ob, h, _⟩ | h
    · cases h
    · exact h
  refine ⟨v, allG G' β' hp', rfl, ⟨hfr.os, hfr.tape, hfr.output, hfr.size, fun b hb => hfr.old b hb (by rintro ⟨k, ob, h, _⟩; cases h), fun b hb => .inl (hsub b hb), fun b hb => ?_, fun b hb => ?_⟩, hy, (hΦ.aval hc hx).pers hy⟩
  · rcases hb with hb | ⟨k, ob, h1, h2⟩
    · exact (hnew b hb).imp id (hmine b)
    · exact .inr (hmine b (row_block (hc.hp k ob h1) b h2).2)
  · rcases hb with hb | ⟨k, ob, h1, h2⟩
    · exact hlt' b hb
    · exact hc.blk_lt h1 h2
end Go.Abs
