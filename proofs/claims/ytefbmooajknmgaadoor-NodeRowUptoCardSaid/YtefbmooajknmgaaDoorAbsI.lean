/-
  THE ABSTRACT MACHINE, PART I: 'lstep' and 'cstep' do what they say.
-/
import Derived.Test.YtefbmooajknmgaaDoorAbsH
set_option linter.unusedSimpArgs false
set_option linter.unusedVariables false
namespace Go.Abs

theorem Conc.blk_lt {c : Cx} {G : Nat → Prop} {β : Nat → Value} {σ : St} {a : Act} {w : World} (h : Conc c G β σ a w) {k : Nat} {ob : Ob} (hk : σ.hp k = some ob) {b : Nat} (hb : blk (β k) = some b) : b < w.heap.size := by
  have ho := h.hp k ob hk
  cases ob with
  | box cells =>
    obtain ⟨b', e, cur, h1, h2, _⟩ := ho
    rw [h1] at hb; cases hb
    exact (Array.getElem?_eq_some_iff.1 h2).1
  | row e sz rows =>
    obtain ⟨_, _, h1⟩ := ho
    rcases h1 with ⟨h1, _⟩ | ⟨b', cap, cur, h1, _, _, h2, _⟩
    · rw [h1] at hb; cases hb
    · rw [h1] at hb; cases hb
      exact (Array.getElem?_eq_some_iff.1 h2).1
  | arow e sz rows =>
    obtain ⟨_, _, h1⟩ := ho
    rcases h1 with ⟨h1, _⟩ | ⟨b', cap, cur, h1, _, _, h2, _⟩
    · rw [h1] at hb; cases hb
    · rw [h1] at hb; cases hb
      exact (Array.getElem?_eq_some_iff.1 h2).1

theorem Ext.own {G : Nat → Prop} {w : World} (h : ∀ b, G b → b < w.heap.size) (o : Obj) : Ext G G w (w.alloc o) :=
  ⟨rfl, rfl, rfl, by simp, fun _ hb => heap_push_old w o hb, fun _ h => h, fun _ h => .inl h, fun b hb => by have := h b hb; simp; omega⟩

/-- A new block, the frame's own. -/
theorem Conc.fresh {c : Cx} {G : Nat → Prop} {β : Nat → Value} {σ : St} {a : Act} {w : World} (h : Conc c G β σ a w) (cur : Array Value) (e : TypeId) {ob : Ob} {v : Value} (hb : ∀ b, blk v = some b → b = w.heap.size)
    (ho : Conc c G β σ a (w.alloc (.cells cur e)) → ObAt c G (w.alloc (.cells cur e)) β v ob) (hl : ob.lt σ.nx = true) :
    ∃ β', (∀ k, k < σ.nx → β' k = β k) ∧ β' σ.nx = v ∧ Conc c G β' (addOb σ ob) a (w.alloc (.cells cur e)) := by
  have h1 := h.ext (Ext.own h.lt (.cells cur e))
  obtain ⟨β', b1, b2, b3⟩ := h1.make (ho h1) hl (fun k ob' hk b hv e' => by
    have := h.blk_lt hk e'
    rw [hb b hv] at this
    omega)
  exact ⟨β', b1, b2, b3⟩

theorem mine_new {c : Cx} {G : Nat → Prop} {β : Nat → Value} {σ : St} {a : Act} {w : World} (h : Conc c G β σ a w) : c.mine w.heap.size := .inr h.fr.size
theorem notG_new {c : Cx} {G : Nat → Prop} {β : Nat → Value} {σ : St} {a : Act} {w : World} (h : Conc c G β σ a w) : ¬ G w.heap.size := fun hg => Nat.lt_irrefl _ (h.lt _ hg)

/-- A new row of its own out of cells. -/
theorem Conc.freshRow {c : Cx} {G : Nat → Prop} {β : Nat → Value} {σ : St} {a : Act} {w : World} (h : Conc c G β σ a w) (cur : Array Value) (e sz cap : Nat) (rows : List (List S)) (hlen : ∀ r ∈ rows, r.length = sz) (hsz : 0 < sz)
    (hcap : rows.length ≤ cap) (hcur : cur.size = cap * sz) (hc : ∀ (i : Nat) s, rows.flatten[i]? = some s → ∃ u, cur[i]? = some u ∧ Rep G w s u) :
    ∃ β', (∀ k, k < σ.nx → β' k = β k) ∧ β' σ.nx = .slice (some ⟨w.heap.size, 0, none⟩) rows.length cap ∧ Conc c G β' (addOb σ (.row e sz rows)) a (w.alloc (.cells cur e)) :=
  h.fresh cur e (by simp [blk]) (fun h1 => ⟨hlen, hsz, .inr ⟨w.heap.size, cap, cur, rfl, hcap, hcur, heap_push_new _ _, notG_new h, mine_new h, fun i s hi =>
    let ⟨u, hu, hr⟩ := hc i s hi; ⟨u, hu, hr.keep ((Ext.own h.lt _).keep h.lt)⟩⟩⟩) rfl

theorem reps_get {G : Nat → Prop} {w : World} {ss : List S} {vs : List Value} (h : Reps G w ss vs) {i : Nat} {s : S} (hi : ss[i]? = some s) : ∃ u, vs[i]? = some u ∧ Rep G w s u := by
  have hlt : i < vs.length := by rw [h.1]; exact (List.getElem?_eq_some_iff.1 hi).1
  exact ⟨vs[i], List.getElem?_eq_getElem hlt, h.2 i s _ hi (List.getElem?_eq_getElem hlt)⟩

theorem flatten_replicate (z : List S) : ∀ n i, (List.replicate n z).flatten[i]? = if i < n * z.length then z[i % z.length]? else none
  | 0, i => by simp
  | n + 1, i => by
    rw [List.replicate_succ, List.flatten_cons, List.getElem?_append]
    have e : (n + 1) * z.length = n * z.length + z.length := by rw [Nat.add_mul]; omega
    split
    · rename_i hlt
      rw [if_pos (by omega), Nat.mod_eq_of_lt hlt]
    · rename_i hlt
      rw [flatten_replicate z n (i - z.length)]
      by_cases h2 : i < (n + 1) * z.length
      · rw [if_pos h2, if_pos (by omega), ← Nat.mod_eq_sub_mod (by omega)]
      · rw [if_neg h2, if_neg (by omega)]

theorem elem_info {T : Nat → Option TI} {t e : Nat} {j : TI} (h : elemOf T t = some (e, j)) : ∃ i, T t = some i ∧ i.k = .slice e ∧ T e = some j := by
  unfold elemOf at h
  split at h
  · rename_i i hi
    split at h
    · rename_i e' hk
      split at h
      · rename_i j' hj; cases h; exact ⟨i, hi, hk, hj⟩
      · cases h
    · cases h
  · cases h

theorem under_of_tk {P : Program} {T : Nat → Option TI} (hT : TOk P T) {t e : Nat} (h : tk T t = .slice e) : P.underlying t = some (.slice e) := by
  obtain ⟨d, hd, hk⟩ := tk_desc hT h (by simp)
  cases d <;> simp only [tkOf, reduceCtorEq, TK.slice.injEq] at hk
  subst hk; exact hd

theorem rowsOf_reads {c : Cx} {T : Nat → Option TI} {G : Nat → Prop} {β : Nat → Value} {σ : St} {a : Act} {w : World} (hT : TOk c.P T) (hc : Conc c G β σ a w) {tx sz : Nat} {y : AV} {rows : List (List S)} (h : rowsOf T σ tx y = some (sz, rows))
    {v : Value} (hv : AVal G w β y v) : Reads G w c.P tx sz rows v := by
  unfold rowsOf at h
  split at h
  · rename_i e sz0 hk
    cases h
    have hu := under_of_tk hT hk
    simp only [AVal] at hv; subst hv
    exact ⟨⟨[], Src.ofNil w hu 0, ⟨rfl, fun i s v hs => by simp at hs⟩⟩, fun r hr => by cases hr⟩
  · rename_i e sz0 rows0 hk
    cases h
    have hu := under_of_tk hT hk
    simp only [AVal] at hv
    exact reads_sl hu hv (.inr trivial)
  · rename_i e k hk
    split at h
    · rename_i e0 sz0 rows0 hh
      cases h
      have hu := under_of_tk hT hk
      simp only [AVal] at hv
      obtain ⟨rfl, _⟩ := hv
      exact reads_own hu (hc.hp k _ hh)
    · cases h
  · rename_i l hk
    cases h
    obtain ⟨d, hd, hk'⟩ := tk_desc hT hk (by simp)
    cases d <;> simp only [tkOf, reduceCtorEq] at hk'
    simp only [AVal, Rep] at hv; subst hv
    exact reads_str hd
  · cases h

theorem blkEq_drop {c : Cx} {G : Nat → Prop} {β : Nat → Value} {σ : St} {a : Act} {w : World} (hc : Conc c G β σ a w) {k : Nat} {ob : Ob} (hk : σ.hp k = some ob) :
    ∀ k' ob', (ridOb σ k).hp k' = some ob' → ∀ b, blk (β k') = some b → some b ≠ blk (β k) := fun k' ob' hk' b hb e => by
  unfold ridOb at hk'
  dsimp only at hk'
  cases e1 : Nat.beq k' k with
  | true => rw [e1, cond_true] at hk'; cases hk'
  | false =>
    rw [e1, cond_false] at hk'
    exact hc.inj k' k ob' ob hk' hk (Nat.ne_of_beq_eq_false e1) b hb e.symm

theorem row_block {c : Cx} {G : Nat → Prop} {w : World} {β : Nat → Value} {v : Value} {ob : Ob} (h : ObAt c G w β v ob) : ∀ b, blk v = some b → ¬ G b ∧ c.mine b := fun b hb => by
  cases ob with
  | box cells =>
    obtain ⟨b', e, cur, rfl, _, h3, h4, _⟩ := h
    cases hb; exact ⟨h3, h4⟩
  | row e sz rows =>
    obtain ⟨_, _, h1⟩ := h
    rcases h1 with ⟨rfl, _⟩ | ⟨b', cap, cur, rfl, _, _, _, h3, h4, _⟩
    · cases hb
    · cases hb; exact ⟨h3, h4⟩
  | arow e sz rows =>
    obtain ⟨_, _, h1⟩ := h
    rcases h1 with ⟨rfl, _⟩ | ⟨b', cap, cur, rfl, _, _, _, h3, h4, _⟩
    · cases hb
    · cases hb; exact ⟨h3, h4⟩

/-- The row k is let go; its block, and new ones, become a new row. -/
theorem Conc.turn {c : Cx} {G : Nat → Prop} {β : Nat → Value} {σ : St} {a : Act} {w w' : World} (hc : Conc c G β σ a w) {k : Nat} {ob ob' : Ob} (hk : σ.hp k = some ob) {v' : Value}
    (h : Appended c G w β (β k) ob' v' w') (hl : ob'.lt σ.nx = true) :
    ∃ β', (∀ j, j < σ.nx → β' j = β j) ∧ β' σ.nx = v' ∧ Conc c G β' (addOb (ridOb σ k) ob') a w' := by
  obtain ⟨h1, h2, h3, h4, h5, h6, h7⟩ := h
  have hd := hc.drop k
  have hn := blkEq_drop hc hk
  have ho := hd.other (w' := w') (blk (β k)) (fun k' o' hk' b hb => hn k' o' hk' b hb) (fun b hb => row_block (hc.hp k ob hk) b hb) h1 h2 h3 h4 h5
  obtain ⟨β', b1, b2, b3⟩ := ho.make h6 hl (fun k' o' hk' b hb e => by
    rcases h7 b hb with h7 | h7
    · exact hn k' o' hk' b e h7.symm
    · have := hd.blk_lt hk' e; omega)
  exact ⟨β', b1, b2, b3⟩

theorem ltAll_get {n : Nat} : ∀ {l : List AV} {q : Nat} {y : AV}, AV.ltAll n l = true → l[q]? = some y → y.lt n = true
  | [], _, _, _, h => by simp at h
  | a :: l, 0, y, h, hq => by
    simp only [AV.ltAll, Bool.and_eq_true] at h
    simp at hq; subst hq; exact h.1
  | a :: l, q + 1, y, h, hq => by
    simp only [AV.ltAll, Bool.and_eq_true] at h
    exact ltAll_get h.2 (by simpa using hq)
theorem ltAll_mk {n : Nat} : ∀ {l : List AV}, (∀ (q : Nat) (y : AV), l[q]? = some y → y.lt n = true) → AV.ltAll n l = true
  | [], _ => rfl
  | a :: l, h => by
    simp only [AV.ltAll, Bool.and_eq_true]
    exact ⟨h 0 a rfl, ltAll_mk fun q y hq => h (q + 1) y (by simpa using hq)⟩
theorem ltAll_s {n : Nat} (l : List S) : AV.ltAll n (l.map AV.s) = true := by
  induction l with
  | nil => rfl
  | cons a l ih => simp [AV.ltAll, AV.lt, ih]
theorem loadS_lt {T : Nat → Option TI} {t : Nat} {row : List S} {y : AV} {n : Nat} (h : loadS T t row = some y) : y.lt n = true := by
  unfold loadS at h
  split at h
  · cases h
  · split at h
    · split at h
      · cases h; simp only [AV.lt]; exact ltAll_s _
      · cases h
    · split at h
      · cases h; rfl
      · cases h

/-- The cell q of the rows, where it lies in row j. -/
theorem flatten_get {α : Type} (sz : Nat) : ∀ {rows : List (List α)} {j q : Nat}, (∀ r ∈ rows, r.length = sz) → (hj : j < rows.length) → j * sz ≤ q → q < j * sz + sz → rows.flatten[q]? = (rows[j])[q - j * sz]?
  | [], _, _, _, hj, _, _ => by simp at hj
  | r :: rows, 0, q, hl, hj, h1, h2 => by
    have hr : r.length = sz := hl r (by simp)
    rw [List.flatten_cons, List.getElem?_append, if_pos (by omega)]; simp
  | r :: rows, j + 1, q, hl, hj, h1, h2 => by
    have hr : r.length = sz := hl r (by simp)
    rw [Nat.add_mul] at h1 h2
    rw [List.flatten_cons, List.getElem?_append, if_neg (by omega), flatten_get sz (j := j) (fun r hr => hl r (by simp [hr])) (by simpa using hj) (by omega) (by omega)]
    simp only [List.getElem_cons_succ]
    congr 1
    rw [Nat.add_mul]; omega
theorem flatten_set {α : Type} (sz : Nat) : ∀ {rows : List (List α)} {j : Nat} {nr : List α}, (∀ r ∈ rows, r.length = sz) → j < rows.length → nr.length = sz → ∀ {q : Nat},
    (rows.set j nr).flatten[q]? = if j * sz ≤ q ∧ q < j * sz + sz then nr[q - j * sz]? else rows.flatten[q]?
  | [], _, _, _, hj, _, _ => by simp at hj
  | r :: rows, 0, nr, hl, hj, hn, q => by
    have hr : r.length = sz := hl r (by simp)
    rw [List.set_cons_zero, List.flatten_cons, List.flatten_cons, List.getElem?_append, List.getElem?_append, hn, hr]
    by_cases h : q < sz
    · rw [if_pos h, if_pos (by omega)]; simp
    · rw [if_neg h, if_neg (by omega), if_neg h]
  | r :: rows, j + 1, nr, hl, hj, hn, q => by
    have hr : r.length = sz := hl r (by simp)
    rw [List.set_cons_succ, List.flatten_cons, List.flatten_cons, List.getElem?_append, List.getElem?_append, hr, flatten_set sz (fun r hr => hl r (by simp [hr])) (by simpa using hj) hn, Nat.add_mul]
    by_cases h : q < sz
    · rw [if_pos h, if_pos h, if_neg (by omega)]
    · rw [if_neg h, if_neg h]
      by_cases h2 : j * sz ≤ q - sz ∧ q - sz < j * sz + sz
      · rw [if_pos h2, if_pos (by omega)]; congr 1; omega
      · rw [if_neg h2, if_neg (by omega)]

theorem ones_of {G : Nat → Prop} {w : World} {β : Nat → Value} {xs : List AV} {vs : List Value} (h : AVals G w β xs vs) (ho : xs.all AV.one = true) : ∀ u ∈ vs, u.oneCell' = true := fun u hu => by
  obtain ⟨m, hm⟩ := List.getElem?_of_mem hu
  have hlt : m < xs.length := by rw [← h.length]; exact (List.getElem?_eq_some_iff.1 hm).1
  obtain ⟨u', h1, h2⟩ := h.get (List.getElem?_eq_getElem hlt)
  rw [hm] at h1; cases h1
  exact AVal.one (List.all_eq_true.1 ho _ (List.getElem_mem hlt)) h2

theorem eval_call {P : Program} {a : Act} {o : Oper} {w w' : World} {b : Builtin} {args : Array Operand} {ts : Array TypeId} (ho : o.op = .call { callee := .builtin b, args := args, argTypes := ts }) {v : Value}
    (h : ∀ cs, (builtin b ts o.type cs (args.map a.eval)).run P w = .ok (.value v) w') : (execOp a.eval o).run P w = .ok (.value v) w' := by
  simp [execOp, ho, resolve, invoke, h]

/-- An own object is given up, its block turned. -/
theorem Conc.hand {c : Cx} {G : Nat → Prop} {β : Nat → Value} {σ : St} {a : Act} {w w' : World} (h : Conc c G β σ a w) {j : Nat} {ob : Ob} (hj : σ.hp j = some ob)
    {b : Nat} (hb : blk (β j) = some b) (hos : w'.os = w.os) (htape : w'.tape = w.tape) (hout : w'.output = w.output) (hsize : w'.heap.size = w.heap.size)
    (hold : ∀ i, i ≠ b → w'.heap[i]? = w.heap[i]?) : Conc c (fun i => G i ∨ i = b) β (ridOb σ j) a w' := by
  obtain ⟨hg, hm⟩ := row_block (h.hp j ob hj) b hb
  have k : Keep G (fun i => G i ∨ i = b) w w' := ⟨fun _ h => .inl h, fun i hi => hold i (fun e => hg (e ▸ hi))⟩
  have hget : ∀ {k' o}, (ridOb σ j).hp k' = some o → k' ≠ j ∧ σ.hp k' = some o := fun {k' o} hk => by
    simp only [ridOb] at hk
    cases e : Nat.beq k' j with
    | true => rw [e, cond_true] at hk; cases hk
    | false => rw [e, cond_false] at hk; exact ⟨Nat.ne_of_beq_eq_false e, hk⟩
  have hne : ∀ {k' o}, σ.hp k' = some o → k' ≠ j → ∀ {b' : Nat}, blk (β k') = some b' → b' ≠ b := fun {k' o} hk hn {b'} hb' e => h.inj k' j o ob hk hj hn b (e ▸ hb') hb
  refine { h with env := fun t => (h.env t).keep k, hp := fun k' o hk => ?_, hplt := fun k' o hk => h.hplt k' o (hget hk).2, inj := fun k1 k2 o1 o2 h1 h2 => h.inj k1 k2 o1 o2 (hget h1).2 (hget h2).2, lt := fun i hi => ?_, sub := fun i hi => .inl (h.sub i hi), new := fun i hi => hi.elim (h.new i) (fun e => .inr (e ▸ hm)), fr := ?_, glob := h.glob.keep k }
  · obtain ⟨hn, hk0⟩ := hget hk
    have ho := h.hp k' o hk0
    cases o with
    | box cells =>
      obtain ⟨b', e', cur, h1, h2, h3, h4, h5, h6⟩ := ho
      have hbb := hne hk0 hn (b' := b') (by rw [h1]; rfl)
      exact ⟨b', e', cur, h1, by rw [hold b' hbb]; exact h2, fun hh => hh.elim h3 hbb, h4, h5.keep k, h6⟩
    | row e' sz rows =>
      obtain ⟨h0, h0', h1⟩ := ho
      refine ⟨h0, h0', h1.imp id ?_⟩
      rintro ⟨b', cap, cur, h1, h2, h3, h4, h5, h6, h7⟩
      have hbb := hne hk0 hn (b' := b') (by rw [h1]; rfl)
      exact ⟨b', cap, cur, h1, h2, h3, by rw [hold b' hbb]; exact h4, fun hh => hh.elim h5 hbb, h6, fun i s hi => let ⟨u, hu, hr⟩ := h7 i s hi; ⟨u, hu, hr.keep k⟩⟩
    | arow e' sz rows => exact ho.moveA (fun b' x hb' hx => by rw [hold b' (hne hk0 hn hb')]; exact hx) (fun b' x hb' _ hg hh => hh.elim hg (hne hk0 hn hb')) (fun _ _ h => h) (fun _ _ _ _ hr => hr.keep k)
  · rw [hsize]
    rcases hi with hi | rfl
    · exact h.lt i hi
    · exact h.blk_lt hj hb
  · refine ⟨hos.trans h.fr.os, htape.trans h.fr.tape, hout.trans h.fr.output, by rw [hsize]; exact h.fr.size, fun i hi hx => (hold i ?_).trans (h.fr.old i hi hx)⟩
    rintro rfl
    rcases hm with hm | hm
    · exact hx hm
    · omega

/-- A load through a pointer into an own row: the element, as the walk names it. -/
theorem load_rp {c : Cx} {T : Nat → Option TI} {G : Nat → Prop} {β : Nat → Value} {σ : St} {a : Act} {w : World} (hT : TOk c.P T)
    (hc : Conc c G β σ a w) {o : Oper} {t : Nat} {y : Operand} (ho : o.op = .load t y) {k sz i off e' : Nat} (e : opd T σ.env 0 y = .rp k sz i off) {rows : List (List S)} (hh : σ.hp k = some (.row e' sz rows)) (hφ : i < rows.length) {x : AV}
    (hl : loadS T t ((rows.getD i []).drop off) = some x) {K : Act → World → Prop} {Q : Exit → Act → World → Prop}
    (hK' : ∀ v, AVal G w β x v → x.lt σ.nx = true → K (a.put o.dst v) w) : o.wp c.P a w K Q := by
  have hρ : ∀ ty x, AVal G w β (opd T σ.env ty x) (a.eval x) := opd_rep hc T
  have hy := hρ 0 y
  rw [e] at hy
  simp only [AVal] at hy
  obtain ⟨b, n, cp, hβ, hv⟩ := hy
  have ho' := hc.hp k _ hh
  obtain ⟨hlen, hs0, ho'⟩ := ho'
  rcases ho' with ⟨_, rfl⟩ | ⟨b', cap, cur, o1, o2, o3, o4, o5, o6, o7⟩
  · simp at hφ
  rw [hβ] at o1
  cases o1
  have hrow : ∀ q s, (rows.getD i [])[q]? = some s → ∃ u, w.cell? ⟨b, i * sz + q, none⟩ = some u ∧ Rep G w s u := fun q s hq => by
    have hq' : rows.flatten[i * sz + q]? = some s := by
      have hg : rows.getD i [] = rows[i] := by simp [List.getElem?_eq_getElem hφ]
      rw [hg] at hq
      have hql : q < sz := by rw [← hlen rows[i] (List.getElem_mem hφ)]; exact (List.getElem?_eq_some_iff.1 hq).1
      have : ∀ (rs : List (List S)) (i : Nat) (hi : i < rs.length), (∀ r ∈ rs, r.length = sz) → ∀ q, q < sz → rs.flatten[i * sz + q]? = (rs[i])[q]? := by
        intro rs
        induction rs with
        | nil => intro i hi; simp at hi
        | cons r rs ih =>
          intro i hi hl q hq
          have hr : r.length = sz := hl r (by simp)
          rw [List.flatten_cons, List.getElem?_append]
          cases i with
          | zero => rw [if_pos (by omega)]; simp
          | succ i =>
            rw [if_neg (by rw [Nat.add_mul]; omega)]
            have := ih i (by simpa using hi) (fun r hr => hl r (by simp [hr])) q hq
            rw [show (i + 1) * sz + q - r.length = i * sz + q by rw [Nat.add_mul]; omega, this]
            simp
      rw [this rows i hφ hlen q hql, hq]
    obtain ⟨u, hu, hr⟩ := o7 _ s hq'
    exact ⟨u, by simp [World.cell?, o4, hu], hr⟩
  obtain ⟨u, hu, hr⟩ := run_loadAt (β := β) hT hl (b := b) (off := i * sz + off) fun q s hq => by
    rw [List.getElem?_drop] at hq
    rw [Nat.add_assoc]; exact hrow (off + q) s hq
  rw [← hv] at hu
  exact wp_value (v := u) (w' := w) (by unfold execOp; rw [ho]; simp [hu]) (hK' u hr (loadS_lt hl))

theorem lcases {c : Cx} {T : Nat → Option TI} {G : Nat → Prop} {β : Nat → Value} {σ σ' : St} {a : Act} {w : World} (hT : TOk c.P T)
    (hc : Conc c G β σ a w) {own : Bool} {o : Oper} {φ : Option Prop} {x : AV} (h : lstep T own o σ = some (φ, x, σ')) (hφ : φ.getD True) {K : Act → World → Prop} {Q : Exit → Act → World → Prop}
    (hK' : ∀ G' β' w' v, Conc c G' β' σ' a w' → AVal G' w' β' x v → x.lt σ'.nx = true → K (a.put o.dst v) w') : o.wp c.P a w K Q := by
  have hK := hK' G
  have hρ : ∀ ty x, AVal G w β (opd T σ.env ty x) (a.eval x) := opd_rep hc T
  have hlt : ∀ ty x, (opd T σ.env ty x).lt σ.nx = true := opd_lt hc.envlt T
  have nilrow : ∀ {y : Operand} {e : Nat} {j : TI}, (execOp a.eval o).run c.P w = .ok (.value (a.eval y)) w → isNilConst y = true → Nat.ble 1 j.size = true → x = .orow σ.nx → σ' = addOb σ (.row e j.size []) → o.wp c.P a w K Q := by
    intro y e j hr hn hs hx hσ
    subst hx; subst hσ
    have hy : a.eval y = .slice none 0 0 := by
      unfold isNilConst at hn
      split at hn
      · rfl
      · cases hn
    obtain ⟨β', b1, b2, b3⟩ := hc.make (ob := .row e j.size []) (v := .slice none 0 0) ⟨fun r hr => (by cases hr), Nat.le_of_ble_eq_true hs, .inl ⟨rfl, rfl⟩⟩ rfl (fun _ _ _ b hb => by cases hb)
    refine wp_value hr (hK β' w _ b3 ?_ (by simp [AV.lt, addOb]))
    simp only [AVal]
    rw [b2, hy]
    exact ⟨rfl, _, _, _, rfl⟩
  unfold lstep at h
  simp only [spine_eq] at h
  split at h
  case h_1 y ho =>
    split at h
    · rename_i e j hn hej
      split at h
      · rename_i hs
        cases h
        simp only [Bool.and_eq_true] at hn
        exact nilrow (y := y) (by simp [execOp, ho]) hn.2 hs rfl rfl
      · cases h
    · cases h
  case h_2 y ho =>
    split at h
    · rename_i e j hn hej
      split at h
      · rename_i hs
        cases h
        simp only [Bool.and_eq_true] at hn
        exact nilrow (y := y) (by simp [execOp, ho]) hn.2 hs rfl rfl
      · cases h
    · cases h
  case h_3 t y ho =>
    split at h
    · rename_i h1 h2
      cases h
      have hv := cellsA_rep (hρ t y) rfl h1
      obtain ⟨β', b1, b2, b3⟩ := hc.fresh (a.eval y).cells t (ob := .box t (opd T σ.env t y).cellsA) (v := .pointer (some ⟨w.heap.size, 0, none⟩)) (by simp [blk]) (fun h3 =>
        ⟨_, _, _, rfl, heap_push_new _ _, notG_new hc, mine_new hc, hv.keep ((Ext.own hc.lt _).keep hc.lt), ones_of hv h1, rfl⟩) (by simpa [Ob.lt] using h2)
      refine wp_value (v := .pointer (some ⟨w.heap.size, 0, none⟩)) (by simp [execOp, ho, Instr.box, newVar, newRow]) (hK β' _ _ b3 ?_ (by simp [AV.lt, addOb]))
      simp only [AVal]
      exact ⟨_, b2, rfl⟩
    · cases h
  case h_4 t ho =>
    split at h
    · rename_i i hi
      cases h
      obtain ⟨d, info, z, b1, b2, b3, b4, b5, b6, b7, b8, b9, b10⟩ := hT t i hi
      have hz : AVals G w β (i.zero.map zAV) z.cells.toList := by
        have hzz : AVals G w β (i.zero.map zAV) (i.zero.map S.zval) := AVals.mk (by simp) fun m y v hy hv => by
          rw [List.getElem?_map] at hy hv
          cases hs : i.zero[m]? with
          | none => rw [hs] at hy; simp at hy
          | some s =>
            rw [hs] at hy hv; simp at hy hv; subst hy; subst hv
            exact zAV_rep (List.all_eq_true.1 b10 s (List.mem_of_getElem? hs))
        subst b7
        cases hag : i.k.agg with
        | true => simpa [Value.cells] using hzz
        | false =>
          have h1 := b9 hag
          rw [← b8] at h1
          obtain ⟨s, hs⟩ := List.length_eq_one_iff.1 h1
          have hz1 : s.zval.oneCell' = true := by cases s <;> rfl
          rw [hs] at hzz ⊢
          simpa [cells_one hz1] using hzz
      have hall : (i.zero.map zAV).all AV.one = true := zAV_all _
      have hltz : AV.ltAll σ.nx (i.zero.map zAV) = true := zAV_ltAll _
      obtain ⟨β', c1, c2, c3⟩ := hc.fresh z.cells t (ob := .box t (i.zero.map zAV)) (v := .pointer (some ⟨w.heap.size, 0, none⟩)) (by simp [blk]) (fun h3 =>
        ⟨_, _, _, rfl, heap_push_new _ _, notG_new hc, mine_new hc, hz.keep ((Ext.own hc.lt _).keep hc.lt), ones_of hz hall, rfl⟩) (by simpa [Ob.lt] using hltz)
      refine wp_value (v := .pointer (some ⟨w.heap.size, 0, none⟩)) (by simp [execOp, ho, Instr.alloc, newVar, newRow, run_zero' w b3 b6]) (hK β' _ _ c3 ?_ (by simp [AV.lt, addOb]))
      simp only [AVal]
      exact ⟨_, c2, rfl⟩
    · cases h
  case h_5 t n parts ho =>
    split at h
    · rename_i e j hej
      split at h
      · rename_i rows hp
        split at h
        · rename_i h1 h2 h3 h4
          cases h
          obtain ⟨i, ht, hk, hj⟩ := elem_info hej
          have h1 := Nat.eq_of_beq_eq_true h1
          have h3 := Nat.le_of_ble_eq_true h3
          have h4 := Nat.le_of_ble_eq_true h4
          have hlen : ∀ r ∈ rows, r.length = j.size := fun r hr => Nat.eq_of_beq_eq_true (List.all_eq_true.1 h2 r hr)
          obtain ⟨p1, p2, p3⟩ := partsS_rep hρ hp
          have hus : ∀ v ∈ parts.toList.map (fun p => a.eval p.2), v.cells.size = j.size := fun v hv => by
            obtain ⟨q, hq, rfl⟩ := List.mem_map.1 hv
            obtain ⟨m, hm⟩ := List.getElem?_of_mem hq
            have hlt : m < rows.length := by rw [p2]; exact (List.getElem?_eq_some_iff.1 hm).1
            have := (p3 m rows[m] q (List.getElem?_eq_getElem hlt) hm).1
            rw [hlen _ (List.getElem_mem hlt)] at this
            simpa using this
          have hrun := run_buildSlice (w := w) hT (n := n) ht hk hj (parts.toList.map fun p => a.eval p.2) (parts.map fun (i, x) => (i, a.eval x)) (by rw [← p1]; simp) hus (by rw [List.length_map, ← p2, h1]) h3 h4
          have hreps : Reps G w rows.flatten ((parts.toList.map fun p => a.eval p.2).map fun v => v.cells.toList).flatten := by
            refine reps_flatten (by simp [p2]) fun m r vs hr hvs => ?_
            simp only [List.getElem?_map] at hvs
            cases hpm : parts.toList[m]? with
            | none => rw [hpm] at hvs; simp at hvs
            | some q => rw [hpm] at hvs; simp at hvs; subst hvs; exact p3 m r q hr hpm
          obtain ⟨β', b1, b2, b3⟩ := hc.freshRow (((parts.toList.map fun p => a.eval p.2).map fun v => v.cells.toList).flatten.toArray) e j.size n rows hlen h3 (by omega)
            (by have := hreps.1; rw [length_flatten' hlen, h1] at this; simpa using this) (fun i s hi => by
              obtain ⟨u, hu, hr⟩ := reps_get hreps hi
              exact ⟨u, by simpa using hu, hr⟩)
          refine wp_value (by unfold execOp; rw [ho]; simp only [Sem.run_bind]; rw [hrun]; rfl) (hK β' _ _ b3 ?_ (by simp [AV.lt, addOb]))
          simp only [AVal]
          exact ⟨by rw [b2, h1], _, _, _, rfl⟩
        · cases h
      · cases h
    · cases h
  case h_6 t l c0 ho =>
    split at h
    · rename_i e j k1 n k2 m hej hl hcp
      split at h
      · rename_i hs
        cases h
        obtain ⟨i, ht, hk, hj⟩ := elem_info hej
        have hsz := Nat.le_of_ble_eq_true hs
        obtain ⟨d', info', z', g1, g2, g3, g4, g5, g6, g7, g8, g9, g10⟩ := hT e j hj
        have hu := under_slice hT ht hk
        have hzs := zero_size g7 g8 g9
        simp only [Option.getD_some] at hφ
        obtain ⟨f1, f2, f3, f4⟩ := hφ
        have hl' := hρ 0 l; rw [hl] at hl'; simp only [AVal, Rep] at hl'
        have hc' := hρ 0 c0; rw [hcp] at hc'; simp only [AVal, Rep] at hc'
        have hz : Reps G w j.zero z'.cells.toList := by
          have hzz : Reps G w j.zero (j.zero.map S.zval) := ⟨by simp, fun m s v hs hv => by
            rw [List.getElem?_map, hs] at hv; simp at hv; subst hv
            exact S.zrep (List.all_eq_true.1 g10 s (List.mem_of_getElem? hs))⟩
          subst g7
          cases hag : j.k.agg with
          | true => simpa [Value.cells] using hzz
          | false =>
            have h1 := g9 hag
            rw [← g8] at h1
            obtain ⟨s, hs⟩ := List.length_eq_one_iff.1 h1
            have hz1 : s.zval.oneCell' = true := by cases s <;> rfl
            rw [hs] at hzz ⊢
            simpa [cells_one hz1] using hzz
        have hwrap : ∀ q : Int, 0 ≤ q → q ≤ 281474976710656 → IntKind.i64.wrap q = q := fun q h1 h2 => by
          have e : q % (2 ^ 64 : Int) = q := Int.emod_eq_of_lt h1 (by omega)
          simp only [IntKind.wrap, IntKind.bits, IntKind.signed, e]
          rw [if_neg (by simp; omega)]
        have hlen : ∀ r ∈ List.replicate n.toNat j.zero, r.length = j.size := fun r hr => by rw [(List.mem_replicate.1 hr).2, g8]
        have hcell : ∀ q, ((Array.range (m.toNat * j.size)).map fun x => z'.cells[x % z'.cells.size]!)[q]? = if q < m.toNat * j.size then z'.cells[q % j.size]? else none := fun q => by
          rw [Array.getElem?_map]
          by_cases hq : q < m.toNat * j.size
          · rw [if_pos hq, Array.getElem?_range, if_pos hq]
            have h2 : q % j.size < z'.cells.size := by rw [hzs]; exact Nat.mod_lt _ (by omega)
            simp only [Option.map_some, hzs]
            rw [Array.getElem?_eq_getElem h2, getElem!_pos z'.cells _ h2]
          · rw [if_neg hq, Array.getElem?_range, if_neg hq]; rfl
        obtain ⟨β', b1, b2, b3⟩ := hc.freshRow ((Array.range (m.toNat * j.size)).map fun x => z'.cells[x % z'.cells.size]!) e j.size m.toNat (List.replicate n.toNat j.zero) hlen hsz (by simp; omega) (by simp) (fun i s hi => by
          rw [flatten_replicate] at hi
          split at hi
          · rename_i hlt
            rw [g8] at hlt hi
            obtain ⟨u, hu, hr⟩ := reps_get hz hi
            refine ⟨u, ?_, hr⟩
            rw [hcell, if_pos (Nat.lt_of_lt_of_le hlt (Nat.mul_le_mul_right _ (by omega)))]
            simpa using hu
          · cases hi)
        have hrun : (Instr.makeSlice t (a.eval l) (a.eval c0)).run c.P w = .ok (.slice (some ⟨w.heap.size, 0, none⟩) n.toNat m.toNat) (w.alloc (.cells ((Array.range (m.toNat * j.size)).map fun x => z'.cells[x % z'.cells.size]!) e)) := by
          have f3' : (j.bytes : Int) * m ≤ 281474976710656 := by rw [Int.mul_comm]; exact f3
          by_cases h0 : m.toNat * j.size = 0
          · simp [Instr.makeSlice, run_underlying' w hu, hl', hc', asInt, asIntOf, run_typeInfo' w g3, g5, hwrap m (by omega) f4, hwrap n f1 (by omega), run_sizeOf' w g3, g4, h0, newRow]
            rw [if_neg (by omega)]
            simp [run_sizeOf' w g3, g4, h0, show Array.range 0 = #[] from rfl]
          · simp [Instr.makeSlice, run_underlying' w hu, hl', hc', asInt, asIntOf, run_typeInfo' w g3, g5, hwrap m (by omega) f4, hwrap n f1 (by omega), run_sizeOf' w g3, g4, h0, newRow, run_zero' w g3 g6]
            intro hbad
            exfalso
            omega
        refine wp_value (by unfold execOp; rw [ho]; simp only [Sem.run_bind]; rw [hrun]; rfl) (hK β' _ _ b3 ?_ (by simp [AV.lt, addOb]))
        simp only [AVal]
        exact ⟨by rw [b2]; simp, _, _, _, rfl⟩
      · cases h
    · cases h
  case h_7 t y ho =>
    split at h
    · rename_i k off e
      have hy := hρ 0 y
      rw [e] at hy
      simp only [AVal] at hy
      obtain ⟨b, hβ, hv⟩ := hy
      split at h
      · rename_i cells i hh hi
        obtain ⟨d, info, z, b1, b2, b3, b4, _⟩ := hT t i hi
        have ho' := hc.hp k _ hh
        obtain ⟨b', e', cur, o1, o2, o3, o4, o5, o6⟩ := ho'
        rw [hβ] at o1
        cases o1
        have hltc := (hc.hplt k _ hh).2
        simp only [Ob.lt] at hltc
        have hcell : ∀ q v, cur[q]? = some v → w.cell? ⟨b, q, none⟩ = some v := fun q v hq => by simp [World.cell?, o2, hq]
        split at h
        · rename_i hag
          split at h
          · rename_i hle
            cases h
            have hle := Nat.le_of_ble_eq_true hle
            have hl := o5.length
            simp only [Array.length_toList] at hl
            have hlc := run_loadCells_list (P := c.P) w ⟨b, off, none⟩ ((cur.toList.drop off).take i.size) fun q v hq => by
              rw [List.getElem?_take] at hq
              split at hq
              · rw [List.getElem?_drop, Array.getElem?_toList] at hq
                rw [addr_add]; exact hcell _ _ hq
              · cases hq
            have hlen : ((cur.toList.drop off).take i.size).length = i.size := by simp; omega
            rw [hlen] at hlc
            refine wp_value (v := .agg ((cur.toList.drop off).take i.size).toArray) (w' := w) ?_ (hK β w _ hc ?_ ?_)
            · unfold execOp; rw [ho]
              simp [hv, Instr.loadAt, Instr.sureAddr, loadVar, run_isAgg' w b1, b2, hag, run_sizeOf' w b3, b4, hlc]
            · simp only [AVal]
              exact ⟨_, rfl, (o5.drop off).take i.size⟩
            · simp only [AV.lt]
              refine ltAll_mk fun q y hq => ?_
              rw [List.getElem?_take] at hq
              split at hq
              · rw [List.getElem?_drop] at hq; exact ltAll_get hltc hq
              · cases hq
          · cases h
        · rename_i hag
          split at h
          · rename_i z hz
            cases h
            obtain ⟨u, hu, hr⟩ := o5.get hz
            rw [Array.getElem?_toList] at hu
            refine wp_value (v := u) (w' := w) ?_ (hK β w _ hc hr (ltAll_get hltc hz))
            unfold execOp; rw [ho]
            simp [hv, Instr.loadAt, Instr.sureAddr, loadVar, run_isAgg' w b1, b2, hag, hcell _ _ hu]
          · cases h
      · cases h
    · cases h
  case h_8 t y z ho =>
    split at h
    · rename_i k off i e hi
      have hy := hρ 0 y
      rw [e] at hy
      simp only [AVal] at hy
      obtain ⟨b, hβ, hv⟩ := hy
      split at h
      · rename_i bt cells hh
        try dsimp only at h
        split at h
        · rename_i q1 q2 q3 q4
          cases h
          have q1 := Nat.eq_of_beq_eq_true q1
          have q2 := Nat.le_of_ble_eq_true q2
          obtain ⟨d, info, zz, b1, b2, b3, b4, _⟩ := hT t i hi
          obtain ⟨b', e', cur, o1, o2, o3, o4, o5, o6, o7⟩ := hc.hp k _ hh
          rw [hβ] at o1
          cases o1
          have hz := cellsA_rep (hρ t z) rfl q3
          have hl := o5.length
          simp only [Array.length_toList] at hl
          have hzl := hz.length
          have hone := ones_of hz q3
          have hst := run_storeCells_cells (P := c.P) b off (a.eval z).cells.toList 0 w
            (fun j hj => by
              have h9 : off + j < cur.size := by omega
              simp [World.cell?, o2, h9]) (fun j hj => by simp [World.frozen?, o2]) hone
          obtain ⟨cur', d1, d2, d3⟩ := block_setCells b (a.eval z).cells.toList (off + 0) w cur o2
          have hrest := rest_setCells b (a.eval z).cells.toList (off + 0) w
          have hoff : off + 0 = off := rfl
          rw [hoff] at hst d1 d3 hrest
          have hsz2 : (a.eval z).cells.size = info.size := by rw [b4, ← q1, ← hzl]; simp
          have hwr := hc.write (w' := w.setCells b off (a.eval z).cells.toList) (ob' := .box bt (cells.take off ++ (opd T σ.env t z).cellsA ++ cells.drop (off + i.size))) hh (b := b) (by rw [hβ]; rfl) o3 o4 hrest.1 hrest.2.1 hrest.2.2
            (size_setCells' _ _ _ _) (fun q hq => heap_setCells _ _ _ _ _ hq) (fun hk => by
              refine ⟨b, e', cur', hβ, d1, o3, o4, ?_, ?_, o7⟩
              · refine AVals.mk ?_ fun q x v hx hv' => ?_
                · simp; omega
                · rw [Array.getElem?_toList, d3] at hv'
                  rw [List.getElem?_append, List.getElem?_append] at hx
                  simp only [List.length_append, List.length_take] at hx
                  have hm : min off cells.length = off := by omega
                  rw [hm] at hx
                  by_cases g1 : q < off
                  · rw [if_neg (by omega)] at hv'
                    rw [if_pos (by omega), if_pos g1, List.getElem?_take, if_pos g1] at hx
                    obtain ⟨u, h1, h2⟩ := o5.get hx
                    rw [Array.getElem?_toList, hv'] at h1
                    cases h1; exact h2.keep hk
                  · by_cases g2 : q < off + (opd T σ.env t z).cellsA.length
                    · rw [if_pos (by omega)] at hv'
                      rw [if_pos g2, if_neg g1] at hx
                      obtain ⟨u, h1, h2⟩ := hz.get hx
                      rw [hv'] at h1
                      cases h1; exact h2.keep hk
                    · rw [if_neg (by omega)] at hv'
                      rw [if_neg g2, List.getElem?_drop] at hx
                      obtain ⟨u, h1, h2⟩ := o5.get hx
                      rw [show off + i.size + (q - (off + (opd T σ.env t z).cellsA.length)) = q by omega, Array.getElem?_toList, hv'] at h1
                      cases h1; exact h2.keep hk
              · intro u hu
                obtain ⟨m, hm⟩ := List.getElem?_of_mem hu
                rw [Array.getElem?_toList, d3] at hm
                split at hm
                · exact hone u (List.mem_of_getElem? hm)
                · exact o6 u (List.mem_of_getElem? (by rw [Array.getElem?_toList]; exact hm))) (by
              simp only [Ob.lt]
              have hlc := (hc.hplt k _ hh).2
              simp only [Ob.lt] at hlc
              refine ltAll_mk fun q x hx => ?_
              rw [List.getElem?_append, List.getElem?_append] at hx
              split at hx
              · split at hx
                · rw [List.getElem?_take] at hx
                  split at hx
                  · exact ltAll_get hlc hx
                  · cases hx
                · exact ltAll_get q4 hx
              · rw [List.getElem?_drop] at hx; exact ltAll_get hlc hx)
          have hrun : (execOp a.eval o).run c.P w = .ok .skip (w.setCells b off (a.eval z).cells.toList) := by
            unfold execOp; rw [ho]
            simp [hv, Instr.storeAt, Instr.sureAddr, storeVar, run_sizeOf' w b3, hsz2, hst]
          unfold Oper.wp
          rw [hrun]
          exact hK β _ undef hwr (by simp only [AVal]) rfl
        · cases h
      · cases h
    · rename_i k sz j off i e hi
      split at h
      · rename_i e0 sz' rows ss hh hss
        split at h
        · rename_i q1 q2 q3
          cases h
          obtain rfl := Nat.eq_of_beq_eq_true q1
          have q2 := Nat.eq_of_beq_eq_true q2
          have q3 := Nat.le_of_ble_eq_true q3
          simp only [Option.getD_some] at hφ
          have hy := hρ 0 y
          rw [e] at hy
          simp only [AVal] at hy
          obtain ⟨b, n, cp, hβ, hv⟩ := hy
          obtain ⟨d, info, zz, b1, b2, b3, b4, _⟩ := hT t i hi
          have hz := cellsS_rep hss (hρ t z)
          obtain ⟨hlen, hs0, hob⟩ := hc.hp k _ hh
          rcases hob with ⟨_, rfl⟩ | ⟨b', cap, cur, o1, o2, o3, o4, o5, o6, o7⟩
          · simp at hφ
          rw [hβ] at o1
          cases o1
          have hjs : j * sz + sz ≤ rows.length * sz := by rw [← Nat.succ_mul]; exact Nat.mul_le_mul_right _ hφ
          have hcs : rows.length * sz ≤ cur.size := by rw [o3]; exact Nat.mul_le_mul_right _ o2
          have hzl := hz.1
          have hst := run_storeCells_cells (P := c.P) b (j * sz + off) (a.eval z).cells.toList 0 w
            (fun q hq => by
              have h9 : j * sz + off + q < cur.size := by omega
              simp [World.cell?, o4, h9]) (fun q hq => by simp [World.frozen?, o4]) hz.one
          obtain ⟨cur', d1, d2, d3⟩ := block_setCells b (a.eval z).cells.toList (j * sz + off + 0) w cur o4
          have hrest := rest_setCells b (a.eval z).cells.toList (j * sz + off + 0) w
          have hoff : j * sz + off + 0 = j * sz + off := rfl
          rw [hoff] at hst d1 d3 hrest
          have hsz2 : (a.eval z).cells.size = info.size := by rw [b4, ← q2, ← hzl]; simp
          have hg : rows.getD j [] = rows[j] := by simp [List.getElem?_eq_getElem hφ]
          have hrl : (rows.getD j []).length = sz := by rw [hg]; exact hlen _ (List.getElem_mem hφ)
          have hnl : ((rows.getD j []).take off ++ ss ++ (rows.getD j []).drop (off + i.size)).length = sz := by
            simp only [List.length_append, List.length_take, List.length_drop, hrl]; omega
          have hwr := hc.write (w' := w.setCells b (j * sz + off) (a.eval z).cells.toList) (ob' := .row e0 sz (rows.set j ((rows.getD j []).take off ++ ss ++ (rows.getD j []).drop (off + i.size)))) hh (b := b) (by rw [hβ]; rfl) o5 o6 hrest.1 hrest.2.1 hrest.2.2
            (size_setCells' _ _ _ _) (fun q hq => heap_setCells _ _ _ _ _ hq) (fun hk => by
              refine ⟨fun r hr => ?_, hs0, .inr ⟨b, cp, cur', by rw [hβ]; simp, by simpa using o2, by rw [d2, o3], d1, o5, o6, fun q s hq => ?_⟩⟩
              · rcases List.mem_or_eq_of_mem_set hr with h1 | h1
                · exact hlen r h1
                · rw [h1]; exact hnl
              · rw [d3]
                rw [flatten_set sz hlen hφ hnl] at hq
                split at hq
                · rename_i hin
                  rw [List.getElem?_append, List.getElem?_append] at hq
                  simp only [List.length_append, List.length_take, hrl] at hq
                  have hm : min off sz = off := by omega
                  rw [hm] at hq
                  by_cases g1 : q - j * sz < off
                  · rw [if_pos (by omega), if_pos g1, List.getElem?_take, if_pos g1] at hq
                    rw [if_neg (by omega)]
                    obtain ⟨u, hu, hr⟩ := o7 q s (by rw [flatten_get sz hlen hφ hin.1 hin.2, ← hg]; exact hq)
                    exact ⟨u, hu, hr.keep hk⟩
                  · by_cases g2 : q - j * sz < off + ss.length
                    · rw [if_pos g2, if_neg g1] at hq
                      rw [if_pos (by omega)]
                      obtain ⟨u, hu, hr⟩ := reps_get hz hq
                      exact ⟨u, by rw [show q - (j * sz + off) = q - j * sz - off by omega]; exact hu, hr.keep hk⟩
                    · rw [if_neg g2, List.getElem?_drop] at hq
                      rw [if_neg (by omega)]
                      obtain ⟨u, hu, hr⟩ := o7 q s (by rw [flatten_get sz hlen hφ hin.1 hin.2, ← hg, ← hq]; congr 1; omega)
                      exact ⟨u, hu, hr.keep hk⟩
                · rename_i hin
                  rw [if_neg (by omega)]
                  obtain ⟨u, hu, hr⟩ := o7 q s hq
                  exact ⟨u, hu, hr.keep hk⟩) rfl
          have hrun : (execOp a.eval o).run c.P w = .ok .skip (w.setCells b (j * sz + off) (a.eval z).cells.toList) := by
            unfold execOp; rw [ho]
            simp [hv, Instr.storeAt, Instr.sureAddr, storeVar, run_sizeOf' w b3, hsz2, hst]
          unfold Oper.wp
          rw [hrun]
          exact hK β _ undef hwr (by simp only [AVal]) rfl
        · cases h
      · cases h
    · cases h
  case h_9 t y i ho =>
    split at h
    · rename_i e j k k1 n hej hy hi
      split at h
      · rename_i e0 sz rows hh
        split at h
        · rename_i hs
          cases h
          obtain rfl := Nat.eq_of_beq_eq_true hs
          obtain ⟨ti, ht, hk, hj⟩ := elem_info hej
          obtain ⟨d', info', z', g1, g2, g3, g4, _⟩ := hT e j hj
          have hu := under_slice hT ht hk
          simp only [Option.getD_some] at hφ
          have hv := hρ t y; rw [hy] at hv; simp only [AVal] at hv
          have hiv := hρ 0 i; rw [hi] at hiv; simp only [AVal, Rep] at hiv
          obtain ⟨_, _, hob⟩ := hc.hp k _ hh
          rcases hob with ⟨_, rfl⟩ | ⟨b, cap, cur, o1, _⟩
          · simp at hφ; omega
          · refine wp_value (v := .pointer (some ⟨b, n.toNat * j.size, none⟩)) (w' := w) ?_ (hK β w _ hc ?_ ?_)
            · unfold execOp; rw [ho]
              simp [hv.1, o1, hiv, Instr.indexAt, asIntOf, run_underlying' w hu, hφ.1, hφ.2, run_sizeOf' w g3, g4, addr_add]
            · simp only [AVal]; exact ⟨b, _, _, o1, by simp⟩
            · simp only [AV.lt, decide_eq_true_eq]; exact (hc.hplt k _ hh).1
        · cases h
      · cases h
    · cases h
  case h_10 src dst y ho =>
    split at h
    · rename_i e j k hej hd hy
      split at h
      · rename_i e0 sz rows hjk hh
        split at h
        · rename_i hs
          cases h
          obtain rfl := Nat.eq_of_beq_eq_true hs
          obtain ⟨ti, ht, hk, hj⟩ := elem_info hej
          obtain ⟨d', info', z', g1, g2, g3, g4, _⟩ := hT e j hj
          rw [hjk] at g2
          cases d' <;> simp only [tkOf, reduceCtorEq, TK.int.injEq] at g2
          subst g2
          have hu := under_slice hT ht hk
          obtain ⟨d2, hd2, hk2⟩ := tk_desc hT hd (by simp)
          cases d2 <;> simp only [tkOf, reduceCtorEq] at hk2
          simp only [Option.getD_some] at hφ
          generalize hl : rows.map browOf = l at *
          subst hφ
          have hv := hρ src y; rw [hy] at hv; simp only [AVal] at hv
          obtain ⟨hlen, hs0, hob⟩ := hc.hp k _ hh
          refine wp_value (v := .string ⟨l.toArray⟩) (w' := w) ?_ (hK β w _ hc (by simp [AVal, Rep]) rfl)
          unfold execOp; rw [ho]
          rcases hob with ⟨o1, o2⟩ | ⟨b, cap, cur, o1, o2, o3, o4, o5, o6, o7⟩
          · have : l = [] := by simpa using o2
            subst this
            simp [hv.1, o1, convert, run_underlying' w hu, run_underlying' w hd2, run_underlying' w g1, Conv.bytesToString]
            rfl
          · have hlb : (loadCells ⟨b, 0, none⟩ l.length).run c.P w = .ok (l.map fun x => Value.int .u8 (x.toNat : Int)).toArray w := by
              have := run_loadCells_list (P := c.P) w ⟨b, 0, none⟩ (l.map fun x => Value.int .u8 (x.toNat : Int)) fun q v hq => by
                rw [List.getElem?_map] at hq
                cases hlq : l[q]? with
                | none => rw [hlq] at hq; simp at hq
                | some x =>
                  rw [hlq] at hq; simp at hq; subst hq
                  obtain ⟨u, hu', hr⟩ := o7 q (.int .u8 (x.toNat : Int)) (by rw [flatten_brow]; simp [hlq])
                  simp only [Rep] at hr
                  subst hr
                  rw [addr_add]
                  simp [World.cell?, o4, hu']
              simpa using this
            have hb := bytes_loop c.P w l .empty
            simp only [hv.1, o1, List.length_map]
            simp only [convert, run_underlying' w hu, run_underlying' w hd2, run_underlying' w g1, Sem.run_bind, Result.andThen_ok, Conv.bytesToString, hlb]
            rw [← Array.forIn_toList]
            erw [hb]
            simp
        · cases h
      · cases h
    · rename_i e j e2 k hej hd hy
      split at h
      · rename_i e0 sz rows hjk hh
        split at h
        · rename_i hs
          cases h
          obtain rfl := Nat.eq_of_beq_eq_true hs
          obtain ⟨ti, ht, hk, hj⟩ := elem_info hej
          obtain ⟨d', info', z', g1, g2, g3, g4, _⟩ := hT e j hj
          rw [hjk] at g2
          cases d' <;> simp only [tkOf, reduceCtorEq, TK.int.injEq] at g2
          subst g2
          have hu := under_slice hT ht hk
          simp only [Option.getD_some] at hφ
          have hv := hρ src y; rw [hy] at hv; simp only [AVal] at hv
          obtain ⟨hlen, hs0, hob⟩ := hc.hp k _ hh
          rcases hob with ⟨o1, o2⟩ | ⟨b, cap, cur, o1, o2, o3, o4, o5, o6, o7⟩
          · exact absurd o2 hφ
          · obtain ⟨w', hw⟩ : ∃ w', w' = w.freeze ⟨b, cur.size, none⟩ 1 := ⟨_, rfl⟩
            have hbl : b < w.heap.size := (Array.getElem?_eq_some_iff.1 o4).1
            have hb' : w'.heap[b]? = some (.cells cur e0 (cur.size, cur.size + 1)) := by
              rw [hw]; unfold World.freeze; rw [if_neg (by decide)]
              simp only [Array.getElem?_modify, if_pos, o4]; simp
            have hoth : ∀ i, i ≠ b → w'.heap[i]? = w.heap[i]? := fun i hi => by
              rw [hw]; unfold World.freeze; rw [if_neg (by decide)]
              simp only [Array.getElem?_modify]; rw [if_neg (by omega)]
            have hsz' : w'.heap.size = w.heap.size := by rw [hw]; simp [World.freeze]
            have hk1 : Keep G (fun i => G i ∨ i = b) w w' := ⟨fun _ h => .inl h, fun i hi => hoth i (fun e => o5 (e ▸ hi))⟩
            refine wp_value (v := a.eval y) (w' := w') ?_ (hK' _ β w' _ (hc.hand hh (b := b) (by rw [o1]; rfl) (by rw [hw]; simp [World.freeze]) (by rw [hw]; simp [World.freeze]) (by rw [hw]; simp [World.freeze]) hsz' hoth) ?_ rfl)
            · unfold execOp; rw [ho]
              simp [hv.1, o1, convert, run_underlying' w hu, run_underlying' w g1, markStringish, World.shape?, o4, hw]
            · simp only [AVal, Rep]
              refine .inr ⟨b, 0, cap, by rw [hv.1, o1], o2, flatten_rows hlen (RepRow.mk fun i s hi => ⟨.inr rfl, ?_⟩)⟩
              obtain ⟨u, hu', hr⟩ := o7 i s hi
              exact ⟨u, by simp [World.cell?, hb', hu'], hr.keep hk1⟩
        · cases h
      · cases h
    · cases h
  case h_11 t y hi ho =>
    split at h
    · rename_i e j k k1 n hej hy hi'
      split at h
      · rename_i e0 sz rows hh
        split at h
        · rename_i hs
          cases h
          obtain rfl := Nat.eq_of_beq_eq_true hs
          obtain ⟨ti, ht, hk, hj⟩ := elem_info hej
          obtain ⟨d', info', z', g1, g2, g3, g4, _⟩ := hT e j hj
          have hu := under_slice hT ht hk
          simp only [Option.getD_some] at hφ
          obtain ⟨f1, f2⟩ := hφ
          have hv := hρ t y; rw [hy] at hv; simp only [AVal] at hv
          have hiv := hρ 0 hi; rw [hi'] at hiv; simp only [AVal, Rep] at hiv
          obtain ⟨hlen, hs0, hob⟩ := hc.hp k _ hh
          have hlen' : ∀ r ∈ rows.take n.toNat, r.length = j.size := fun r hr => hlen r (List.mem_of_mem_take hr)
          have hob' := hob
          rcases hob with ⟨o1, o2⟩ | ⟨b, cap, cur, o1, o2, o3, o4, o5, o6, o7⟩
          · subst o2
            obtain rfl : n = 0 := by simp at f2; omega
            obtain ⟨β', b1, b2, b3⟩ := hc.turn (k := k) hh (ob' := .row e0 j.size ([].take (0 : Int).toNat)) (v' := .slice none 0 0) (w' := w)
              ⟨rfl, rfl, rfl, Nat.le_refl _, fun _ _ _ => rfl, ⟨hlen', hs0, .inl ⟨rfl, by simp⟩⟩, fun b hb => by cases hb⟩ rfl
            refine wp_value (v := .slice none 0 0) (w' := w) ?_ (hK β' w _ b3 ?_ (by simp [AV.lt, addOb, ridOb]))
            · unfold execOp; rw [ho]
              have hbb := run_bounds (P := c.P) (w := w) (isSlice := true) (len := 0) (cap := 0) (vlo := none) (vhi := some (.int k1 0)) (.inl ⟨rfl, rfl⟩) (.inr ⟨k1, rfl⟩) (Int.le_refl 0) (Int.le_refl 0) (by simp)
              simp [hv.1, o1, hiv, Instr.sliceAt, Instr.slice, run_underlying' w hu, hbb, run_sizeOf' w g3, g4]
            · simp only [AVal]
              have : (ridOb σ k).nx = σ.nx := rfl
              exact ⟨b2.symm, _, _, _, rfl⟩
          · have hn : (rows.take n.toNat).length = n.toNat := by simp; omega
            obtain ⟨β', b1, b2, b3⟩ := hc.turn (k := k) hh (ob' := .row e0 j.size (rows.take n.toNat)) (v' := .slice (some ⟨b, 0, none⟩) n.toNat cap) (w' := w)
              ⟨rfl, rfl, rfl, Nat.le_refl _, fun _ _ _ => rfl, ⟨hlen', hs0, .inr ⟨b, cap, cur, by rw [hn], by rw [hn]; omega, o3, o4, o5, o6, fun q s hq => by
                refine o7 q s ?_
                have e3 : rows.flatten = (rows.take n.toNat).flatten ++ (rows.drop n.toNat).flatten := by rw [← List.flatten_append, List.take_append_drop]
                rw [e3, List.getElem?_append, if_pos (List.getElem?_eq_some_iff.1 hq).1]; exact hq⟩⟩, fun b' hb' => .inl (by rw [o1]; exact hb')⟩ rfl
            refine wp_value (v := .slice (some ⟨b, 0, none⟩) n.toNat cap) (w' := w) ?_ (hK β' w _ b3 ?_ (by simp [AV.lt, addOb, ridOb]))
            · unfold execOp; rw [ho]
              have hbb := run_bounds (P := c.P) (w := w) (isSlice := true) (len := rows.length) (cap := cap) (vlo := none) (vhi := some (.int k1 n)) (.inl ⟨rfl, rfl⟩) (.inr ⟨k1, rfl⟩) (Int.le_refl 0) f1 (by omega)
              simp [hv.1, o1, hiv, Instr.sliceAt, Instr.slice, run_underlying' w hu, hbb, run_sizeOf' w g3, g4]
              intro _; rfl
            · simp only [AVal]
              exact ⟨b2.symm, _, _, _, rfl⟩
        · cases h
      · cases h
    · cases h
  case h_12 args ts ho =>
    split at h
    · rename_i y t e e'
      have e1 : args = #[y] := Array.toList_inj.1 (by simpa using e)
      have e2 : ts = #[t] := Array.toList_inj.1 (by simpa using e')
      subst e1; subst e2
      split at h
      · rename_i e3 k hk hy
        split at h
        · rename_i e0 sz rows hh
          cases h
          have hu := under_of_tk hT hk
          have hv := hρ t y; rw [hy] at hv; simp only [AVal] at hv
          obtain ⟨_, _, hob⟩ := hc.hp k _ hh
          refine wp_value (v := .int .i64 rows.length) (w' := w) (eval_call ho fun cs => ?_) (hK β w _ hc (by simp [AVal, Rep]) rfl)
          rcases hob with ⟨o1, rfl⟩ | ⟨b, cap, cur, o1, _⟩ <;>
            simp [builtin, Builtin.len_, run_underlying' w hu, hv.1, o1, goInt]
        · cases h
      · cases h
    · cases h
  case h_13 args ts ho =>
    split at h
    · rename_i y z t tx e e'
      have e1 : args = #[y, z] := Array.toList_inj.1 (by simpa using e)
      have e2 : ts = #[t, tx] := Array.toList_inj.1 (by simpa using e')
      subst e1; subst e2
      unfold lAppend at h
      split at h
      · rename_i e j k? e0 sz rows sz' rows' hej hb hr
        split at h
        · rename_i q1 q2 q3
          obtain rfl := Nat.eq_of_beq_eq_true q1
          obtain rfl := Nat.eq_of_beq_eq_true q2
          obtain ⟨i, ht, hk, hj⟩ := elem_info hej
          have hreads := rowsOf_reads hT hc hr (hρ tx z)
          split at h
          · cases h
            simp only [Option.getD_some] at hφ
            unfold baseOf at hb
            split at hb
            · rename_i sz2 hy
              cases hb
              have hv := hρ t y; rw [hy] at hv; simp only [AVal] at hv
              have ho0 : ObAt c G w β (a.eval y) (.row e j.size []) := ⟨fun r hr => (by cases hr), Nat.le_of_ble_eq_true q3, .inl ⟨hv, rfl⟩⟩
              obtain ⟨v', w', r1, r2⟩ := run_append (ty := o.type) hT ht hk hj rfl ho0 hreads (by simpa using hφ.1) (by simpa using hφ.2) hc.fr.size hc.lt
              obtain ⟨a1, a2, a3, a4, a5, a6, a7⟩ := r2
              rw [hv] at a5 a7
              have hoth := hc.other (w' := w') none (fun _ _ _ _ _ h => by cases h) (fun b hb => by cases hb) a1 a2 a3 a4 (fun q hq _ => a5 q hq (by simp [blk]))
              obtain ⟨β', b1, b2, b3⟩ := hoth.make a6 rfl (fun k' o' hk' b hb e => by
                rcases a7 b hb with h7 | h7
                · cases h7
                · have := hc.blk_lt hk' e; omega)
              have hs : ∃ o n c, v' = .slice o n c := by
                obtain ⟨_, _, h⟩ := a6
                rcases h with ⟨h, _⟩ | ⟨_, _, _, h, _⟩ <;> exact ⟨_, _, _, h⟩
              refine wp_value (eval_call ho fun cs => by simp [builtin]; rw [r1]; rfl) (hK β' w' v' b3 ?_ (by simp [AV.lt, addOb]))
              simp only [AVal]
              exact ⟨b2.symm, hs⟩
            · split at hb <;> cases hb
            · cases hb
          · split at h
            · rename_i k q4
              cases h
              obtain rfl := Nat.eq_of_beq_eq_true q4
              simp only [Option.getD_some] at hφ
              unfold baseOf at hb
              split at hb
              · cases hb
              · rename_i k' hy
                split at hb
                · rename_i e3 sz3 rows3 hh
                  cases hb
                  have hv := hρ t y; rw [hy] at hv; simp only [AVal] at hv
                  have ho0 := hc.hp _ _ hh
                  obtain ⟨v', w', r1, r2⟩ := run_append (ty := o.type) hT ht hk hj rfl ho0 hreads hφ.1 hφ.2 hc.fr.size hc.lt
                  have a6 := r2.2.2.2.2.2.1
                  obtain ⟨β', b1, b2, b3⟩ := hc.turn hh r2 rfl
                  have hs : ∃ o n c, v' = .slice o n c := by
                    obtain ⟨_, _, h⟩ := a6
                    rcases h with ⟨h, _⟩ | ⟨_, _, _, h, _⟩ <;> exact ⟨_, _, _, h⟩
                  refine wp_value (eval_call ho fun cs => by simp [builtin, hv.1]; rw [r1]; rfl) (hK β' w' v' b3 ?_ (by simp [AV.lt, addOb, ridOb]))
                  simp only [AVal]
                  exact ⟨b2.symm, hs⟩
                · cases hb
              · cases hb
            · cases h
        · cases h
      · cases h
    · cases h
  all_goals cases h

theorem ltAll_appI {n : Nat} : ∀ {xs ys : List AV}, AV.ltAll n xs = true → AV.ltAll n ys = true → AV.ltAll n (xs ++ ys) = true
  | [], _, _, h => h
  | x :: xs, _, h, k => by
    simp only [List.cons_append, AV.ltAll, Bool.and_eq_true] at h ⊢
    exact ⟨h.1, ltAll_appI h.2 k⟩
theorem cellsA_ltI {x : AV} {n : Nat} (h : x.lt n = true) : AV.ltAll n x.cellsA = true := by
  have h1 : ∀ y : AV, y.lt n = true → AV.ltAll n [y.nrm] = true := fun y hy => by
    simp only [AV.ltAll, Bool.and_true]; exact AV.nrm_lt hy
  cases x <;> first | exact h1 _ h | skip
  simp only [AV.lt] at h
  exact h
theorem ltAll_memI {n : Nat} {l : List AV} (h : ∀ x ∈ l, x.lt n = true) : AV.ltAll n l = true := ltAll_mk fun _ _ hq => h _ (List.mem_of_getElem? hq)
theorem ltAll_memO {n : Nat} {l : List AV} (h : AV.ltAll n l = true) : ∀ x ∈ l, x.lt n = true := fun x hx => by
  obtain ⟨i, hi⟩ := List.getElem?_of_mem hx
  exact ltAll_get h hi

theorem partsA_rep {T : Nat → Option TI} {G : Nat → Prop} {w : World} {β : Nat → Value} {env : Nat → AV} {ρ : Operand → Value} (hρ : ∀ ty x, AVal G w β (opd T env ty x) (ρ x)) {e : Nat} : ∀ {parts : List (Nat × Operand)} {i : Nat} {rows : List (List AV)}, partsA T env e i parts = some rows →
    parts.map (fun p => (p.1, ρ p.2)) = ((parts.map fun p => ρ p.2).zipIdx i).map (fun p => (p.2, p.1)) ∧ rows.length = parts.length ∧
      ∀ (j : Nat) r p, rows[j]? = some r → parts[j]? = some p → RepsR (AQ G β w) r (ρ p.2).cells.toList
  | [], i, rows, h => by
    simp only [partsA, Option.some.injEq] at h; subst h
    exact ⟨rfl, rfl, fun j r p h => by simp at h⟩
  | (j, x) :: parts, i, rows, h => by
    simp only [partsA] at h
    split at h
    · rename_i rs h1 h2 h3
      cases h
      obtain rfl := Nat.eq_of_beq_eq_true h1
      obtain ⟨a1, a2, a3⟩ := partsA_rep hρ h3
      refine ⟨by simp [a1], by simp [a2], fun k r p hr hp => ?_⟩
      cases k with
      | zero =>
        simp at hr hp; subst hr; subst hp
        have hav := cellsA_rep (hρ e x) rfl h2
        refine ⟨hav.length, fun q s v hs hv => ?_⟩
        obtain ⟨u, hu, hr⟩ := hav.get hs
        rw [hv] at hu; cases hu
        exact ⟨hr, ones_of hav h2 v (List.mem_of_getElem? hv)⟩
      | succ k => exact a3 k r p (by simpa using hr) (by simpa using hp)
    · cases h
theorem repsR_flatten {α : Type} {Q : α → Value → Prop} : ∀ {rows : List (List α)} {vss : List (List Value)}, rows.length = vss.length → (∀ (j : Nat) r vs, rows[j]? = some r → vss[j]? = some vs → RepsR Q r vs) → RepsR Q rows.flatten vss.flatten
  | [], [], _, _ => ⟨rfl, fun i s v h => by simp at h⟩
  | r :: rows, v :: vss, hl, h => by
    rw [List.flatten_cons, List.flatten_cons]
    exact (h 0 r v rfl rfl).append (repsR_flatten (by simpa using hl) fun j r vs h1 h2 => h (j + 1) r vs (by simpa using h1) (by simpa using h2))
  | [], _ :: _, hl, _ => by simp at hl
  | _ :: _, [], hl, _ => by simp at hl

/-- The rows of any cells that a slice has are there to be read. -/
theorem rowsA_reads {c : Cx} {T : Nat → Option TI} {G : Nat → Prop} {β : Nat → Value} {σ : St} {a : Act} {w : World} (hT : TOk c.P T) (hc : Conc c G β σ a w) {tx sz : Nat} {y : AV} {rows : List (List AV)} (h : rowsA T σ tx y = some (sz, rows))
    {v : Value} (hv : AVal G w β y v) (hy : y.lt σ.nx = true) : ReadsR w c.P (AQ G β w) tx sz rows v ∧ AV.ltAll σ.nx rows.flatten = true := by
  have hs : ∀ rs : List (List S), AV.ltAll σ.nx (rs.map (·.map AV.s)).flatten = true := fun rs => ltAll_memI fun x hx => by
    simp only [List.mem_flatten, List.mem_map] at hx
    obtain ⟨l, ⟨r, _, rfl⟩, hx⟩ := hx
    obtain ⟨s, _, rfl⟩ := List.mem_map.1 hx
    rfl
  unfold rowsA at h
  split at h
  · rename_i e hk
    cases h
    exact ⟨by simpa using (rowsOf_reads (rows := []) hT hc (by simp only [rowsOf, hk]) hv).any (β := β), rfl⟩
  · rename_i e rs hk
    cases h
    exact ⟨(rowsOf_reads hT hc (by simp only [rowsOf, hk]) hv).any, hs _⟩
  · rename_i e k hk
    split at h
    · rename_i e0 sz0 rs hh
      cases h
      exact ⟨(rowsOf_reads hT hc (by simp only [rowsOf, hk, hh]) hv).any, hs _⟩
    · rename_i e0 sz0 rs hh
      cases h
      have ho := hc.hp k _ hh
      simp only [AVal] at hv
      rw [← hv.1] at ho
      exact ⟨reads_ownR (c := c) (G := G) (fun _ _ h => h.2) (under_of_tk hT hk) ho, by simpa [Ob.lt] using (hc.hplt k _ hh).2⟩
    · cases h
  · cases h

theorem acases {c : Cx} {T : Nat → Option TI} {G : Nat → Prop} {β : Nat → Value} {σ σ' : St} {a : Act} {w : World} (hT : TOk c.P T)
    (hc : Conc c G β σ a w) {o : Oper} {φ : Option Prop} {x : AV} (h : lstepA T o σ = some (φ, x, σ')) (hφ : φ.getD True) {K : Act → World → Prop} {Q : Exit → Act → World → Prop}
    (hK : ∀ β' w' v, Conc c G β' σ' a w' → AVal G w' β' x v → x.lt σ'.nx = true → K (a.put o.dst v) w') : o.wp c.P a w K Q := by
  have hρ : ∀ ty x, AVal G w β (opd T σ.env ty x) (a.eval x) := opd_rep hc T
  have hlt : ∀ ty x, (opd T σ.env ty x).lt σ.nx = true := opd_lt hc.envlt T
  unfold lstepA at h
  split at h
  case h_1 t n parts ho =>
    split at h
    · rename_i e j hej
      split at h
      · rename_i rows hrows
        split at h
        · rename_i q1 q2 q3 q4
          cases h
          have q1 := Nat.eq_of_beq_eq_true q1
          have q3 := Nat.le_of_ble_eq_true q3
          have q4 := Nat.le_of_ble_eq_true q4
          have q2 : ∀ r ∈ rows, r.length = j.size := fun r hr => Nat.eq_of_beq_eq_true (List.all_eq_true.1 q2 r hr)
          obtain ⟨i, ht, hk, hj⟩ := elem_info hej
          obtain ⟨p1, p2, p3⟩ := partsA_rep hρ hrows
          have hcell : ∀ (q : Nat) r v, rows[q]? = some r → (parts.toList.map fun p => a.eval p.2)[q]? = some v → RepsR (AQ G β w) r v.cells.toList := fun q r v h1 h2 => by
            rw [List.getElem?_map] at h2
            obtain ⟨p, hp, rfl⟩ := Option.map_eq_some_iff.1 h2
            exact p3 q r p h1 hp
          have hus : ∀ v ∈ (parts.toList.map fun p => a.eval p.2), v.cells.size = j.size := fun v hv => by
            obtain ⟨q, hq⟩ := List.getElem?_of_mem hv
            have hql : q < rows.length := by rw [p2]; simpa using (List.getElem?_eq_some_iff.1 hq).1
            have := (hcell q rows[q] v (List.getElem?_eq_getElem hql) hq).1
            rw [q2 _ (List.getElem_mem hql)] at this
            simpa using this
          have hrun := run_buildSlice (P := c.P) (w := w) hT ht hk hj (parts.toList.map fun p => a.eval p.2) (parts.map fun p => (p.1, a.eval p.2)) (by simpa using p1) hus (by rw [List.length_map, ← p2]; exact q1) q3 q4
          have hfl : RepsR (AQ G β w) rows.flatten ((parts.toList.map fun p => a.eval p.2).map fun v => v.cells.toList).flatten :=
            repsR_flatten (by rw [List.length_map, List.length_map]; exact p2) fun q r vs h1 h2 => by
              rw [List.getElem?_map] at h2
              obtain ⟨v, hv, rfl⟩ := Option.map_eq_some_iff.1 h2
              exact hcell q r v h1 hv
          have hltr : AV.ltAll σ.nx rows.flatten = true := ltAll_memI fun y hy => by
            have : ∀ (ps : List (Nat × Operand)) (i : Nat) (rs : List (List AV)), partsA T σ.env e i ps = some rs → ∀ y ∈ rs.flatten, y.lt σ.nx = true := by
              intro ps
              induction ps with
              | nil => intro i rs h y hy; simp only [partsA, Option.some.injEq] at h; subst h; simp at hy
              | cons p ps ih =>
                obtain ⟨j, x⟩ := p
                intro i rs h y hy
                simp only [partsA] at h
                split at h
                · rename_i rs' _ _ h3
                  cases h
                  rw [List.flatten_cons, List.mem_append] at hy
                  rcases hy with hy | hy
                  · exact ltAll_memO (cellsA_ltI (hlt e x)) y hy
                  · exact ih (i + 1) rs' h3 y hy
                · cases h
            exact this _ _ _ hrows y hy
          obtain ⟨β', b1, b2, b3⟩ := hc.fresh (((parts.toList.map fun p => a.eval p.2).map fun v => v.cells.toList).flatten.toArray) e (ob := .arow e j.size rows) (v := .slice (some ⟨w.heap.size, 0, none⟩) n n) (fun b hb => by cases hb; rfl)
            (fun hc2 => ⟨q2, q3, .inr ⟨w.heap.size, n, _, by rw [q1], by omega, by rw [List.size_toArray, hfl.1, length_flatten' q2, q1], heap_push_new _ _, notG_new hc, mine_new hc, fun i s hi => by
              have hil : i < (((parts.toList.map fun p => a.eval p.2).map fun v => v.cells.toList).flatten).length := by rw [hfl.1]; exact (List.getElem?_eq_some_iff.1 hi).1
              have := hfl.2 i s _ hi (List.getElem?_eq_getElem hil)
              exact ⟨_, by rw [List.getElem?_toArray]; exact List.getElem?_eq_getElem hil, this.1.keep ((Ext.own hc.lt _).keep hc.lt), this.2⟩⟩⟩) (by simpa [Ob.lt] using hltr)
          refine wp_value (v := .slice (some ⟨w.heap.size, 0, none⟩) n n) (w' := w.alloc (.cells (((parts.toList.map fun p => a.eval p.2).map fun v => v.cells.toList).flatten.toArray) e)) ?_ (hK β' _ _ b3 ?_ (by simp [AV.lt, addOb]))
          · unfold execOp; rw [ho]; simp only [Sem.run_bind, hrun, Result.andThen_ok]; rfl
          · simp only [AVal]; exact ⟨b2.symm, _, _, _, rfl⟩
        · cases h
      · cases h
    · cases h
  case h_2 t y z ho =>
    split at h
    · rename_i k sz j off i e hi
      split at h
      · rename_i e0 sz' rows hh
        split at h
        · rename_i q1 q2 q3 q4
          cases h
          obtain rfl := Nat.eq_of_beq_eq_true q1
          have q2 := Nat.eq_of_beq_eq_true q2
          have q3 := Nat.le_of_ble_eq_true q3
          simp only [Option.getD_some] at hφ
          have hy := hρ 0 y
          rw [e] at hy
          simp only [AVal] at hy
          obtain ⟨b, n, cp, hβ, hv⟩ := hy
          obtain ⟨d, info, zz, b1, b2, b3, b4, _⟩ := hT t i hi
          have hz := cellsA_rep (hρ t z) rfl q4
          generalize hss : (opd T σ.env t z).cellsA = ss at hz q2 q4
          have hssl : AV.ltAll σ.nx ss = true := by rw [← hss]; exact cellsA_ltI (hlt t z)
          obtain ⟨hlen, hs0, hob⟩ := hc.hp k _ hh
          rcases hob with ⟨_, rfl⟩ | ⟨b', cap, cur, o1, o2, o3, o4, o5, o6, o7⟩
          · simp at hφ
          rw [hβ] at o1
          cases o1
          have hjs : j * sz + sz ≤ rows.length * sz := by rw [← Nat.succ_mul]; exact Nat.mul_le_mul_right _ hφ
          have hcs : rows.length * sz ≤ cur.size := by rw [o3]; exact Nat.mul_le_mul_right _ o2
          have hzl := hz.length
          have hzo := ones_of hz q4
          have hst := run_storeCells_cells (P := c.P) b (j * sz + off) (a.eval z).cells.toList 0 w
            (fun q hq => by
              have h9 : j * sz + off + q < cur.size := by omega
              simp [World.cell?, o4, h9]) (fun q hq => by simp [World.frozen?, o4]) hzo
          obtain ⟨cur', d1, d2, d3⟩ := block_setCells b (a.eval z).cells.toList (j * sz + off + 0) w cur o4
          have hrest := rest_setCells b (a.eval z).cells.toList (j * sz + off + 0) w
          have hoff : j * sz + off + 0 = j * sz + off := rfl
          rw [hoff] at hst d1 d3 hrest
          have hsz2 : (a.eval z).cells.size = info.size := by rw [b4, ← q2, ← hzl]; simp
          have hg : rows.getD j [] = rows[j] := by simp [List.getElem?_eq_getElem hφ]
          have hrl : (rows.getD j []).length = sz := by rw [hg]; exact hlen _ (List.getElem_mem hφ)
          have hnl : ((rows.getD j []).take off ++ ss ++ (rows.getD j []).drop (off + i.size)).length = sz := by
            simp only [List.length_append, List.length_take, List.length_drop, hrl]; omega
          have hrowlt : AV.ltAll σ.nx rows.flatten = true := by simpa [Ob.lt] using (hc.hplt k _ hh).2
          have hgd : ∀ y ∈ rows.getD j [], y.lt σ.nx = true := fun y hy => ltAll_memO hrowlt y (by
            rw [hg] at hy; exact List.mem_flatten.2 ⟨_, List.getElem_mem hφ, hy⟩)
          have hwr := hc.write (w' := w.setCells b (j * sz + off) (a.eval z).cells.toList) (ob' := .arow e0 sz (rows.set j ((rows.getD j []).take off ++ ss ++ (rows.getD j []).drop (off + i.size)))) hh (b := b) (by rw [hβ]; rfl) o5 o6 hrest.1 hrest.2.1 hrest.2.2
            (size_setCells' _ _ _ _) (fun q hq => heap_setCells _ _ _ _ _ hq) (fun hk => by
              refine ⟨fun r hr => ?_, hs0, .inr ⟨b, cp, cur', by rw [hβ]; simp, by simpa using o2, by rw [d2, o3], d1, o5, o6, fun q s hq => ?_⟩⟩
              · rcases List.mem_or_eq_of_mem_set hr with h1 | h1
                · exact hlen r h1
                · rw [h1]; exact hnl
              · rw [d3]
                rw [flatten_set sz hlen hφ hnl] at hq
                split at hq
                · rename_i hin
                  rw [List.getElem?_append, List.getElem?_append] at hq
                  simp only [List.length_append, List.length_take, hrl] at hq
                  have hm : min off sz = off := by omega
                  rw [hm] at hq
                  by_cases g1 : q - j * sz < off
                  · rw [if_pos (by omega), if_pos g1, List.getElem?_take, if_pos g1] at hq
                    rw [if_neg (by omega)]
                    obtain ⟨u, hu, hr, h1⟩ := o7 q s (by rw [flatten_get sz hlen hφ hin.1 hin.2, ← hg]; exact hq)
                    exact ⟨u, hu, hr.keep hk, h1⟩
                  · by_cases g2 : q - j * sz < off + ss.length
                    · rw [if_pos g2, if_neg g1] at hq
                      rw [if_pos (by omega)]
                      obtain ⟨u, hu, hr⟩ := hz.get hq
                      exact ⟨u, by rw [show q - (j * sz + off) = q - j * sz - off by omega]; exact hu, hr.keep hk, hzo u (List.mem_of_getElem? hu)⟩
                    · rw [if_neg g2, List.getElem?_drop] at hq
                      rw [if_neg (by omega)]
                      obtain ⟨u, hu, hr, h1⟩ := o7 q s (by rw [flatten_get sz hlen hφ hin.1 hin.2, ← hg, ← hq]; congr 1; omega)
                      exact ⟨u, hu, hr.keep hk, h1⟩
                · rename_i hin
                  rw [if_neg (by omega)]
                  obtain ⟨u, hu, hr, h1⟩ := o7 q s hq
                  exact ⟨u, hu, hr.keep hk, h1⟩) (by
              simp only [Ob.lt]
              refine ltAll_memI fun y hy => ?_
              obtain ⟨r, hr, hy⟩ := List.mem_flatten.1 hy
              rcases List.mem_or_eq_of_mem_set hr with h1 | h1
              · exact ltAll_memO hrowlt y (List.mem_flatten.2 ⟨r, h1, hy⟩)
              · rw [h1] at hy
                simp only [List.mem_append] at hy
                rcases hy with (hy | hy) | hy
                · exact hgd y (List.mem_of_mem_take hy)
                · exact ltAll_memO hssl y hy
                · exact hgd y (List.mem_of_mem_drop hy))
          have hrun : (execOp a.eval o).run c.P w = .ok .skip (w.setCells b (j * sz + off) (a.eval z).cells.toList) := by
            unfold execOp; rw [ho]
            simp [hv, Instr.storeAt, Instr.sureAddr, storeVar, run_sizeOf' w b3, hsz2, hst]
          unfold Oper.wp
          rw [hrun]
          refine hK β _ undef ?_ (by simp only [AVal]) rfl
          subst hss
          exact hwr
        · cases h
      · cases h
    · cases h
  case h_3 t y i ho =>
    split at h
    · rename_i e j k k1 n hej hy hi
      split at h
      · rename_i e0 sz rows hh
        split at h
        · rename_i hs
          cases h
          obtain rfl := Nat.eq_of_beq_eq_true hs
          obtain ⟨ti, ht, hk, hj⟩ := elem_info hej
          obtain ⟨d', info', z', g1, g2, g3, g4, _⟩ := hT e j hj
          have hu := under_slice hT ht hk
          simp only [Option.getD_some] at hφ
          obtain ⟨f1, f2⟩ := hφ
          have hv := hρ t y; rw [hy] at hv; simp only [AVal] at hv
          have hiv := hρ 0 i; rw [hi] at hiv; simp only [AVal, Rep] at hiv
          obtain ⟨hlen, hs0, hob⟩ := hc.hp k _ hh
          rcases hob with ⟨o1, rfl⟩ | ⟨b, cap, cur, o1, o2, o3, o4, o5, o6, o7⟩
          · simp at f2; omega
          · refine wp_value (v := .pointer (some ⟨b, n.toNat * j.size + 0, none⟩)) (w' := w) ?_ (hK β w _ hc ?_ ?_)
            · unfold execOp; rw [ho]
              have hnn : n.toNat < rows.length := by omega
              simp [hv.1, o1, hiv, Instr.indexAt, asIntOf, run_underlying' w hu, f1, f2, run_sizeOf' w g3, g4, addr_add]
            · simp only [AVal]
              exact ⟨b, _, _, o1, rfl⟩
            · have := (hc.hplt k _ hh).1
              simpa [AV.lt] using this
        · cases h
      · cases h
    · cases h
  case h_4 t y hi ho =>
    split at h
    · rename_i e j k k1 n hej hy hi'
      split at h
      · rename_i e0 sz rows hh
        split at h
        · rename_i hs
          cases h
          obtain rfl := Nat.eq_of_beq_eq_true hs
          obtain ⟨ti, ht, hk, hj⟩ := elem_info hej
          obtain ⟨d', info', z', g1, g2, g3, g4, _⟩ := hT e j hj
          have hu := under_slice hT ht hk
          simp only [Option.getD_some] at hφ
          obtain ⟨f1, f2⟩ := hφ
          have hv := hρ t y; rw [hy] at hv; simp only [AVal] at hv
          have hiv := hρ 0 hi; rw [hi'] at hiv; simp only [AVal, Rep] at hiv
          have hrowlt : AV.ltAll σ.nx rows.flatten = true := by simpa [Ob.lt] using (hc.hplt k _ hh).2
          have htl : (Ob.arow e0 j.size (rows.take n.toNat)).lt σ.nx = true := by
            simp only [Ob.lt]
            refine ltAll_memI fun y hy => ?_
            obtain ⟨r, hr, hy⟩ := List.mem_flatten.1 hy
            exact ltAll_memO hrowlt y (List.mem_flatten.2 ⟨r, List.mem_of_mem_take hr, hy⟩)
          obtain ⟨hlen, hs0, hob⟩ := hc.hp k _ hh
          have hlen' : ∀ r ∈ rows.take n.toNat, r.length = j.size := fun r hr => hlen r (List.mem_of_mem_take hr)
          rcases hob with ⟨o1, o2⟩ | ⟨b, cap, cur, o1, o2, o3, o4, o5, o6, o7⟩
          · subst o2
            obtain rfl : n = 0 := by simp at f2; omega
            obtain ⟨β', b1, b2, b3⟩ := hc.turn (k := k) hh (ob' := .arow e0 j.size ([].take (0 : Int).toNat)) (v' := .slice none 0 0) (w' := w)
              ⟨rfl, rfl, rfl, Nat.le_refl _, fun _ _ _ => rfl, ⟨hlen', hs0, .inl ⟨rfl, by simp⟩⟩, fun b hb => by cases hb⟩ htl
            refine wp_value (v := .slice none 0 0) (w' := w) ?_ (hK β' w _ b3 ?_ (by simp [AV.lt, addOb, ridOb]))
            · unfold execOp; rw [ho]
              have hbb := run_bounds (P := c.P) (w := w) (isSlice := true) (len := 0) (cap := 0) (vlo := none) (vhi := some (.int k1 0)) (.inl ⟨rfl, rfl⟩) (.inr ⟨k1, rfl⟩) (Int.le_refl 0) (Int.le_refl 0) (by simp)
              simp [hv.1, o1, hiv, Instr.sliceAt, Instr.slice, run_underlying' w hu, hbb, run_sizeOf' w g3, g4]
            · simp only [AVal]
              exact ⟨b2.symm, _, _, _, rfl⟩
          · have hn : (rows.take n.toNat).length = n.toNat := by simp; omega
            obtain ⟨β', b1, b2, b3⟩ := hc.turn (k := k) hh (ob' := .arow e0 j.size (rows.take n.toNat)) (v' := .slice (some ⟨b, 0, none⟩) n.toNat cap) (w' := w)
              ⟨rfl, rfl, rfl, Nat.le_refl _, fun _ _ _ => rfl, ⟨hlen', hs0, .inr ⟨b, cap, cur, by rw [hn], by rw [hn]; omega, o3, o4, o5, o6, fun q s hq => by
                refine o7 q s ?_
                have e3 : rows.flatten = (rows.take n.toNat).flatten ++ (rows.drop n.toNat).flatten := by rw [← List.flatten_append, List.take_append_drop]
                rw [e3, List.getElem?_append, if_pos (List.getElem?_eq_some_iff.1 hq).1]; exact hq⟩⟩, fun b' hb' => .inl (by rw [o1]; exact hb')⟩ htl
            refine wp_value (v := .slice (some ⟨b, 0, none⟩) n.toNat cap) (w' := w) ?_ (hK β' w _ b3 ?_ (by simp [AV.lt, addOb, ridOb]))
            · unfold execOp; rw [ho]
              have hbb := run_bounds (P := c.P) (w := w) (isSlice := true) (len := rows.length) (cap := cap) (vlo := none) (vhi := some (.int k1 n)) (.inl ⟨rfl, rfl⟩) (.inr ⟨k1, rfl⟩) (Int.le_refl 0) f1 (by omega)
              simp [hv.1, o1, hiv, Instr.sliceAt, Instr.slice, run_underlying' w hu, hbb, run_sizeOf' w g3, g4]
              intro _; rfl
            · simp only [AVal]
              exact ⟨b2.symm, _, _, _, rfl⟩
        · cases h
      · cases h
    · cases h
  case h_5 args ts ho =>
    split at h
    · rename_i y t e e'
      have e1 : args = #[y] := Array.toList_inj.1 (by simpa using e)
      have e2 : ts = #[t] := Array.toList_inj.1 (by simpa using e')
      subst e1; subst e2
      split at h
      · rename_i e3 k hk hy
        split at h
        · rename_i e0 sz rows hh
          cases h
          have hu := under_of_tk hT hk
          have hv := hρ t y; rw [hy] at hv; simp only [AVal] at hv
          obtain ⟨_, _, hob⟩ := hc.hp k _ hh
          refine wp_value (v := .int .i64 rows.length) (w' := w) (eval_call ho fun cs => ?_) (hK β w _ hc (by simp [AVal, Rep]) rfl)
          rcases hob with ⟨o1, rfl⟩ | ⟨b, cap, cur, o1, _⟩ <;>
            simp [builtin, Builtin.len_, run_underlying' w hu, hv.1, o1, goInt]
        · cases h
      · cases h
    · cases h
  case h_6 args ts ho =>
    split at h
    · rename_i y z t tx e e'
      have e1 : args = #[y, z] := Array.toList_inj.1 (by simpa using e)
      have e2 : ts = #[t, tx] := Array.toList_inj.1 (by simpa using e')
      subst e1; subst e2
      split at h
      · rename_i e j k e0 sz rows sz' rows' hej hb hr
        split at h
        · rename_i q1 q2 q3
          cases h
          obtain rfl := Nat.eq_of_beq_eq_true q1
          obtain rfl := Nat.eq_of_beq_eq_true q2
          obtain rfl := Nat.eq_of_beq_eq_true q3
          obtain ⟨i, ht, hk, hj⟩ := elem_info hej
          obtain ⟨hreads, hl2⟩ := rowsA_reads hT hc hr (hρ tx z) (hlt tx z)
          simp only [Option.getD_some] at hφ
          unfold baseA at hb
          split at hb
          · rename_i k' hy
            split at hb
            · rename_i e3 sz3 rows3 hh
              cases hb
              have hv := hρ t y; rw [hy] at hv; simp only [AVal] at hv
              have ho0 := hc.hp _ _ hh
              have hl1 : AV.ltAll σ.nx rows.flatten = true := by simpa [Ob.lt] using (hc.hplt _ _ hh).2
              obtain ⟨v', w', r1, r2⟩ := run_appendA (ty := o.type) hT ht hk hj rfl ho0 hreads hφ.1 hφ.2 hc.fr.size hc.lt
              have a6 := r2.2.2.2.2.2.1
              obtain ⟨β', b1, b2, b3⟩ := hc.turn hh r2 (by simp only [Ob.lt, List.flatten_append]; exact ltAll_appI hl1 hl2)
              have hs : ∃ o n c, v' = .slice o n c := by
                obtain ⟨_, _, h⟩ := a6
                rcases h with ⟨h, _⟩ | ⟨_, _, _, h, _⟩ <;> exact ⟨_, _, _, h⟩
              refine wp_value (eval_call ho fun cs => by simp [builtin, hv.1]; rw [r1]; rfl) (hK β' w' v' b3 ?_ (by simp [AV.lt, addOb, ridOb]))
              simp only [AVal]
              exact ⟨b2.symm, hs⟩
            · cases hb
          · cases hb
        · cases h
      · cases h
    · cases h
  case h_7 args ts ho =>
    split at h
    · rename_i y z t tx e e'
      have e1 : args = #[y, z] := Array.toList_inj.1 (by simpa using e)
      have e2 : ts = #[t, tx] := Array.toList_inj.1 (by simpa using e')
      subst e1; subst e2
      split at h
      · rename_i e j k e0 sz rows sz' rows' hej hb hr
        split at h
        · rename_i q1 q2
          cases h
          obtain rfl := Nat.eq_of_beq_eq_true q1
          obtain rfl := Nat.eq_of_beq_eq_true q2
          obtain ⟨i, ht, hk, hj⟩ := elem_info hej
          obtain ⟨d', info', z', g1, g2, g3, g4, _⟩ := hT e j hj
          have hu := under_slice hT ht hk
          obtain ⟨⟨⟨news, hsrc, hreps⟩, hlen'⟩, hl2⟩ := rowsA_reads hT hc hr (hρ tx z) (hlt tx z)
          simp only [Option.getD_some] at hφ
          unfold baseA at hb
          split at hb
          · rename_i k' hy
            split at hb
            · rename_i e3 sz3 rows3 hh
              cases hb
              have hv := hρ t y; rw [hy] at hv; simp only [AVal] at hv
              have ho0 := hc.hp _ _ hh
              obtain ⟨hlen, hs0, hob⟩ := ho0
              have hnl := hsrc.newsLen
              have hone := hreps.one (fun _ _ h => h.2)
              have hcl := hsrc.cells
              rw [← g4] at hcl
              rcases hob with ⟨o1, o2⟩ | ⟨b, cap, cur, o1, o2, o3, o4, o5, o6, o7⟩
              · subst o2
                obtain rfl : rows' = [] := List.length_eq_zero_iff.1 (by simpa using hφ)
                refine wp_value (v := .int .i64 0) (w' := w) (eval_call ho fun cs => ?_) (hK β w _ ?_ (by simp [AVal, Rep]) rfl)
                · simp only [List.length_nil] at hcl
                  simp [builtin, Builtin.copy_, run_underlying' w hu, hv.1, o1, hsrc.len, run_sizeOf' w g3, hcl, goInt]
                · have : updOb σ k (.arow e0 j.size []) = { σ with hp := σ.hp } := by
                    unfold updOb
                    congr 1
                    funext q
                    cases hq : Nat.beq q k with
                    | true => obtain rfl := Nat.eq_of_beq_eq_true hq; simp [hh]
                    | false => rfl
                  rw [this]; exact hc
              · have hst := run_storeCells_cells (P := c.P) b 0 news 0 w
                  (fun q hq => by
                    have h8 : rows.length * j.size ≤ cap * j.size := Nat.mul_le_mul_right _ o2
                    have h9 : 0 + q < cur.size := by rw [hnl, hφ] at hq; omega
                    simp [World.cell?, o4, Nat.zero_add] at h9 ⊢; exact h9) (fun q hq => by simp [World.frozen?, o4]) hone
                simp only [Nat.add_zero] at hst
                obtain ⟨cur', d1, d2, d3⟩ := block_setCells b news 0 w cur o4
                have hrest := rest_setCells b news 0 w
                have hwr := hc.write (w' := w.setCells b 0 news) (ob' := .arow e0 j.size rows') hh (b := b) (by rw [o1]; rfl) o5 o6 hrest.1 hrest.2.1 hrest.2.2
                  (size_setCells' _ _ _ _) (fun q hq => heap_setCells _ _ _ _ _ hq) (fun hk => by
                    refine ⟨hlen', hs0, .inr ⟨b, cap, cur', by rw [o1, hφ], by rw [hφ]; exact o2, by rw [d2, o3], d1, o5, o6, fun q s hq => ?_⟩⟩
                    have hql := (List.getElem?_eq_some_iff.1 hq).1
                    rw [← hreps.1] at hql
                    have h8 : rows.length * j.size ≤ cap * j.size := Nat.mul_le_mul_right _ o2
                    rw [d3, if_pos ⟨Nat.zero_le _, by omega, by rw [hnl, hφ] at hql; omega⟩]
                    have := hreps.2 q s _ hq (List.getElem?_eq_getElem hql)
                    exact ⟨_, by simp, this.1.keep hk, this.2⟩) (by simpa [Ob.lt] using hl2)
                refine wp_value (v := .int .i64 rows.length) (w' := w.setCells b 0 news) (eval_call ho fun cs => ?_) (hK β _ _ hwr (by simp [AVal, Rep]) rfl)
                have hmin : Nat.min rows'.length rows.length = rows.length := by rw [hφ]; exact Nat.min_self _
                rw [hφ] at hcl
                simp [builtin, Builtin.copy_, run_underlying' w hu, hv.1, o1, hsrc.len, hφ, run_sizeOf' w g3, hcl, hst, goInt]
            · cases hb
          · cases hb
        · cases h
      · cases h
    · cases h
  all_goals cases h

/-- A load through a pointer into an own row of any cells. -/
def loadA (T : Nat → Option TI) (t : Nat) (row : List AV) : Option AV :=
  match T t with
  | none => none
  | some i =>
    match i.k.agg with
    | true => match Nat.ble i.size row.length with | true => some (.agg (row.take i.size)) | false => none
    | false => match row with | x :: _ => some x | [] => none

theorem run_loadA {c : Cx} {T : Nat → Option TI} {G : Nat → Prop} {β : Nat → Value} {w : World} (hT : TOk c.P T) {t : Nat} {row : List AV} {y : AV} (h : loadA T t row = some y) {b off : Nat}
    (hr : ∀ (i : Nat) x, row[i]? = some x → ∃ u, w.cell? ⟨b, off + i, none⟩ = some u ∧ AVal G w β x u) :
    ∃ z, (Instr.loadAt t (.pointer (some ⟨b, off, none⟩))).run c.P w = .ok z w ∧ AVal G w β y z := by
  have hload : ∀ n, n ≤ row.length → ∃ vs, (loadCells ⟨b, off, none⟩ n).run c.P w = .ok vs.toArray w ∧ AVals G w β (row.take n) vs := fun n hn => by
    have hc : ∀ i, i < n → ∃ u, w.cell? ⟨b, off + i, none⟩ = some u ∧ AVal G w β (row.getD i .junk) u := fun i hi => by
      have := hr i (row.getD i .junk) (by rw [List.getD_eq_getElem?_getD, List.getElem?_eq_getElem (by omega)]; rfl)
      exact this
    let vs := (List.range n).map fun i => (w.cell? ⟨b, off + i, none⟩).getD undef
    have hl := run_loadCells_list (P := c.P) w ⟨b, off, none⟩ vs (fun j v hj => by
      have hjn : j < n := by have := (List.getElem?_eq_some_iff.1 hj).1; simpa [vs] using this
      obtain ⟨u, hu, _⟩ := hc j hjn
      rw [addr_add]
      simp [vs, hjn, hu] at hj
      rw [hu, hj])
    refine ⟨vs, by simpa [vs] using hl, AVals.mk (by simp [vs]; omega) fun i x v hx hv => ?_⟩
    have hin : i < n := by have := (List.getElem?_eq_some_iff.1 hv).1; simpa [vs] using this
    obtain ⟨u, hu, hr⟩ := hc i hin
    rw [List.getElem?_take, if_pos hin] at hx
    rw [List.getD_eq_getElem?_getD, hx] at hr
    simp [vs, hin, hu] at hv
    subst hv; exact hr
  unfold loadA at h
  split at h
  · cases h
  · rename_i i ht
    obtain ⟨d, info, z, b1, b2, b3, b4, b5, b6, b7, b8, b9, b10⟩ := hT t i ht
    have hagg := run_isAgg' (P := c.P) w b1
    rw [b2] at hagg
    split at h
    · rename_i hk
      split at h
      · rename_i hle
        cases h
        obtain ⟨vs, h1, h2⟩ := hload i.size (Nat.le_of_ble_eq_true hle)
        refine ⟨.agg vs.toArray, ?_, by simp only [AVal]; exact ⟨vs, rfl, h2⟩⟩
        simp [Instr.loadAt, Instr.sureAddr, loadVar, hagg, hk, run_sizeOf' w b3, b4, h1]
      · cases h
    · rename_i hk
      split at h
      · rename_i x r
        cases h
        obtain ⟨u, hu, hr'⟩ := hr 0 y rfl
        simp only [Nat.add_zero] at hu
        refine ⟨u, ?_, hr'⟩
        simp [Instr.loadAt, Instr.sureAddr, loadVar, hagg, hk, hu]
      · cases h

theorem loadA_lt {T : Nat → Option TI} {t : Nat} {row : List AV} {y : AV} {n : Nat} (h : loadA T t row = some y) (hr : ∀ x ∈ row, x.lt n = true) : y.lt n = true := by
  unfold loadA at h
  split at h
  · cases h
  · split at h
    · split at h
      · cases h; simp only [AV.lt]; exact ltAll_memI fun x hx => hr x (List.mem_of_mem_take hx)
      · cases h
    · split at h
      · cases h; exact hr _ (by simp)
      · cases h

theorem load_rpA {c : Cx} {T : Nat → Option TI} {G : Nat → Prop} {β : Nat → Value} {σ : St} {a : Act} {w : World} (hT : TOk c.P T)
    (hc : Conc c G β σ a w) {o : Oper} {t : Nat} {y : Operand} (ho : o.op = .load t y) {k sz i off e' : Nat} (e : opd T σ.env 0 y = .rp k sz i off) {rows : List (List AV)} (hh : σ.hp k = some (.arow e' sz rows)) (hφ : i < rows.length) {x : AV}
    (hl : loadA T t ((rows.getD i []).drop off) = some x) {K : Act → World → Prop} {Q : Exit → Act → World → Prop}
    (hK' : ∀ v, AVal G w β x v → x.lt σ.nx = true → K (a.put o.dst v) w) : o.wp c.P a w K Q := by
  have hρ : ∀ ty x, AVal G w β (opd T σ.env ty x) (a.eval x) := opd_rep hc T
  have hy := hρ 0 y
  rw [e] at hy
  simp only [AVal] at hy
  obtain ⟨b, n, cp, hβ, hv⟩ := hy
  have hrowlt : AV.ltAll σ.nx rows.flatten = true := by simpa [Ob.lt] using (hc.hplt k _ hh).2
  obtain ⟨hlen, hs0, ho'⟩ := hc.hp k _ hh
  rcases ho' with ⟨_, rfl⟩ | ⟨b', cap, cur, o1, o2, o3, o4, o5, o6, o7⟩
  · simp at hφ
  rw [hβ] at o1
  cases o1
  have hg : rows.getD i [] = rows[i] := by simp [List.getElem?_eq_getElem hφ]
  have hrow : ∀ q s, (rows.getD i [])[q]? = some s → ∃ u, w.cell? ⟨b, i * sz + q, none⟩ = some u ∧ AVal G w β s u := fun q s hq => by
    have hql : q < sz := by rw [hg] at hq; rw [← hlen rows[i] (List.getElem_mem hφ)]; exact (List.getElem?_eq_some_iff.1 hq).1
    have hq' : rows.flatten[i * sz + q]? = some s := by
      rw [flatten_get sz hlen hφ (by omega) (by omega), ← hg, ← hq]; congr 1; omega
    obtain ⟨u, hu, hr, _⟩ := o7 _ s hq'
    exact ⟨u, by simp [World.cell?, o4, hu], hr⟩
  obtain ⟨u, hu, hr⟩ := run_loadA (c := c) (G := G) (β := β) hT hl (b := b) (off := i * sz + off) fun q s hq => by
    rw [List.getElem?_drop] at hq
    rw [Nat.add_assoc]; exact hrow (off + q) s hq
  rw [← hv] at hu
  exact wp_value (v := u) (w' := w) (by unfold execOp; rw [ho]; simp [hu]) (hK' u hr (loadA_lt hl fun x hx => ltAll_memO hrowlt x (List.mem_flatten.2 ⟨rows[i], List.getElem_mem hφ, hg ▸ List.mem_of_mem_drop hx⟩)))

end Go.Abs
