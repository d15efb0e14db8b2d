/-
  Joined out of: AbsI, AbsR, AbsJ, AbsK.
-/
import Derived.RangeFuncNested
import Derived.RangeFuncLeaves
import Derived.TacticsIn
import Derived.Test.YtgfneloodabafaaGreatDoorZa
set_option linter.unusedVariables false
set_option linter.unusedSimpArgs false
set_option maxHeartbeats 2000000
set_option maxRecDepth 100000
namespace Go.Abs
theorem Conc.blk_lt {c : Cx} {G : Nat → Prop} {β : Nat → Value} {σ : St} {a : Act} {w : World} (h : Conc c G β σ a w) {k : Nat} {ob : Ob} (hk : σ.hp k = some ob) {b : Nat} (hb : blk (β k) = some b) : b < w.heap.size := by
 have ho := h.hp k ob hk
 cases ob with
 | box cells =>
  obtain ⟨b', e, cur, h1, h2, _⟩ := ho
  rw [h1] at hb; cases hb
  exact (Array.getElem?_eq_some_iff.1 h2).1
 | row e sz rows =>
  obtain ⟨_, _, h1⟩ := ho
  rcases h1 with ⟨h1, _⟩ | ⟨b', cap, cur, h1, _, _, h2, _⟩
  ·rw [h1] at hb; cases hb
  ·rw [h1] at hb; cases hb
   exact (Array.getElem?_eq_some_iff.1 h2).1
 | arow e sz rows =>
  obtain ⟨_, _, h1⟩ := ho
  rcases h1 with ⟨h1, _⟩ | ⟨b', cap, cur, h1, _, _, h2, _⟩
  ·rw [h1] at hb; cases hb
  ·rw [h1] at hb; cases hb
   exact (Array.getElem?_eq_some_iff.1 h2).1
theorem Ext.own {G : Nat → Prop} {w : World} (h : ∀ b, G b → b < w.heap.size) (o : Obj) : Ext G G w (w.alloc o) :=
 ⟨rfl, rfl, rfl, by simp, fun _ hb => zDH w o hb, fun _ h => h, fun _ h => .inl h, fun b hb => by have := h b hb; simp; omega⟩
theorem Conc.fresh {c : Cx} {G : Nat → Prop} {β : Nat → Value} {σ : St} {a : Act} {w : World} (h : Conc c G β σ a w) (cur : Array Value) (e : TypeId) {ob : Ob} {v : Value} (hb : ∀ b, blk v = some b → b = w.heap.size)
  (ho : Conc c G β σ a (w.alloc (.cells cur e)) → ObAt c G (w.alloc (.cells cur e)) β v ob) (hl : ob.lt σ.nx = true) :
  ∃ β', (∀ k, k < σ.nx → β' k = β k) ∧ β' σ.nx = v ∧ Conc c G β' (zBU σ ob) a (w.alloc (.cells cur e)) := by
 have h1 := h.ext (Ext.own h.lt (.cells cur e))
 obtain ⟨β', b1, b2, b3⟩ := h1.make (ho h1) hl (fun k ob' hk b hv e' => by
  have := h.blk_lt hk e'
  rw [hb b hv] at this
  omega)
 exact ⟨β', b1, b2, b3⟩
theorem zJC {c : Cx} {G : Nat → Prop} {β : Nat → Value} {σ : St} {a : Act} {w : World} (h : Conc c G β σ a w) : c.mine w.heap.size := .inr h.fr.size
theorem zJD {c : Cx} {G : Nat → Prop} {β : Nat → Value} {σ : St} {a : Act} {w : World} (h : Conc c G β σ a w) : ¬ G w.heap.size := fun hg => Nat.lt_irrefl _ (h.lt _ hg)
theorem Conc.freshRow {c : Cx} {G : Nat → Prop} {β : Nat → Value} {σ : St} {a : Act} {w : World} (h : Conc c G β σ a w) (cur : Array Value) (e sz cap : Nat) (rows : List (List S)) (hlen : ∀ r ∈ rows, r.length = sz) (hsz : 0 < sz)
  (hcap : rows.length ≤ cap) (hcur : cur.size = cap * sz) (hc : ∀ (i : Nat) s, rows.flatten[i]? = some s → ∃ u, cur[i]? = some u ∧ Rep G w s u) :
  ∃ β', (∀ k, k < σ.nx → β' k = β k) ∧ β' σ.nx = .slice (some ⟨w.heap.size, 0, none⟩) rows.length cap ∧ Conc c G β' (zBU σ (.row e sz rows)) a (w.alloc (.cells cur e)) :=
 h.fresh cur e (by simp [blk]) (fun h1 => ⟨hlen, hsz, .inr ⟨w.heap.size, cap, cur, rfl, hcap, hcur, zC2 _ _, zJD h, zJC h, fun i s hi =>
  let ⟨u, hu, hr⟩ := hc i s hi; ⟨u, hu, hr.keep ((Ext.own h.lt _).keep h.lt)⟩⟩⟩) rfl
theorem zIh {G : Nat → Prop} {w : World} {ss : List S} {vs : List Value} (h : Reps G w ss vs) {i : Nat} {s : S} (hi : ss[i]? = some s) : ∃ u, vs[i]? = some u ∧ Rep G w s u := by
 have hlt : i < vs.length := by rw [h.1]; exact (List.getElem?_eq_some_iff.1 hi).1
 exact ⟨vs[i], List.getElem?_eq_getElem hlt, h.2 i s _ hi (List.getElem?_eq_getElem hlt)⟩
theorem zFH (z : List S) : ∀ n i, (List.replicate n z).flatten[i]? = if i < n * z.length then z[i % z.length]? else none
 | 0, i => by simp
 | n + 1, i => by
  rw [List.replicate_succ, List.flatten_cons, List.getElem?_append]
  have e : (n + 1) * z.length = n * z.length + z.length := by rw [Nat.add_mul]; omega
  split
  ·rename_i hlt
   rw [if_pos (by omega), Nat.mod_eq_of_lt hlt]
  ·rename_i hlt
   rw [zFH z n (i - z.length)]
   by_cases h2 : i < (n + 1) * z.length
   ·rw [if_pos h2, if_pos (by omega), ← Nat.mod_eq_sub_mod (by omega)]
   ·rw [if_neg h2, if_neg (by omega)]
theorem zCF {T : Nat → Option TI} {t e : Nat} {j : TI} (h : elemOf T t = some (e, j)) : ∃ i, T t = some i ∧ i.k = .slice e ∧ T e = some j := by
 unfold elemOf at h
 split at h
 ·rename_i i hi
  split at h
  ·rename_i e' hk
   split at h
   ·rename_i j' hj; cases h; exact ⟨i, hi, hk, hj⟩
   ·cases h
  ·cases h
 ·cases h
theorem zD1 {P : Program} {T : Nat → Option TI} (hT : TOk P T) {t e : Nat} (h : tk T t = .slice e) : P.underlying t = some (.slice e) := by
 obtain ⟨d, hd, hk⟩ := zDw hT h (by simp)
 cases d <;> simp only [tkOf, reduceCtorEq, TK.slice.injEq] at hk
 subst hk; exact hd
theorem zFm {c : Cx} {T : Nat → Option TI} {G : Nat → Prop} {β : Nat → Value} {σ : St} {a : Act} {w : World} (hT : TOk c.P T) (hc : Conc c G β σ a w) {tx sz : Nat} {y : AV} {rows : List (List S)} (h : rowsOf T σ tx y = some (sz, rows))
  {v : Value} (hv : AVal G w β y v) : Reads G w c.P tx sz rows v := by
 unfold rowsOf at h
 split at h
 ·rename_i e sz0 hk
  cases h
  have hu := zD1 hT hk
  simp only [AVal] at hv; subst hv
  exact ⟨⟨[], Src.ofNil w hu 0, ⟨rfl, fun i s v hs => by simp at hs⟩⟩, fun r hr => by cases hr⟩
 ·rename_i e sz0 rows0 hk
  cases h
  have hu := zD1 hT hk
  simp only [AVal] at hv
  exact zTq hu hv (.inr trivial)
 ·rename_i e k hk
  split at h
  ·rename_i e0 sz0 rows0 hh
   cases h
   have hu := zD1 hT hk
   simp only [AVal] at hv
   obtain ⟨rfl, _⟩ := hv
   exact zSc hu (hc.hp k _ hh)
  ·cases h
 ·rename_i l hk
  cases h
  obtain ⟨d, hd, hk'⟩ := zDw hT hk (by simp)
  cases d <;> simp only [tkOf, reduceCtorEq] at hk'
  simp only [AVal, Rep] at hv; subst hv
  exact zSd hd
 ·cases h
theorem zQJ {c : Cx} {G : Nat → Prop} {β : Nat → Value} {σ : St} {a : Act} {w : World} (hc : Conc c G β σ a w) {k : Nat} {ob : Ob} (hk : σ.hp k = some ob) :
  ∀ k' ob', (zE1 σ k).hp k' = some ob' → ∀ b, blk (β k') = some b → some b ≠ blk (β k) := fun k' ob' hk' b hb e => by
 unfold zE1 at hk'
 dsimp only at hk'
 cases e1 : Nat.beq k' k with
 | true => rw [e1, cond_true] at hk'; cases hk'
 | false =>
  rw [e1, cond_false] at hk'
  exact hc.inj k' k ob' ob hk' hk (Nat.ne_of_beq_eq_false e1) b hb e.symm
theorem row_block {c : Cx} {G : Nat → Prop} {w : World} {β : Nat → Value} {v : Value} {ob : Ob} (h : ObAt c G w β v ob) : ∀ b, blk v = some b → ¬ G b ∧ c.mine b := fun b hb => by
 cases ob with
 | box cells =>
  obtain ⟨b', e, cur, rfl, _, h3, h4, _⟩ := h
  cases hb; exact ⟨h3, h4⟩
 | row e sz rows =>
  obtain ⟨_, _, h1⟩ := h
  rcases h1 with ⟨rfl, _⟩ | ⟨b', cap, cur, rfl, _, _, _, h3, h4, _⟩
  ·cases hb
  ·cases hb; exact ⟨h3, h4⟩
 | arow e sz rows =>
  obtain ⟨_, _, h1⟩ := h
  rcases h1 with ⟨rfl, _⟩ | ⟨b', cap, cur, rfl, _, _, _, h3, h4, _⟩
  ·cases hb
  ·cases hb; exact ⟨h3, h4⟩
theorem Conc.turn {c : Cx} {G : Nat → Prop} {β : Nat → Value} {σ : St} {a : Act} {w w' : World} (hc : Conc c G β σ a w) {k : Nat} {ob ob' : Ob} (hk : σ.hp k = some ob) {v' : Value}
  (h : zMe c G w β (β k) ob' v' w') (hl : ob'.lt σ.nx = true) :
  ∃ β', (∀ j, j < σ.nx → β' j = β j) ∧ β' σ.nx = v' ∧ Conc c G β' (zBU (zE1 σ k) ob') a w' := by
 obtain ⟨h1, h2, h3, h4, h5, h6, h7⟩ := h
 have hd := hc.drop k
 have hn := zQJ hc hk
 have ho := hd.other (w' := w') (blk (β k)) (fun k' o' hk' b hb => hn k' o' hk' b hb) (fun b hb => row_block (hc.hp k ob hk) b hb) h1 h2 h3 h4 h5
 obtain ⟨β', b1, b2, b3⟩ := ho.make h6 hl (fun k' o' hk' b hb e => by
  rcases h7 b hb with h7 | h7
  ·exact hn k' o' hk' b e h7.symm
  ·have := hd.blk_lt hk' e; omega)
 exact ⟨β', b1, b2, b3⟩
theorem zBs {n : Nat} : ∀ {l : List AV} {q : Nat} {y : AV}, AV.ltAll n l = true → l[q]? = some y → y.lt n = true
 | [], _, _, _, h => by simp at h
 | a :: l, 0, y, h, hq => by
  simp only [AV.ltAll, Bool.and_eq_true] at h
  simp at hq; subst hq; exact h.1
 | a :: l, q + 1, y, h, hq => by
  simp only [AV.ltAll, Bool.and_eq_true] at h
  exact zBs h.2 (by simpa using hq)
theorem zC4 {n : Nat} : ∀ {l : List AV}, (∀ (q : Nat) (y : AV), l[q]? = some y → y.lt n = true) → AV.ltAll n l = true
 | [], _ => rfl
 | a :: l, h => by
  simp only [AV.ltAll, Bool.and_eq_true]
  exact ⟨h 0 a rfl, zC4 fun q y hq => h (q + 1) y (by simpa using hq)⟩
theorem zRP {n : Nat} (l : List S) : AV.ltAll n (l.map AV.s) = true := by
 induction l with
 | nil => rfl
 | cons a l ih => simp [AV.ltAll, AV.lt, ih]
theorem zMI {T : Nat → Option TI} {t : Nat} {row : List S} {y : AV} {n : Nat} (h : zK9 T t row = some y) : y.lt n = true := by
 unfold zK9 at h
 split at h
 ·cases h
 ·split at h
  ·split at h
   ·cases h; simp only [AV.lt]; exact zRP _
   ·cases h
  ·split at h
   ·cases h; rfl
   ·cases h
theorem zDX {α : Type} (sz : Nat) : ∀ {rows : List (List α)} {j q : Nat}, (∀ r ∈ rows, r.length = sz) → (hj : j < rows.length) → j * sz ≤ q → q < j * sz + sz → rows.flatten[q]? = (rows[j])[q - j * sz]?
 | [], _, _, _, hj, _, _ => by simp at hj
 | r :: rows, 0, q, hl, hj, h1, h2 => by
  have hr : r.length = sz := hl r (by simp)
  rw [List.flatten_cons, List.getElem?_append, if_pos (by omega)]; simp
 | r :: rows, j + 1, q, hl, hj, h1, h2 => by
  have hr : r.length = sz := hl r (by simp)
  rw [Nat.add_mul] at h1 h2
  rw [List.flatten_cons, List.getElem?_append, if_neg (by omega), zDX sz (j := j) (fun r hr => hl r (by simp [hr])) (by simpa using hj) (by omega) (by omega)]
  simp only [List.getElem_cons_succ]
  congr 1
  rw [Nat.add_mul]; omega
theorem zHu {α : Type} (sz : Nat) : ∀ {rows : List (List α)} {j : Nat} {nr : List α}, (∀ r ∈ rows, r.length = sz) → j < rows.length → nr.length = sz → ∀ {q : Nat},
  (rows.set j nr).flatten[q]? = if j * sz ≤ q ∧ q < j * sz + sz then nr[q - j * sz]? else rows.flatten[q]?
 | [], _, _, _, hj, _, _ => by simp at hj
 | r :: rows, 0, nr, hl, hj, hn, q => by
  have hr : r.length = sz := hl r (by simp)
  rw [List.set_cons_zero, List.flatten_cons, List.flatten_cons, List.getElem?_append, List.getElem?_append, hn, hr]
  by_cases h : q < sz
  ·rw [if_pos h, if_pos (by omega)]; simp
  ·rw [if_neg h, if_neg (by omega), if_neg h]
 | r :: rows, j + 1, nr, hl, hj, hn, q => by
  have hr : r.length = sz := hl r (by simp)
  rw [List.set_cons_succ, List.flatten_cons, List.flatten_cons, List.getElem?_append, List.getElem?_append, hr, zHu sz (fun r hr => hl r (by simp [hr])) (by simpa using hj) hn, Nat.add_mul]
  by_cases h : q < sz
  ·rw [if_pos h, if_pos h, if_neg (by omega)]
  ·rw [if_neg h, if_neg h]
   by_cases h2 : j * sz ≤ q - sz ∧ q - sz < j * sz + sz
   ·rw [if_pos h2, if_pos (by omega)]; congr 1; omega
   ·rw [if_neg h2, if_neg (by omega)]
theorem zKA {G : Nat → Prop} {w : World} {β : Nat → Value} {xs : List AV} {vs : List Value} (h : AVals G w β xs vs) (ho : xs.all AV.one = true) : ∀ u ∈ vs, u.oneCell' = true := fun u hu => by
 obtain ⟨m, hm⟩ := List.getElem?_of_mem hu
 have hlt : m < xs.length := by rw [← h.length]; exact (List.getElem?_eq_some_iff.1 hm).1
 obtain ⟨u', h1, h2⟩ := h.get (List.getElem?_eq_getElem hlt)
 rw [hm] at h1; cases h1
 exact AVal.one (List.all_eq_true.1 ho _ (List.getElem_mem hlt)) h2
theorem zES {P : Program} {a : Act} {o : Oper} {w w' : World} {b : Builtin} {args : Array Operand} {ts : Array TypeId} (ho : o.op = .call { callee := .builtin b, args := args, argTypes := ts }) {v : Value}
  (h : ∀ cs, (builtin b ts o.type cs (args.map a.eval)).run P w = .ok (.value v) w') : (execOp a.eval o).run P w = .ok (.value v) w' := by
 simp [execOp, ho, resolve, invoke, h]
theorem Conc.hand {c : Cx} {G : Nat → Prop} {β : Nat → Value} {σ : St} {a : Act} {w w' : World} (h : Conc c G β σ a w) {j : Nat} {ob : Ob} (hj : σ.hp j = some ob)
  {b : Nat} (hb : blk (β j) = some b) (hos : w'.os = w.os) (htape : w'.tape = w.tape) (hout : w'.output = w.output) (hsize : w'.heap.size = w.heap.size)
  (hold : ∀ i, i ≠ b → w'.heap[i]? = w.heap[i]?) : Conc c (fun i => G i ∨ i = b) β (zE1 σ j) a w' := by
 obtain ⟨hg, hm⟩ := row_block (h.hp j ob hj) b hb
 have k : Keep G (fun i => G i ∨ i = b) w w' := ⟨fun _ h => .inl h, fun i hi => hold i (fun e => hg (e ▸ hi))⟩
 have hget : ∀ {k' o}, (zE1 σ j).hp k' = some o → k' ≠ j ∧ σ.hp k' = some o := fun {k' o} hk => by
  simp only [zE1] at hk
  cases e : Nat.beq k' j with
  | true => rw [e, cond_true] at hk; cases hk
  | false => rw [e, cond_false] at hk; exact ⟨Nat.ne_of_beq_eq_false e, hk⟩
 have hne : ∀ {k' o}, σ.hp k' = some o → k' ≠ j → ∀ {b' : Nat}, blk (β k') = some b' → b' ≠ b := fun {k' o} hk hn {b'} hb' e => h.inj k' j o ob hk hj hn b (e ▸ hb') hb
 refine { h with env := fun t => (h.env t).keep k, hp := fun k' o hk => ?_, hplt := fun k' o hk => h.hplt k' o (hget hk).2, inj := fun k1 k2 o1 o2 h1 h2 => h.inj k1 k2 o1 o2 (hget h1).2 (hget h2).2, lt := fun i hi => ?_, sub := fun i hi => .inl (h.sub i hi), new := fun i hi => hi.elim (h.new i) (fun e => .inr (e ▸ hm)), fr := ?_, glob := h.glob.keep k }
 ·obtain ⟨hn, hk0⟩ := hget hk
  have ho := h.hp k' o hk0
  cases o with
  | box cells =>
   obtain ⟨b', e', cur, h1, h2, h3, h4, h5, h6⟩ := ho
   have hbb := hne hk0 hn (b' := b') (by rw [h1]; rfl)
   exact ⟨b', e', cur, h1, by rw [hold b' hbb]; exact h2, fun hh => hh.elim h3 hbb, h4, h5.keep k, h6⟩
  | row e' sz rows =>
   obtain ⟨h0, h0', h1⟩ := ho
   refine ⟨h0, h0', h1.imp id ?_⟩
   rintro ⟨b', cap, cur, h1, h2, h3, h4, h5, h6, h7⟩
   have hbb := hne hk0 hn (b' := b') (by rw [h1]; rfl)
   exact ⟨b', cap, cur, h1, h2, h3, by rw [hold b' hbb]; exact h4, fun hh => hh.elim h5 hbb, h6, fun i s hi => let ⟨u, hu, hr⟩ := h7 i s hi; ⟨u, hu, hr.keep k⟩⟩
  | arow e' sz rows => exact ho.moveA (fun b' x hb' hx => by rw [hold b' (hne hk0 hn hb')]; exact hx) (fun b' x hb' _ hg hh => hh.elim hg (hne hk0 hn hb')) (fun _ _ h => h) (fun _ _ _ _ hr => hr.keep k)
 ·rw [hsize]
  rcases hi with hi | rfl
  ·exact h.lt i hi
  ·exact h.blk_lt hj hb
 ·refine ⟨hos.trans h.fr.os, htape.trans h.fr.tape, hout.trans h.fr.output, by rw [hsize]; exact h.fr.size, fun i hi hx => (hold i ?_).trans (h.fr.old i hi hx)⟩
  rintro rfl
  rcases hm with hm | hm
  ·exact hx hm
  ·omega
theorem zUi {c : Cx} {T : Nat → Option TI} {G : Nat → Prop} {β : Nat → Value} {σ : St} {a : Act} {w : World} (hT : TOk c.P T)
  (hc : Conc c G β σ a w) {o : Oper} {t : Nat} {y : Operand} (ho : o.op = .load t y) {k sz i off e' : Nat} (e : opd T σ.env 0 y = .rp k sz i off) {rows : List (List S)} (hh : σ.hp k = some (.row e' sz rows)) (hφ : i < rows.length) {x : AV}
  (hl : zK9 T t ((rows.getD i []).drop off) = some x) {K : Act → World → Prop} {Q : Exit → Act → World → Prop}
  (hK' : ∀ v, AVal G w β x v → x.lt σ.nx = true → K (a.put o.dst v) w) : o.wp c.P a w K Q := by
 have hρ : ∀ ty x, AVal G w β (opd T σ.env ty x) (a.eval x) := zGC hc T
 have hy := hρ 0 y
 rw [e] at hy
 simp only [AVal] at hy
 obtain ⟨b, n, cp, hβ, hv⟩ := hy
 have ho' := hc.hp k _ hh
 obtain ⟨hlen, hs0, ho'⟩ := ho'
 rcases ho' with ⟨_, rfl⟩ | ⟨b', cap, cur, o1, o2, o3, o4, o5, o6, o7⟩
 ·simp at hφ
 rw [hβ] at o1
 cases o1
 have hrow : ∀ q s, (rows.getD i [])[q]? = some s → ∃ u, w.cell? ⟨b, i * sz + q, none⟩ = some u ∧ Rep G w s u := fun q s hq => by
  have hq' : rows.flatten[i * sz + q]? = some s := by
   have hg : rows.getD i [] = rows[i] := by simp [List.getElem?_eq_getElem hφ]
   rw [hg] at hq
   have hql : q < sz := by rw [← hlen rows[i] (List.getElem_mem hφ)]; exact (List.getElem?_eq_some_iff.1 hq).1
   have : ∀ (rs : List (List S)) (i : Nat) (hi : i < rs.length), (∀ r ∈ rs, r.length = sz) → ∀ q, q < sz → rs.flatten[i * sz + q]? = (rs[i])[q]? := by
    intro rs
    induction rs with
    | nil => intro i hi; simp at hi
    | cons r rs ih =>
     intro i hi hl q hq
     have hr : r.length = sz := hl r (by simp)
     rw [List.flatten_cons, List.getElem?_append]
     cases i with
     | zero => rw [if_pos (by omega)]; simp
     | succ i =>
      rw [if_neg (by rw [Nat.add_mul]; omega)]
      have := ih i (by simpa using hi) (fun r hr => hl r (by simp [hr])) q hq
      rw [show (i + 1) * sz + q - r.length = i * sz + q by rw [Nat.add_mul]; omega, this]
      simp
   rw [this rows i hφ hlen q hql, hq]
  obtain ⟨u, hu, hr⟩ := o7 _ s hq'
  exact ⟨u, by simp [World.cell?, o4, hu], hr⟩
 obtain ⟨u, hu, hr⟩ := zIF (β := β) hT hl (b := b) (off := i * sz + off) fun q s hq => by
  rw [List.getElem?_drop] at hq
  rw [Nat.add_assoc]; exact hrow (off + q) s hq
 rw [← hv] at hu
 exact zBb (v := u) (w' := w) (by unfold execOp; rw [ho]; simp [hu]) (hK' u hr (zMI hl))
theorem zUK {c : Cx} {T : Nat → Option TI} {G : Nat → Prop} {β : Nat → Value} {σ σ' : St} {a : Act} {w : World} (hT : TOk c.P T)
  (hc : Conc c G β σ a w) {own : Bool} {o : Oper} {φ : Option Prop} {x : AV} (h : zDk T own o σ = some (φ, x, σ')) (hφ : φ.getD True) {K : Act → World → Prop} {Q : Exit → Act → World → Prop}
  (hK' : ∀ G' β' w' v, Conc c G' β' σ' a w' → AVal G' w' β' x v → x.lt σ'.nx = true → K (a.put o.dst v) w') : o.wp c.P a w K Q := by
 have hK := hK' G
 have hρ : ∀ ty x, AVal G w β (opd T σ.env ty x) (a.eval x) := zGC hc T
 have hlt : ∀ ty x, (opd T σ.env ty x).lt σ.nx = true := zOA hc.envlt T
 have nilrow : ∀ {y : Operand} {e : Nat} {j : TI}, (execOp a.eval o).run c.P w = .ok (.value (a.eval y)) w → zC3 y = true → Nat.ble 1 j.size = true → x = .orow σ.nx → σ' = zBU σ (.row e j.size []) → o.wp c.P a w K Q := by
  intro y e j hr hn hs hx hσ
  subst hx; subst hσ
  have hy : a.eval y = .slice none 0 0 := by
   unfold zC3 at hn
   split at hn
   ·rfl
   ·cases hn
  obtain ⟨β', b1, b2, b3⟩ := hc.make (ob := .row e j.size []) (v := .slice none 0 0) ⟨fun r hr => (by cases hr), Nat.le_of_ble_eq_true hs, .inl ⟨rfl, rfl⟩⟩ rfl (fun _ _ _ b hb => by cases hb)
  refine zBb hr (hK β' w _ b3 ?_ (by simp [AV.lt, zBU]))
  simp only [AVal]
  rw [b2, hy]
  exact ⟨rfl, _, _, _, rfl⟩
 unfold zDk at h
 simp only [zDh] at h
 split at h
 case h_1 y ho =>
  split at h
  ·rename_i e j hn hej
   split at h
   ·rename_i hs
    cases h
    simp only [Bool.and_eq_true] at hn
    exact nilrow (y := y) (by simp [execOp, ho]) hn.2 hs rfl rfl
   ·cases h
  ·cases h
 case h_2 y ho =>
  split at h
  ·rename_i e j hn hej
   split at h
   ·rename_i hs
    cases h
    simp only [Bool.and_eq_true] at hn
    exact nilrow (y := y) (by simp [execOp, ho]) hn.2 hs rfl rfl
   ·cases h
  ·cases h
 case h_3 t y ho =>
  split at h
  ·rename_i h1 h2
   cases h
   have hv := zFE (hρ t y) rfl h1
   obtain ⟨β', b1, b2, b3⟩ := hc.fresh (a.eval y).cells t (ob := .box t (opd T σ.env t y).cellsA) (v := .pointer (some ⟨w.heap.size, 0, none⟩)) (by simp [blk]) (fun h3 =>
    ⟨_, _, _, rfl, zC2 _ _, zJD hc, zJC hc, hv.keep ((Ext.own hc.lt _).keep hc.lt), zKA hv h1, rfl⟩) (by simpa [Ob.lt] using h2)
   refine zBb (v := .pointer (some ⟨w.heap.size, 0, none⟩)) (by simp [execOp, ho, Instr.box, newVar, newRow]) (hK β' _ _ b3 ?_ (by simp [AV.lt, zBU]))
   simp only [AVal]
   exact ⟨_, b2, rfl⟩
  ·cases h
 case h_4 t ho =>
  split at h
  ·rename_i i hi
   cases h
   obtain ⟨d, info, z, b1, b2, b3, b4, b5, b6, b7, b8, b9, b10⟩ := hT t i hi
   have hz : AVals G w β (i.zero.map zAV) z.cells.toList := by
    have hzz : AVals G w β (i.zero.map zAV) (i.zero.map S.zval) := AVals.mk (by simp) fun m y v hy hv => by
     rw [List.getElem?_map] at hy hv
     cases hs : i.zero[m]? with
     | none => rw [hs] at hy; simp at hy
     | some s =>
      rw [hs] at hy hv; simp at hy hv; subst hy; subst hv
      exact zSI (List.all_eq_true.1 b10 s (List.mem_of_getElem? hs))
    subst b7
    cases hag : i.k.agg with
    | true => simpa [Value.cells] using hzz
    | false =>
     have h1 := b9 hag
     rw [← b8] at h1
     obtain ⟨s, hs⟩ := List.length_eq_one_iff.1 h1
     have hz1 : s.zval.oneCell' = true := by cases s <;> rfl
     rw [hs] at hzz ⊢
     simpa [cells_one hz1] using hzz
   have hall : (i.zero.map zAV).all AV.one = true := zUw _
   have hltz : AV.ltAll σ.nx (i.zero.map zAV) = true := zKY _
   obtain ⟨β', c1, c2, c3⟩ := hc.fresh z.cells t (ob := .box t (i.zero.map zAV)) (v := .pointer (some ⟨w.heap.size, 0, none⟩)) (by simp [blk]) (fun h3 =>
    ⟨_, _, _, rfl, zC2 _ _, zJD hc, zJC hc, hz.keep ((Ext.own hc.lt _).keep hc.lt), zKA hz hall, rfl⟩) (by simpa [Ob.lt] using hltz)
   refine zBb (v := .pointer (some ⟨w.heap.size, 0, none⟩)) (by simp [execOp, ho, Instr.alloc, newVar, newRow, zGJ w b3 b6]) (hK β' _ _ c3 ?_ (by simp [AV.lt, zBU]))
   simp only [AVal]
   exact ⟨_, c2, rfl⟩
  ·cases h
 case h_5 t n parts ho =>
  split at h
  ·rename_i e j hej
   split at h
   ·rename_i rows hp
    split at h
    ·rename_i h1 h2 h3 h4
     cases h
     obtain ⟨i, ht, hk, hj⟩ := zCF hej
     have h1 := Nat.eq_of_beq_eq_true h1
     have h3 := Nat.le_of_ble_eq_true h3
     have h4 := Nat.le_of_ble_eq_true h4
     have hlen : ∀ r ∈ rows, r.length = j.size := fun r hr => Nat.eq_of_beq_eq_true (List.all_eq_true.1 h2 r hr)
     obtain ⟨p1, p2, p3⟩ := zIA hρ hp
     have hus : ∀ v ∈ parts.toList.map (fun p => a.eval p.2), v.cells.size = j.size := fun v hv => by
      obtain ⟨q, hq, rfl⟩ := List.mem_map.1 hv
      obtain ⟨m, hm⟩ := List.getElem?_of_mem hq
      have hlt : m < rows.length := by rw [p2]; exact (List.getElem?_eq_some_iff.1 hm).1
      have := (p3 m rows[m] q (List.getElem?_eq_getElem hlt) hm).1
      rw [hlen _ (List.getElem_mem hlt)] at this
      simpa using this
     have hrun := run_buildSlice (w := w) hT (n := n) ht hk hj (parts.toList.map fun p => a.eval p.2) (parts.map fun (i, x) => (i, a.eval x)) (by rw [← p1]; simp) hus (by rw [List.length_map, ← p2, h1]) h3 h4
     have hreps : Reps G w rows.flatten ((parts.toList.map fun p => a.eval p.2).map fun v => v.cells.toList).flatten := by
      refine zGG (by simp [p2]) fun m r vs hr hvs => ?_
      simp only [List.getElem?_map] at hvs
      cases hpm : parts.toList[m]? with
      | none => rw [hpm] at hvs; simp at hvs
      | some q => rw [hpm] at hvs; simp at hvs; subst hvs; exact p3 m r q hr hpm
     obtain ⟨β', b1, b2, b3⟩ := hc.freshRow (((parts.toList.map fun p => a.eval p.2).map fun v => v.cells.toList).flatten.toArray) e j.size n rows hlen h3 (by omega)
      (by have := hreps.1; rw [zBe hlen, h1] at this; simpa using this) (fun i s hi => by
       obtain ⟨u, hu, hr⟩ := zIh hreps hi
       exact ⟨u, by simpa using hu, hr⟩)
     refine zBb (by unfold execOp; rw [ho]; simp only [Sem.run_bind]; rw [hrun]; rfl) (hK β' _ _ b3 ?_ (by simp [AV.lt, zBU]))
     simp only [AVal]
     exact ⟨by rw [b2, h1], _, _, _, rfl⟩
    ·cases h
   ·cases h
  ·cases h
 case h_6 t l c0 ho =>
  split at h
  ·rename_i e j k1 n k2 m hej hl hcp
   split at h
   ·rename_i hs
    cases h
    obtain ⟨i, ht, hk, hj⟩ := zCF hej
    have hsz := Nat.le_of_ble_eq_true hs
    obtain ⟨d', info', z', g1, g2, g3, g4, g5, g6, g7, g8, g9, g10⟩ := hT e j hj
    have hu := zCE hT ht hk
    have hzs := zIn g7 g8 g9
    simp only [Option.getD_some] at hφ
    obtain ⟨f1, f2, f3, f4⟩ := hφ
    have hl' := hρ 0 l; rw [hl] at hl'; simp only [AVal, Rep] at hl'
    have hc' := hρ 0 c0; rw [hcp] at hc'; simp only [AVal, Rep] at hc'
    have hz : Reps G w j.zero z'.cells.toList := by
     have hzz : Reps G w j.zero (j.zero.map S.zval) := ⟨by simp, fun m s v hs hv => by
      rw [List.getElem?_map, hs] at hv; simp at hv; subst hv
      exact S.zrep (List.all_eq_true.1 g10 s (List.mem_of_getElem? hs))⟩
     subst g7
     cases hag : j.k.agg with
     | true => simpa [Value.cells] using hzz
     | false =>
      have h1 := g9 hag
      rw [← g8] at h1
      obtain ⟨s, hs⟩ := List.length_eq_one_iff.1 h1
      have hz1 : s.zval.oneCell' = true := by cases s <;> rfl
      rw [hs] at hzz ⊢
      simpa [cells_one hz1] using hzz
    have hwrap : ∀ q : Int, 0 ≤ q → q ≤ 281474976710656 → IntKind.i64.wrap q = q := fun q h1 h2 => by
     have e : q % (2 ^ 64 : Int) = q := Int.emod_eq_of_lt h1 (by omega)
     simp only [IntKind.wrap, IntKind.bits, IntKind.signed, e]
     rw [if_neg (by simp; omega)]
    have hlen : ∀ r ∈ List.replicate n.toNat j.zero, r.length = j.size := fun r hr => by rw [(List.mem_replicate.1 hr).2, g8]
    have hcell : ∀ q, ((Array.range (m.toNat * j.size)).map fun x => z'.cells[x % z'.cells.size]!)[q]? = if q < m.toNat * j.size then z'.cells[q % j.size]? else none := fun q => by
     rw [Array.getElem?_map]
     by_cases hq : q < m.toNat * j.size
     ·rw [if_pos hq, Array.getElem?_range, if_pos hq]
      have h2 : q % j.size < z'.cells.size := by rw [hzs]; exact Nat.mod_lt _ (by omega)
      simp only [Option.map_some, hzs]
      rw [Array.getElem?_eq_getElem h2, getElem!_pos z'.cells _ h2]
     ·rw [if_neg hq, Array.getElem?_range, if_neg hq]; rfl
    obtain ⟨β', b1, b2, b3⟩ := hc.freshRow ((Array.range (m.toNat * j.size)).map fun x => z'.cells[x % z'.cells.size]!) e j.size m.toNat (List.replicate n.toNat j.zero) hlen hsz (by simp; omega) (by simp) (fun i s hi => by
     rw [zFH] at hi
     split at hi
     ·rename_i hlt
      rw [g8] at hlt hi
      obtain ⟨u, hu, hr⟩ := zIh hz hi
      refine ⟨u, ?_, hr⟩
      rw [hcell, if_pos (Nat.lt_of_lt_of_le hlt (Nat.mul_le_mul_right _ (by omega)))]
      simpa using hu
     ·cases hi)
    have hrun : (Instr.makeSlice t (a.eval l) (a.eval c0)).run c.P w = .ok (.slice (some ⟨w.heap.size, 0, none⟩) n.toNat m.toNat) (w.alloc (.cells ((Array.range (m.toNat * j.size)).map fun x => z'.cells[x % z'.cells.size]!) e)) := by
     have f3' : (j.bytes : Int) * m ≤ 281474976710656 := by rw [Int.mul_comm]; exact f3
     by_cases h0 : m.toNat * j.size = 0
     ·simp [Instr.makeSlice, zAf w hu, hl', hc', asInt, asIntOf, zEv w g3, g5, hwrap m (by omega) f4, hwrap n f1 (by omega), zAF w g3, g4, h0, newRow]
      rw [if_neg (by omega)]
      simp [zAF w g3, g4, h0, show Array.range 0 = #[] from rfl]
     ·simp [Instr.makeSlice, zAf w hu, hl', hc', asInt, asIntOf, zEv w g3, g5, hwrap m (by omega) f4, hwrap n f1 (by omega), zAF w g3, g4, h0, newRow, zGJ w g3 g6]
      intro hbad
      exfalso
      omega
    refine zBb (by unfold execOp; rw [ho]; simp only [Sem.run_bind]; rw [hrun]; rfl) (hK β' _ _ b3 ?_ (by simp [AV.lt, zBU]))
    simp only [AVal]
    exact ⟨by rw [b2]; simp, _, _, _, rfl⟩
   ·cases h
  ·cases h
 case h_7 t y ho =>
  split at h
  ·rename_i k off e
   have hy := hρ 0 y
   rw [e] at hy
   simp only [AVal] at hy
   obtain ⟨b, hβ, hv⟩ := hy
   split at h
   ·rename_i cells i hh hi
    obtain ⟨d, info, z, b1, b2, b3, b4, _⟩ := hT t i hi
    have ho' := hc.hp k _ hh
    obtain ⟨b', e', cur, o1, o2, o3, o4, o5, o6⟩ := ho'
    rw [hβ] at o1
    cases o1
    have hltc := (hc.hplt k _ hh).2
    simp only [Ob.lt] at hltc
    have hcell : ∀ q v, cur[q]? = some v → w.cell? ⟨b, q, none⟩ = some v := fun q v hq => by simp [World.cell?, o2, hq]
    split at h
    ·rename_i hag
     split at h
     ·rename_i hle
      cases h
      have hle := Nat.le_of_ble_eq_true hle
      have hl := o5.length
      simp only [Array.length_toList] at hl
      have hlc := run_loadCells_list (P := c.P) w ⟨b, off, none⟩ ((cur.toList.drop off).take i.size) fun q v hq => by
       rw [List.getElem?_take] at hq
       split at hq
       ·rw [List.getElem?_drop, Array.getElem?_toList] at hq
        rw [addr_add]; exact hcell _ _ hq
       ·cases hq
      have hlen : ((cur.toList.drop off).take i.size).length = i.size := by simp; omega
      rw [hlen] at hlc
      refine zBb (v := .agg ((cur.toList.drop off).take i.size).toArray) (w' := w) ?_ (hK β w _ hc ?_ ?_)
      ·unfold execOp; rw [ho]
       simp [hv, Instr.loadAt, Instr.sureAddr, loadVar, zDg w b1, b2, hag, zAF w b3, b4, hlc]
      ·simp only [AVal]
       exact ⟨_, rfl, (o5.drop off).take i.size⟩
      ·simp only [AV.lt]
       refine zC4 fun q y hq => ?_
       rw [List.getElem?_take] at hq
       split at hq
       ·rw [List.getElem?_drop] at hq; exact zBs hltc hq
       ·cases hq
     ·cases h
    ·rename_i hag
     split at h
     ·rename_i z hz
      cases h
      obtain ⟨u, hu, hr⟩ := o5.get hz
      rw [Array.getElem?_toList] at hu
      refine zBb (v := u) (w' := w) ?_ (hK β w _ hc hr (zBs hltc hz))
      unfold execOp; rw [ho]
      simp [hv, Instr.loadAt, Instr.sureAddr, loadVar, zDg w b1, b2, hag, hcell _ _ hu]
     ·cases h
   ·cases h
  ·cases h
 case h_8 t y z ho =>
  split at h
  ·rename_i k off i e hi
   have hy := hρ 0 y
   rw [e] at hy
   simp only [AVal] at hy
   obtain ⟨b, hβ, hv⟩ := hy
   split at h
   ·rename_i bt cells hh
    try dsimp only at h
    split at h
    ·rename_i q1 q2 q3 q4
     cases h
     have q1 := Nat.eq_of_beq_eq_true q1
     have q2 := Nat.le_of_ble_eq_true q2
     obtain ⟨d, info, zz, b1, b2, b3, b4, _⟩ := hT t i hi
     obtain ⟨b', e', cur, o1, o2, o3, o4, o5, o6, o7⟩ := hc.hp k _ hh
     rw [hβ] at o1
     cases o1
     have hz := zFE (hρ t z) rfl q3
     have hl := o5.length
     simp only [Array.length_toList] at hl
     have hzl := hz.length
     have hone := zKA hz q3
     have hst := run_storeCells_cells (P := c.P) b off (a.eval z).cells.toList 0 w
      (fun j hj => by
       have h9 : off + j < cur.size := by omega
       simp [World.cell?, o2, h9]) (fun j hj => by simp [World.frozen?, o2]) hone
     obtain ⟨cur', d1, d2, d3⟩ := zCH b (a.eval z).cells.toList (off + 0) w cur o2
     have hrest := zDf b (a.eval z).cells.toList (off + 0) w
     have hoff : off + 0 = off := rfl
     rw [hoff] at hst d1 d3 hrest
     have hsz2 : (a.eval z).cells.size = info.size := by rw [b4, ← q1, ← hzl]; simp
     have hwr := hc.write (w' := w.setCells b off (a.eval z).cells.toList) (ob' := .box bt (cells.take off ++ (opd T σ.env t z).cellsA ++ cells.drop (off + i.size))) hh (b := b) (by rw [hβ]; rfl) o3 o4 hrest.1 hrest.2.1 hrest.2.2
      (zCL _ _ _ _) (fun q hq => zCw _ _ _ _ _ hq) (fun hk => by
       refine ⟨b, e', cur', hβ, d1, o3, o4, ?_, ?_, o7⟩
       ·refine AVals.mk ?_ fun q x v hx hv' => ?_
        ·simp; omega
        ·rw [Array.getElem?_toList, d3] at hv'
         rw [List.getElem?_append, List.getElem?_append] at hx
         simp only [List.length_append, List.length_take] at hx
         have hm : min off cells.length = off := by omega
         rw [hm] at hx
         by_cases g1 : q < off
         ·rw [if_neg (by omega)] at hv'
          rw [if_pos (by omega), if_pos g1, List.getElem?_take, if_pos g1] at hx
          obtain ⟨u, h1, h2⟩ := o5.get hx
          rw [Array.getElem?_toList, hv'] at h1
          cases h1; exact h2.keep hk
         ·by_cases g2 : q < off + (opd T σ.env t z).cellsA.length
          ·rw [if_pos (by omega)] at hv'
           rw [if_pos g2, if_neg g1] at hx
           obtain ⟨u, h1, h2⟩ := hz.get hx
           rw [hv'] at h1
           cases h1; exact h2.keep hk
          ·rw [if_neg (by omega)] at hv'
           rw [if_neg g2, List.getElem?_drop] at hx
           obtain ⟨u, h1, h2⟩ := o5.get hx
           rw [show off + i.size + (q - (off + (opd T σ.env t z).cellsA.length)) = q by omega, Array.getElem?_toList, hv'] at h1
           cases h1; exact h2.keep hk
       ·intro u hu
        obtain ⟨m, hm⟩ := List.getElem?_of_mem hu
        rw [Array.getElem?_toList, d3] at hm
        split at hm
        ·exact hone u (List.mem_of_getElem? hm)
        ·exact o6 u (List.mem_of_getElem? (by rw [Array.getElem?_toList]; exact hm))) (by
       simp only [Ob.lt]
       have hlc := (hc.hplt k _ hh).2
       simp only [Ob.lt] at hlc
       refine zC4 fun q x hx => ?_
       rw [List.getElem?_append, List.getElem?_append] at hx
       split at hx
       ·split at hx
        ·rw [List.getElem?_take] at hx
         split at hx
         ·exact zBs hlc hx
         ·cases hx
        ·exact zBs q4 hx
       ·rw [List.getElem?_drop] at hx; exact zBs hlc hx)
     have hrun : (execOp a.eval o).run c.P w = .ok .skip (w.setCells b off (a.eval z).cells.toList) := by
      unfold execOp; rw [ho]
      simp [hv, Instr.storeAt, Instr.sureAddr, storeVar, zAF w b3, hsz2, hst]
     unfold Oper.wp
     rw [hrun]
     exact hK β _ undef hwr (by simp only [AVal]) rfl
    ·cases h
   ·cases h
  ·rename_i k sz j off i e hi
   split at h
   ·rename_i e0 sz' rows ss hh hss
    split at h
    ·rename_i q1 q2 q3
     cases h
     obtain rfl := Nat.eq_of_beq_eq_true q1
     have q2 := Nat.eq_of_beq_eq_true q2
     have q3 := Nat.le_of_ble_eq_true q3
     simp only [Option.getD_some] at hφ
     have hy := hρ 0 y
     rw [e] at hy
     simp only [AVal] at hy
     obtain ⟨b, n, cp, hβ, hv⟩ := hy
     obtain ⟨d, info, zz, b1, b2, b3, b4, _⟩ := hT t i hi
     have hz := zIr hss (hρ t z)
     obtain ⟨hlen, hs0, hob⟩ := hc.hp k _ hh
     rcases hob with ⟨_, rfl⟩ | ⟨b', cap, cur, o1, o2, o3, o4, o5, o6, o7⟩
     ·simp at hφ
     rw [hβ] at o1
     cases o1
     have hjs : j * sz + sz ≤ rows.length * sz := by rw [← Nat.succ_mul]; exact Nat.mul_le_mul_right _ hφ
     have hcs : rows.length * sz ≤ cur.size := by rw [o3]; exact Nat.mul_le_mul_right _ o2
     have hzl := hz.1
     have hst := run_storeCells_cells (P := c.P) b (j * sz + off) (a.eval z).cells.toList 0 w
      (fun q hq => by
       have h9 : j * sz + off + q < cur.size := by omega
       simp [World.cell?, o4, h9]) (fun q hq => by simp [World.frozen?, o4]) hz.one
     obtain ⟨cur', d1, d2, d3⟩ := zCH b (a.eval z).cells.toList (j * sz + off + 0) w cur o4
     have hrest := zDf b (a.eval z).cells.toList (j * sz + off + 0) w
     have hoff : j * sz + off + 0 = j * sz + off := rfl
     rw [hoff] at hst d1 d3 hrest
     have hsz2 : (a.eval z).cells.size = info.size := by rw [b4, ← q2, ← hzl]; simp
     have hg : rows.getD j [] = rows[j] := by simp [List.getElem?_eq_getElem hφ]
     have hrl : (rows.getD j []).length = sz := by rw [hg]; exact hlen _ (List.getElem_mem hφ)
     have hnl : ((rows.getD j []).take off ++ ss ++ (rows.getD j []).drop (off + i.size)).length = sz := by
      simp only [List.length_append, List.length_take, List.length_drop, hrl]; omega
     have hwr := hc.write (w' := w.setCells b (j * sz + off) (a.eval z).cells.toList) (ob' := .row e0 sz (rows.set j ((rows.getD j []).take off ++ ss ++ (rows.getD j []).drop (off + i.size)))) hh (b := b) (by rw [hβ]; rfl) o5 o6 hrest.1 hrest.2.1 hrest.2.2
      (zCL _ _ _ _) (fun q hq => zCw _ _ _ _ _ hq) (fun hk => by
       refine ⟨fun r hr => ?_, hs0, .inr ⟨b, cp, cur', by rw [hβ]; simp, by simpa using o2, by rw [d2, o3], d1, o5, o6, fun q s hq => ?_⟩⟩
       ·rcases List.mem_or_eq_of_mem_set hr with h1 | h1
        ·exact hlen r h1
        ·rw [h1]; exact hnl
       ·rw [d3]
        rw [zHu sz hlen hφ hnl] at hq
        split at hq
        ·rename_i hin
         rw [List.getElem?_append, List.getElem?_append] at hq
         simp only [List.length_append, List.length_take, hrl] at hq
         have hm : min off sz = off := by omega
         rw [hm] at hq
         by_cases g1 : q - j * sz < off
         ·rw [if_pos (by omega), if_pos g1, List.getElem?_take, if_pos g1] at hq
          rw [if_neg (by omega)]
          obtain ⟨u, hu, hr⟩ := o7 q s (by rw [zDX sz hlen hφ hin.1 hin.2, ← hg]; exact hq)
          exact ⟨u, hu, hr.keep hk⟩
         ·by_cases g2 : q - j * sz < off + ss.length
          ·rw [if_pos g2, if_neg g1] at hq
           rw [if_pos (by omega)]
           obtain ⟨u, hu, hr⟩ := zIh hz hq
           exact ⟨u, by rw [show q - (j * sz + off) = q - j * sz - off by omega]; exact hu, hr.keep hk⟩
          ·rw [if_neg g2, List.getElem?_drop] at hq
           rw [if_neg (by omega)]
           obtain ⟨u, hu, hr⟩ := o7 q s (by rw [zDX sz hlen hφ hin.1 hin.2, ← hg, ← hq]; congr 1; omega)
           exact ⟨u, hu, hr.keep hk⟩
        ·rename_i hin
         rw [if_neg (by omega)]
         obtain ⟨u, hu, hr⟩ := o7 q s hq
         exact ⟨u, hu, hr.keep hk⟩) rfl
     have hrun : (execOp a.eval o).run c.P w = .ok .skip (w.setCells b (j * sz + off) (a.eval z).cells.toList) := by
      unfold execOp; rw [ho]
      simp [hv, Instr.storeAt, Instr.sureAddr, storeVar, zAF w b3, hsz2, hst]
     unfold Oper.wp
     rw [hrun]
     exact hK β _ undef hwr (by simp only [AVal]) rfl
    ·cases h
   ·cases h
  ·cases h
 case h_9 t y i ho =>
  split at h
  ·rename_i e j k k1 n hej hy hi
   split at h
   ·rename_i e0 sz rows hh
    split at h
    ·rename_i hs
     cases h
     obtain rfl := Nat.eq_of_beq_eq_true hs
     obtain ⟨ti, ht, hk, hj⟩ := zCF hej
     obtain ⟨d', info', z', g1, g2, g3, g4, _⟩ := hT e j hj
     have hu := zCE hT ht hk
     simp only [Option.getD_some] at hφ
     have hv := hρ t y; rw [hy] at hv; simp only [AVal] at hv
     have hiv := hρ 0 i; rw [hi] at hiv; simp only [AVal, Rep] at hiv
     obtain ⟨_, _, hob⟩ := hc.hp k _ hh
     rcases hob with ⟨_, rfl⟩ | ⟨b, cap, cur, o1, _⟩
     ·simp at hφ; omega
     ·refine zBb (v := .pointer (some ⟨b, n.toNat * j.size, none⟩)) (w' := w) ?_ (hK β w _ hc ?_ ?_)
      ·unfold execOp; rw [ho]
       simp [hv.1, o1, hiv, Instr.indexAt, asIntOf, zAf w hu, hφ.1, hφ.2, zAF w g3, g4, addr_add]
      ·simp only [AVal]; exact ⟨b, _, _, o1, by simp⟩
      ·simp only [AV.lt, decide_eq_true_eq]; exact (hc.hplt k _ hh).1
    ·cases h
   ·cases h
  ·cases h
 case h_10 src dst y ho =>
  split at h
  ·rename_i e j k hej hd hy
   split at h
   ·rename_i e0 sz rows hjk hh
    split at h
    ·rename_i hs
     cases h
     obtain rfl := Nat.eq_of_beq_eq_true hs
     obtain ⟨ti, ht, hk, hj⟩ := zCF hej
     obtain ⟨d', info', z', g1, g2, g3, g4, _⟩ := hT e j hj
     rw [hjk] at g2
     cases d' <;> simp only [tkOf, reduceCtorEq, TK.int.injEq] at g2
     subst g2
     have hu := zCE hT ht hk
     obtain ⟨d2, hd2, hk2⟩ := zDw hT hd (by simp)
     cases d2 <;> simp only [tkOf, reduceCtorEq] at hk2
     simp only [Option.getD_some] at hφ
     generalize hl : rows.map zLC = l at *
     subst hφ
     have hv := hρ src y; rw [hy] at hv; simp only [AVal] at hv
     obtain ⟨hlen, hs0, hob⟩ := hc.hp k _ hh
     refine zBb (v := .string ⟨l.toArray⟩) (w' := w) ?_ (hK β w _ hc (by simp [AVal, Rep]) rfl)
     unfold execOp; rw [ho]
     rcases hob with ⟨o1, o2⟩ | ⟨b, cap, cur, o1, o2, o3, o4, o5, o6, o7⟩
     ·have : l = [] := by simpa using o2
      subst this
      simp [hv.1, o1, convert, zAf w hu, zAf w hd2, zAf w g1, Conv.bytesToString]
      rfl
     ·have hlb : (loadCells ⟨b, 0, none⟩ l.length).run c.P w = .ok (l.map fun x => Value.int .u8 (x.toNat : Int)).toArray w := by
       have := run_loadCells_list (P := c.P) w ⟨b, 0, none⟩ (l.map fun x => Value.int .u8 (x.toNat : Int)) fun q v hq => by
        rw [List.getElem?_map] at hq
        cases hlq : l[q]? with
        | none => rw [hlq] at hq; simp at hq
        | some x =>
         rw [hlq] at hq; simp at hq; subst hq
         obtain ⟨u, hu', hr⟩ := o7 q (.int .u8 (x.toNat : Int)) (by rw [zFd]; simp [hlq])
         simp only [Rep] at hr
         subst hr
         rw [addr_add]
         simp [World.cell?, o4, hu']
       simpa using this
      have hb := zIq c.P w l .empty
      simp only [hv.1, o1, List.length_map]
      simp only [convert, zAf w hu, zAf w hd2, zAf w g1, Sem.run_bind, Result.andThen_ok, Conv.bytesToString, hlb]
      rw [← Array.forIn_toList]
      erw [hb]
      simp
    ·cases h
   ·cases h
  ·rename_i e j e2 k hej hd hy
   split at h
   ·rename_i e0 sz rows hjk hh
    split at h
    ·rename_i hs
     cases h
     obtain rfl := Nat.eq_of_beq_eq_true hs
     obtain ⟨ti, ht, hk, hj⟩ := zCF hej
     obtain ⟨d', info', z', g1, g2, g3, g4, _⟩ := hT e j hj
     rw [hjk] at g2
     cases d' <;> simp only [tkOf, reduceCtorEq, TK.int.injEq] at g2
     subst g2
     have hu := zCE hT ht hk
     simp only [Option.getD_some] at hφ
     have hv := hρ src y; rw [hy] at hv; simp only [AVal] at hv
     obtain ⟨hlen, hs0, hob⟩ := hc.hp k _ hh
     rcases hob with ⟨o1, o2⟩ | ⟨b, cap, cur, o1, o2, o3, o4, o5, o6, o7⟩
     ·exact absurd o2 hφ
     ·obtain ⟨w', hw⟩ : ∃ w', w' = w.freeze ⟨b, cur.size, none⟩ 1 := ⟨_, rfl⟩
      have hbl : b < w.heap.size := (Array.getElem?_eq_some_iff.1 o4).1
      have hb' : w'.heap[b]? = some (.cells cur e0 (cur.size, cur.size + 1)) := by
       rw [hw]; unfold World.freeze; rw [if_neg (by decide)]
       simp only [Array.getElem?_modify, if_pos, o4]; simp
      have hoth : ∀ i, i ≠ b → w'.heap[i]? = w.heap[i]? := fun i hi => by
       rw [hw]; unfold World.freeze; rw [if_neg (by decide)]
       simp only [Array.getElem?_modify]; rw [if_neg (by omega)]
      have hsz' : w'.heap.size = w.heap.size := by rw [hw]; simp [World.freeze]
      have hk1 : Keep G (fun i => G i ∨ i = b) w w' := ⟨fun _ h => .inl h, fun i hi => hoth i (fun e => o5 (e ▸ hi))⟩
      refine zBb (v := a.eval y) (w' := w') ?_ (hK' _ β w' _ (hc.hand hh (b := b) (by rw [o1]; rfl) (by rw [hw]; simp [World.freeze]) (by rw [hw]; simp [World.freeze]) (by rw [hw]; simp [World.freeze]) hsz' hoth) ?_ rfl)
      ·unfold execOp; rw [ho]
       simp [hv.1, o1, convert, zAf w hu, zAf w g1, markStringish, World.shape?, o4, hw]
      ·simp only [AVal, Rep]
       refine .inr ⟨b, 0, cap, by rw [hv.1, o1], o2, zCb hlen (RepRow.mk fun i s hi => ⟨.inr rfl, ?_⟩)⟩
       obtain ⟨u, hu', hr⟩ := o7 i s hi
       exact ⟨u, by simp [World.cell?, hb', hu'], hr.keep hk1⟩
    ·cases h
   ·cases h
  ·cases h
 case h_11 t y hi ho =>
  split at h
  ·rename_i e j k k1 n hej hy hi'
   split at h
   ·rename_i e0 sz rows hh
    split at h
    ·rename_i hs
     cases h
     obtain rfl := Nat.eq_of_beq_eq_true hs
     obtain ⟨ti, ht, hk, hj⟩ := zCF hej
     obtain ⟨d', info', z', g1, g2, g3, g4, _⟩ := hT e j hj
     have hu := zCE hT ht hk
     simp only [Option.getD_some] at hφ
     obtain ⟨f1, f2⟩ := hφ
     have hv := hρ t y; rw [hy] at hv; simp only [AVal] at hv
     have hiv := hρ 0 hi; rw [hi'] at hiv; simp only [AVal, Rep] at hiv
     obtain ⟨hlen, hs0, hob⟩ := hc.hp k _ hh
     have hlen' : ∀ r ∈ rows.take n.toNat, r.length = j.size := fun r hr => hlen r (List.mem_of_mem_take hr)
     have hob' := hob
     rcases hob with ⟨o1, o2⟩ | ⟨b, cap, cur, o1, o2, o3, o4, o5, o6, o7⟩
     ·subst o2
      obtain rfl : n = 0 := by simp at f2; omega
      obtain ⟨β', b1, b2, b3⟩ := hc.turn (k := k) hh (ob' := .row e0 j.size ([].take (0 : Int).toNat)) (v' := .slice none 0 0) (w' := w)
       ⟨rfl, rfl, rfl, Nat.le_refl _, fun _ _ _ => rfl, ⟨hlen', hs0, .inl ⟨rfl, by simp⟩⟩, fun b hb => by cases hb⟩ rfl
      refine zBb (v := .slice none 0 0) (w' := w) ?_ (hK β' w _ b3 ?_ (by simp [AV.lt, zBU, zE1]))
      ·unfold execOp; rw [ho]
       have hbb := zDE (P := c.P) (w := w) (isSlice := true) (len := 0) (cap := 0) (vlo := none) (vhi := some (.int k1 0)) (.inl ⟨rfl, rfl⟩) (.inr ⟨k1, rfl⟩) (Int.le_refl 0) (Int.le_refl 0) (by simp)
       simp [hv.1, o1, hiv, Instr.sliceAt, Instr.slice, zAf w hu, hbb, zAF w g3, g4]
      ·simp only [AVal]
       have : (zE1 σ k).nx = σ.nx := rfl
       exact ⟨b2.symm, _, _, _, rfl⟩
     ·have hn : (rows.take n.toNat).length = n.toNat := by simp; omega
      obtain ⟨β', b1, b2, b3⟩ := hc.turn (k := k) hh (ob' := .row e0 j.size (rows.take n.toNat)) (v' := .slice (some ⟨b, 0, none⟩) n.toNat cap) (w' := w)
       ⟨rfl, rfl, rfl, Nat.le_refl _, fun _ _ _ => rfl, ⟨hlen', hs0, .inr ⟨b, cap, cur, by rw [hn], by rw [hn]; omega, o3, o4, o5, o6, fun q s hq => by
        refine o7 q s ?_
        have e3 : rows.flatten = (rows.take n.toNat).flatten ++ (rows.drop n.toNat).flatten := by rw [← List.flatten_append, List.take_append_drop]
        rw [e3, List.getElem?_append, if_pos (List.getElem?_eq_some_iff.1 hq).1]; exact hq⟩⟩, fun b' hb' => .inl (by rw [o1]; exact hb')⟩ rfl
      refine zBb (v := .slice (some ⟨b, 0, none⟩) n.toNat cap) (w' := w) ?_ (hK β' w _ b3 ?_ (by simp [AV.lt, zBU, zE1]))
      ·unfold execOp; rw [ho]
       have hbb := zDE (P := c.P) (w := w) (isSlice := true) (len := rows.length) (cap := cap) (vlo := none) (vhi := some (.int k1 n)) (.inl ⟨rfl, rfl⟩) (.inr ⟨k1, rfl⟩) (Int.le_refl 0) f1 (by omega)
       simp [hv.1, o1, hiv, Instr.sliceAt, Instr.slice, zAf w hu, hbb, zAF w g3, g4]
       intro _; rfl
      ·simp only [AVal]
       exact ⟨b2.symm, _, _, _, rfl⟩
    ·cases h
   ·cases h
  ·cases h
 case h_12 args ts ho =>
  split at h
  ·rename_i y t e e'
   have e1 : args = #[y] := Array.toList_inj.1 (by simpa using e)
   have e2 : ts = #[t] := Array.toList_inj.1 (by simpa using e')
   subst e1; subst e2
   split at h
   ·rename_i e3 k hk hy
    split at h
    ·rename_i e0 sz rows hh
     cases h
     have hu := zD1 hT hk
     have hv := hρ t y; rw [hy] at hv; simp only [AVal] at hv
     obtain ⟨_, _, hob⟩ := hc.hp k _ hh
     refine zBb (v := .int .i64 rows.length) (w' := w) (zES ho fun cs => ?_) (hK β w _ hc (by simp [AVal, Rep]) rfl)
     rcases hob with ⟨o1, rfl⟩ | ⟨b, cap, cur, o1, _⟩ <;>
      simp [builtin, Builtin.len_, zAf w hu, hv.1, o1, goInt]
    ·cases h
   ·cases h
  ·cases h
 case h_13 args ts ho =>
  split at h
  ·rename_i y z t tx e e'
   have e1 : args = #[y, z] := Array.toList_inj.1 (by simpa using e)
   have e2 : ts = #[t, tx] := Array.toList_inj.1 (by simpa using e')
   subst e1; subst e2
   unfold zHv at h
   split at h
   ·rename_i e j k? e0 sz rows sz' rows' hej hb hr
    split at h
    ·rename_i q1 q2 q3
     obtain rfl := Nat.eq_of_beq_eq_true q1
     obtain rfl := Nat.eq_of_beq_eq_true q2
     obtain ⟨i, ht, hk, hj⟩ := zCF hej
     have hreads := zFm hT hc hr (hρ tx z)
     split at h
     ·cases h
      simp only [Option.getD_some] at hφ
      unfold zI1 at hb
      split at hb
      ·rename_i sz2 hy
       cases hb
       have hv := hρ t y; rw [hy] at hv; simp only [AVal] at hv
       have ho0 : ObAt c G w β (a.eval y) (.row e j.size []) := ⟨fun r hr => (by cases hr), Nat.le_of_ble_eq_true q3, .inl ⟨hv, rfl⟩⟩
       obtain ⟨v', w', r1, r2⟩ := zL7 (ty := o.type) hT ht hk hj rfl ho0 hreads (by simpa using hφ.1) (by simpa using hφ.2) hc.fr.size hc.lt
       obtain ⟨a1, a2, a3, a4, a5, a6, a7⟩ := r2
       rw [hv] at a5 a7
       have hoth := hc.other (w' := w') none (fun _ _ _ _ _ h => by cases h) (fun b hb => by cases hb) a1 a2 a3 a4 (fun q hq _ => a5 q hq (by simp [blk]))
       obtain ⟨β', b1, b2, b3⟩ := hoth.make a6 rfl (fun k' o' hk' b hb e => by
        rcases a7 b hb with h7 | h7
        ·cases h7
        ·have := hc.blk_lt hk' e; omega)
       have hs : ∃ o n c, v' = .slice o n c := by
        obtain ⟨_, _, h⟩ := a6
        rcases h with ⟨h, _⟩ | ⟨_, _, _, h, _⟩ <;> exact ⟨_, _, _, h⟩
       refine zBb (zES ho fun cs => by simp [builtin]; rw [r1]; rfl) (hK β' w' v' b3 ?_ (by simp [AV.lt, zBU]))
       simp only [AVal]
       exact ⟨b2.symm, hs⟩
      ·split at hb <;> cases hb
      ·cases hb
     ·split at h
      ·rename_i k q4
       cases h
       obtain rfl := Nat.eq_of_beq_eq_true q4
       simp only [Option.getD_some] at hφ
       unfold zI1 at hb
       split at hb
       ·cases hb
       ·rename_i k' hy
        split at hb
        ·rename_i e3 sz3 rows3 hh
         cases hb
         have hv := hρ t y; rw [hy] at hv; simp only [AVal] at hv
         have ho0 := hc.hp _ _ hh
         obtain ⟨v', w', r1, r2⟩ := zL7 (ty := o.type) hT ht hk hj rfl ho0 hreads hφ.1 hφ.2 hc.fr.size hc.lt
         have a6 := r2.2.2.2.2.2.1
         obtain ⟨β', b1, b2, b3⟩ := hc.turn hh r2 rfl
         have hs : ∃ o n c, v' = .slice o n c := by
          obtain ⟨_, _, h⟩ := a6
          rcases h with ⟨h, _⟩ | ⟨_, _, _, h, _⟩ <;> exact ⟨_, _, _, h⟩
         refine zBb (zES ho fun cs => by simp [builtin, hv.1]; rw [r1]; rfl) (hK β' w' v' b3 ?_ (by simp [AV.lt, zBU, zE1]))
         simp only [AVal]
         exact ⟨b2.symm, hs⟩
        ·cases hb
       ·cases hb
      ·cases h
    ·cases h
   ·cases h
  ·cases h
 all_goals cases h
theorem zLP {n : Nat} : ∀ {xs ys : List AV}, AV.ltAll n xs = true → AV.ltAll n ys = true → AV.ltAll n (xs ++ ys) = true
 | [], _, _, h => h
 | x :: xs, _, h, k => by
  simp only [List.cons_append, AV.ltAll, Bool.and_eq_true] at h ⊢
  exact ⟨h.1, zLP h.2 k⟩
theorem zLF {x : AV} {n : Nat} (h : x.lt n = true) : AV.ltAll n x.cellsA = true := by
 have h1 : ∀ y : AV, y.lt n = true → AV.ltAll n [y.nrm] = true := fun y hy => by
  simp only [AV.ltAll, Bool.and_true]; exact AV.nrm_lt hy
 cases x <;> first | exact h1 _ h | skip
 simp only [AV.lt] at h
 exact h
theorem zEA {n : Nat} {l : List AV} (h : ∀ x ∈ l, x.lt n = true) : AV.ltAll n l = true := zC4 fun _ _ hq => h _ (List.mem_of_getElem? hq)
theorem zEB {n : Nat} {l : List AV} (h : AV.ltAll n l = true) : ∀ x ∈ l, x.lt n = true := fun x hx => by
 obtain ⟨i, hi⟩ := List.getElem?_of_mem hx
 exact zBs h hi
theorem zL1 {T : Nat → Option TI} {G : Nat → Prop} {w : World} {β : Nat → Value} {env : Nat → AV} {ρ : Operand → Value} (hρ : ∀ ty x, AVal G w β (opd T env ty x) (ρ x)) {e : Nat} : ∀ {parts : List (Nat × Operand)} {i : Nat} {rows : List (List AV)}, zGD T env e i parts = some rows →
  parts.map (fun p => (p.1, ρ p.2)) = ((parts.map fun p => ρ p.2).zipIdx i).map (fun p => (p.2, p.1)) ∧ rows.length = parts.length ∧
   ∀ (j : Nat) r p, rows[j]? = some r → parts[j]? = some p → RepsR (AQ G β w) r (ρ p.2).cells.toList
 | [], i, rows, h => by
  simp only [zGD, Option.some.injEq] at h; subst h
  exact ⟨rfl, rfl, fun j r p h => by simp at h⟩
 | (j, x) :: parts, i, rows, h => by
  simp only [zGD] at h
  split at h
  ·rename_i rs h1 h2 h3
   cases h
   obtain rfl := Nat.eq_of_beq_eq_true h1
   obtain ⟨a1, a2, a3⟩ := zL1 hρ h3
   refine ⟨by simp [a1], by simp [a2], fun k r p hr hp => ?_⟩
   cases k with
   | zero =>
    simp at hr hp; subst hr; subst hp
    have hav := zFE (hρ e x) rfl h2
    refine ⟨hav.length, fun q s v hs hv => ?_⟩
    obtain ⟨u, hu, hr⟩ := hav.get hs
    rw [hv] at hu; cases hu
    exact ⟨hr, zKA hav h2 v (List.mem_of_getElem? hv)⟩
   | succ k => exact a3 k r p (by simpa using hr) (by simpa using hp)
  ·cases h
theorem zIg {α : Type} {Q : α → Value → Prop} : ∀ {rows : List (List α)} {vss : List (List Value)}, rows.length = vss.length → (∀ (j : Nat) r vs, rows[j]? = some r → vss[j]? = some vs → RepsR Q r vs) → RepsR Q rows.flatten vss.flatten
 | [], [], _, _ => ⟨rfl, fun i s v h => by simp at h⟩
 | r :: rows, v :: vss, hl, h => by
  rw [List.flatten_cons, List.flatten_cons]
  exact (h 0 r v rfl rfl).append (zIg (by simpa using hl) fun j r vs h1 h2 => h (j + 1) r vs (by simpa using h1) (by simpa using h2))
 | [], _ :: _, hl, _ => by simp at hl
 | _ :: _, [], hl, _ => by simp at hl
theorem zKN {c : Cx} {T : Nat → Option TI} {G : Nat → Prop} {β : Nat → Value} {σ : St} {a : Act} {w : World} (hT : TOk c.P T) (hc : Conc c G β σ a w) {tx sz : Nat} {y : AV} {rows : List (List AV)} (h : zJv T σ tx y = some (sz, rows))
  {v : Value} (hv : AVal G w β y v) (hy : y.lt σ.nx = true) : zNI w c.P (AQ G β w) tx sz rows v ∧ AV.ltAll σ.nx rows.flatten = true := by
 have hs : ∀ rs : List (List S), AV.ltAll σ.nx (rs.map (·.map AV.s)).flatten = true := fun rs => zEA fun x hx => by
  simp only [List.mem_flatten, List.mem_map] at hx
  obtain ⟨l, ⟨r, _, rfl⟩, hx⟩ := hx
  obtain ⟨s, _, rfl⟩ := List.mem_map.1 hx
  rfl
 unfold zJv at h
 split at h
 ·rename_i e hk
  cases h
  exact ⟨by simpa using (zFm (rows := []) hT hc (by simp only [rowsOf, hk]) hv).any (β := β), rfl⟩
 ·rename_i e rs hk
  cases h
  exact ⟨(zFm hT hc (by simp only [rowsOf, hk]) hv).any, hs _⟩
 ·rename_i e k hk
  split at h
  ·rename_i e0 sz0 rs hh
   cases h
   exact ⟨(zFm hT hc (by simp only [rowsOf, hk, hh]) hv).any, hs _⟩
  ·rename_i e0 sz0 rs hh
   cases h
   have ho := hc.hp k _ hh
   simp only [AVal] at hv
   rw [← hv.1] at ho
   exact ⟨zIE (c := c) (G := G) (fun _ _ h => h.2) (zD1 hT hk) ho, by simpa [Ob.lt] using (hc.hplt k _ hh).2⟩
  ·cases h
 ·cases h
theorem zUD {c : Cx} {T : Nat → Option TI} {G : Nat → Prop} {β : Nat → Value} {σ σ' : St} {a : Act} {w : World} (hT : TOk c.P T)
  (hc : Conc c G β σ a w) {o : Oper} {φ : Option Prop} {x : AV} (h : zCS T o σ = some (φ, x, σ')) (hφ : φ.getD True) {K : Act → World → Prop} {Q : Exit → Act → World → Prop}
  (hK : ∀ β' w' v, Conc c G β' σ' a w' → AVal G w' β' x v → x.lt σ'.nx = true → K (a.put o.dst v) w') : o.wp c.P a w K Q := by
 have hρ : ∀ ty x, AVal G w β (opd T σ.env ty x) (a.eval x) := zGC hc T
 have hlt : ∀ ty x, (opd T σ.env ty x).lt σ.nx = true := zOA hc.envlt T
 unfold zCS at h
 split at h
 case h_1 t n parts ho =>
  split at h
  ·rename_i e j hej
   split at h
   ·rename_i rows hrows
    split at h
    ·rename_i q1 q2 q3 q4
     cases h
     have q1 := Nat.eq_of_beq_eq_true q1
     have q3 := Nat.le_of_ble_eq_true q3
     have q4 := Nat.le_of_ble_eq_true q4
     have q2 : ∀ r ∈ rows, r.length = j.size := fun r hr => Nat.eq_of_beq_eq_true (List.all_eq_true.1 q2 r hr)
     obtain ⟨i, ht, hk, hj⟩ := zCF hej
     obtain ⟨p1, p2, p3⟩ := zL1 hρ hrows
     have hcell : ∀ (q : Nat) r v, rows[q]? = some r → (parts.toList.map fun p => a.eval p.2)[q]? = some v → RepsR (AQ G β w) r v.cells.toList := fun q r v h1 h2 => by
      rw [List.getElem?_map] at h2
      obtain ⟨p, hp, rfl⟩ := Option.map_eq_some_iff.1 h2
      exact p3 q r p h1 hp
     have hus : ∀ v ∈ (parts.toList.map fun p => a.eval p.2), v.cells.size = j.size := fun v hv => by
      obtain ⟨q, hq⟩ := List.getElem?_of_mem hv
      have hql : q < rows.length := by rw [p2]; simpa using (List.getElem?_eq_some_iff.1 hq).1
      have := (hcell q rows[q] v (List.getElem?_eq_getElem hql) hq).1
      rw [q2 _ (List.getElem_mem hql)] at this
      simpa using this
     have hrun := run_buildSlice (P := c.P) (w := w) hT ht hk hj (parts.toList.map fun p => a.eval p.2) (parts.map fun p => (p.1, a.eval p.2)) (by simpa using p1) hus (by rw [List.length_map, ← p2]; exact q1) q3 q4
     have hfl : RepsR (AQ G β w) rows.flatten ((parts.toList.map fun p => a.eval p.2).map fun v => v.cells.toList).flatten :=
      zIg (by rw [List.length_map, List.length_map]; exact p2) fun q r vs h1 h2 => by
       rw [List.getElem?_map] at h2
       obtain ⟨v, hv, rfl⟩ := Option.map_eq_some_iff.1 h2
       exact hcell q r v h1 hv
     have hltr : AV.ltAll σ.nx rows.flatten = true := zEA fun y hy => by
      have : ∀ (ps : List (Nat × Operand)) (i : Nat) (rs : List (List AV)), zGD T σ.env e i ps = some rs → ∀ y ∈ rs.flatten, y.lt σ.nx = true := by
       intro ps
       induction ps with
       | nil => intro i rs h y hy; simp only [zGD, Option.some.injEq] at h; subst h; simp at hy
       | cons p ps ih =>
        obtain ⟨j, x⟩ := p
        intro i rs h y hy
        simp only [zGD] at h
        split at h
        ·rename_i rs' _ _ h3
         cases h
         rw [List.flatten_cons, List.mem_append] at hy
         rcases hy with hy | hy
         ·exact zEB (zLF (hlt e x)) y hy
         ·exact ih (i + 1) rs' h3 y hy
        ·cases h
      exact this _ _ _ hrows y hy
     obtain ⟨β', b1, b2, b3⟩ := hc.fresh (((parts.toList.map fun p => a.eval p.2).map fun v => v.cells.toList).flatten.toArray) e (ob := .arow e j.size rows) (v := .slice (some ⟨w.heap.size, 0, none⟩) n n) (fun b hb => by cases hb; rfl)
      (fun hc2 => ⟨q2, q3, .inr ⟨w.heap.size, n, _, by rw [q1], by omega, by rw [List.size_toArray, hfl.1, zBe q2, q1], zC2 _ _, zJD hc, zJC hc, fun i s hi => by
       have hil : i < (((parts.toList.map fun p => a.eval p.2).map fun v => v.cells.toList).flatten).length := by rw [hfl.1]; exact (List.getElem?_eq_some_iff.1 hi).1
       have := hfl.2 i s _ hi (List.getElem?_eq_getElem hil)
       exact ⟨_, by rw [List.getElem?_toArray]; exact List.getElem?_eq_getElem hil, this.1.keep ((Ext.own hc.lt _).keep hc.lt), this.2⟩⟩⟩) (by simpa [Ob.lt] using hltr)
     refine zBb (v := .slice (some ⟨w.heap.size, 0, none⟩) n n) (w' := w.alloc (.cells (((parts.toList.map fun p => a.eval p.2).map fun v => v.cells.toList).flatten.toArray) e)) ?_ (hK β' _ _ b3 ?_ (by simp [AV.lt, zBU]))
     ·unfold execOp; rw [ho]; simp only [Sem.run_bind, hrun, Result.andThen_ok]; rfl
     ·simp only [AVal]; exact ⟨b2.symm, _, _, _, rfl⟩
    ·cases h
   ·cases h
  ·cases h
 case h_2 t y z ho =>
  split at h
  ·rename_i k sz j off i e hi
   split at h
   ·rename_i e0 sz' rows hh
    split at h
    ·rename_i q1 q2 q3 q4
     cases h
     obtain rfl := Nat.eq_of_beq_eq_true q1
     have q2 := Nat.eq_of_beq_eq_true q2
     have q3 := Nat.le_of_ble_eq_true q3
     simp only [Option.getD_some] at hφ
     have hy := hρ 0 y
     rw [e] at hy
     simp only [AVal] at hy
     obtain ⟨b, n, cp, hβ, hv⟩ := hy
     obtain ⟨d, info, zz, b1, b2, b3, b4, _⟩ := hT t i hi
     have hz := zFE (hρ t z) rfl q4
     generalize hss : (opd T σ.env t z).cellsA = ss at hz q2 q4
     have hssl : AV.ltAll σ.nx ss = true := by rw [← hss]; exact zLF (hlt t z)
     obtain ⟨hlen, hs0, hob⟩ := hc.hp k _ hh
     rcases hob with ⟨_, rfl⟩ | ⟨b', cap, cur, o1, o2, o3, o4, o5, o6, o7⟩
     ·simp at hφ
     rw [hβ] at o1
     cases o1
     have hjs : j * sz + sz ≤ rows.length * sz := by rw [← Nat.succ_mul]; exact Nat.mul_le_mul_right _ hφ
     have hcs : rows.length * sz ≤ cur.size := by rw [o3]; exact Nat.mul_le_mul_right _ o2
     have hzl := hz.length
     have hzo := zKA hz q4
     have hst := run_storeCells_cells (P := c.P) b (j * sz + off) (a.eval z).cells.toList 0 w
      (fun q hq => by
       have h9 : j * sz + off + q < cur.size := by omega
       simp [World.cell?, o4, h9]) (fun q hq => by simp [World.frozen?, o4]) hzo
     obtain ⟨cur', d1, d2, d3⟩ := zCH b (a.eval z).cells.toList (j * sz + off + 0) w cur o4
     have hrest := zDf b (a.eval z).cells.toList (j * sz + off + 0) w
     have hoff : j * sz + off + 0 = j * sz + off := rfl
     rw [hoff] at hst d1 d3 hrest
     have hsz2 : (a.eval z).cells.size = info.size := by rw [b4, ← q2, ← hzl]; simp
     have hg : rows.getD j [] = rows[j] := by simp [List.getElem?_eq_getElem hφ]
     have hrl : (rows.getD j []).length = sz := by rw [hg]; exact hlen _ (List.getElem_mem hφ)
     have hnl : ((rows.getD j []).take off ++ ss ++ (rows.getD j []).drop (off + i.size)).length = sz := by
      simp only [List.length_append, List.length_take, List.length_drop, hrl]; omega
     have hrowlt : AV.ltAll σ.nx rows.flatten = true := by simpa [Ob.lt] using (hc.hplt k _ hh).2
     have hgd : ∀ y ∈ rows.getD j [], y.lt σ.nx = true := fun y hy => zEB hrowlt y (by
      rw [hg] at hy; exact List.mem_flatten.2 ⟨_, List.getElem_mem hφ, hy⟩)
     have hwr := hc.write (w' := w.setCells b (j * sz + off) (a.eval z).cells.toList) (ob' := .arow e0 sz (rows.set j ((rows.getD j []).take off ++ ss ++ (rows.getD j []).drop (off + i.size)))) hh (b := b) (by rw [hβ]; rfl) o5 o6 hrest.1 hrest.2.1 hrest.2.2
      (zCL _ _ _ _) (fun q hq => zCw _ _ _ _ _ hq) (fun hk => by
       refine ⟨fun r hr => ?_, hs0, .inr ⟨b, cp, cur', by rw [hβ]; simp, by simpa using o2, by rw [d2, o3], d1, o5, o6, fun q s hq => ?_⟩⟩
       ·rcases List.mem_or_eq_of_mem_set hr with h1 | h1
        ·exact hlen r h1
        ·rw [h1]; exact hnl
       ·rw [d3]
        rw [zHu sz hlen hφ hnl] at hq
        split at hq
        ·rename_i hin
         rw [List.getElem?_append, List.getElem?_append] at hq
         simp only [List.length_append, List.length_take, hrl] at hq
         have hm : min off sz = off := by omega
         rw [hm] at hq
         by_cases g1 : q - j * sz < off
         ·rw [if_pos (by omega), if_pos g1, List.getElem?_take, if_pos g1] at hq
          rw [if_neg (by omega)]
          obtain ⟨u, hu, hr, h1⟩ := o7 q s (by rw [zDX sz hlen hφ hin.1 hin.2, ← hg]; exact hq)
          exact ⟨u, hu, hr.keep hk, h1⟩
         ·by_cases g2 : q - j * sz < off + ss.length
          ·rw [if_pos g2, if_neg g1] at hq
           rw [if_pos (by omega)]
           obtain ⟨u, hu, hr⟩ := hz.get hq
           exact ⟨u, by rw [show q - (j * sz + off) = q - j * sz - off by omega]; exact hu, hr.keep hk, hzo u (List.mem_of_getElem? hu)⟩
          ·rw [if_neg g2, List.getElem?_drop] at hq
           rw [if_neg (by omega)]
           obtain ⟨u, hu, hr, h1⟩ := o7 q s (by rw [zDX sz hlen hφ hin.1 hin.2, ← hg, ← hq]; congr 1; omega)
           exact ⟨u, hu, hr.keep hk, h1⟩
        ·rename_i hin
         rw [if_neg (by omega)]
         obtain ⟨u, hu, hr, h1⟩ := o7 q s hq
         exact ⟨u, hu, hr.keep hk, h1⟩) (by
       simp only [Ob.lt]
       refine zEA fun y hy => ?_
       obtain ⟨r, hr, hy⟩ := List.mem_flatten.1 hy
       rcases List.mem_or_eq_of_mem_set hr with h1 | h1
       ·exact zEB hrowlt y (List.mem_flatten.2 ⟨r, h1, hy⟩)
       ·rw [h1] at hy
        simp only [List.mem_append] at hy
        rcases hy with (hy | hy) | hy
        ·exact hgd y (List.mem_of_mem_take hy)
        ·exact zEB hssl y hy
        ·exact hgd y (List.mem_of_mem_drop hy))
     have hrun : (execOp a.eval o).run c.P w = .ok .skip (w.setCells b (j * sz + off) (a.eval z).cells.toList) := by
      unfold execOp; rw [ho]
      simp [hv, Instr.storeAt, Instr.sureAddr, storeVar, zAF w b3, hsz2, hst]
     unfold Oper.wp
     rw [hrun]
     refine hK β _ undef ?_ (by simp only [AVal]) rfl
     subst hss
     exact hwr
    ·cases h
   ·cases h
  ·cases h
 case h_3 t y i ho =>
  split at h
  ·rename_i e j k k1 n hej hy hi
   split at h
   ·rename_i e0 sz rows hh
    split at h
    ·rename_i hs
     cases h
     obtain rfl := Nat.eq_of_beq_eq_true hs
     obtain ⟨ti, ht, hk, hj⟩ := zCF hej
     obtain ⟨d', info', z', g1, g2, g3, g4, _⟩ := hT e j hj
     have hu := zCE hT ht hk
     simp only [Option.getD_some] at hφ
     obtain ⟨f1, f2⟩ := hφ
     have hv := hρ t y; rw [hy] at hv; simp only [AVal] at hv
     have hiv := hρ 0 i; rw [hi] at hiv; simp only [AVal, Rep] at hiv
     obtain ⟨hlen, hs0, hob⟩ := hc.hp k _ hh
     rcases hob with ⟨o1, rfl⟩ | ⟨b, cap, cur, o1, o2, o3, o4, o5, o6, o7⟩
     ·simp at f2; omega
     ·refine zBb (v := .pointer (some ⟨b, n.toNat * j.size + 0, none⟩)) (w' := w) ?_ (hK β w _ hc ?_ ?_)
      ·unfold execOp; rw [ho]
       have hnn : n.toNat < rows.length := by omega
       simp [hv.1, o1, hiv, Instr.indexAt, asIntOf, zAf w hu, f1, f2, zAF w g3, g4, addr_add]
      ·simp only [AVal]
       exact ⟨b, _, _, o1, rfl⟩
      ·have := (hc.hplt k _ hh).1
       simpa [AV.lt] using this
    ·cases h
   ·cases h
  ·cases h
 case h_4 t y hi ho =>
  split at h
  ·rename_i e j k k1 n hej hy hi'
   split at h
   ·rename_i e0 sz rows hh
    split at h
    ·rename_i hs
     cases h
     obtain rfl := Nat.eq_of_beq_eq_true hs
     obtain ⟨ti, ht, hk, hj⟩ := zCF hej
     obtain ⟨d', info', z', g1, g2, g3, g4, _⟩ := hT e j hj
     have hu := zCE hT ht hk
     simp only [Option.getD_some] at hφ
     obtain ⟨f1, f2⟩ := hφ
     have hv := hρ t y; rw [hy] at hv; simp only [AVal] at hv
     have hiv := hρ 0 hi; rw [hi'] at hiv; simp only [AVal, Rep] at hiv
     have hrowlt : AV.ltAll σ.nx rows.flatten = true := by simpa [Ob.lt] using (hc.hplt k _ hh).2
     have htl : (Ob.arow e0 j.size (rows.take n.toNat)).lt σ.nx = true := by
      simp only [Ob.lt]
      refine zEA fun y hy => ?_
      obtain ⟨r, hr, hy⟩ := List.mem_flatten.1 hy
      exact zEB hrowlt y (List.mem_flatten.2 ⟨r, List.mem_of_mem_take hr, hy⟩)
     obtain ⟨hlen, hs0, hob⟩ := hc.hp k _ hh
     have hlen' : ∀ r ∈ rows.take n.toNat, r.length = j.size := fun r hr => hlen r (List.mem_of_mem_take hr)
     rcases hob with ⟨o1, o2⟩ | ⟨b, cap, cur, o1, o2, o3, o4, o5, o6, o7⟩
     ·subst o2
      obtain rfl : n = 0 := by simp at f2; omega
      obtain ⟨β', b1, b2, b3⟩ := hc.turn (k := k) hh (ob' := .arow e0 j.size ([].take (0 : Int).toNat)) (v' := .slice none 0 0) (w' := w)
       ⟨rfl, rfl, rfl, Nat.le_refl _, fun _ _ _ => rfl, ⟨hlen', hs0, .inl ⟨rfl, by simp⟩⟩, fun b hb => by cases hb⟩ htl
      refine zBb (v := .slice none 0 0) (w' := w) ?_ (hK β' w _ b3 ?_ (by simp [AV.lt, zBU, zE1]))
      ·unfold execOp; rw [ho]
       have hbb := zDE (P := c.P) (w := w) (isSlice := true) (len := 0) (cap := 0) (vlo := none) (vhi := some (.int k1 0)) (.inl ⟨rfl, rfl⟩) (.inr ⟨k1, rfl⟩) (Int.le_refl 0) (Int.le_refl 0) (by simp)
       simp [hv.1, o1, hiv, Instr.sliceAt, Instr.slice, zAf w hu, hbb, zAF w g3, g4]
      ·simp only [AVal]
       exact ⟨b2.symm, _, _, _, rfl⟩
     ·have hn : (rows.take n.toNat).length = n.toNat := by simp; omega
      obtain ⟨β', b1, b2, b3⟩ := hc.turn (k := k) hh (ob' := .arow e0 j.size (rows.take n.toNat)) (v' := .slice (some ⟨b, 0, none⟩) n.toNat cap) (w' := w)
       ⟨rfl, rfl, rfl, Nat.le_refl _, fun _ _ _ => rfl, ⟨hlen', hs0, .inr ⟨b, cap, cur, by rw [hn], by rw [hn]; omega, o3, o4, o5, o6, fun q s hq => by
        refine o7 q s ?_
        have e3 : rows.flatten = (rows.take n.toNat).flatten ++ (rows.drop n.toNat).flatten := by rw [← List.flatten_append, List.take_append_drop]
        rw [e3, List.getElem?_append, if_pos (List.getElem?_eq_some_iff.1 hq).1]; exact hq⟩⟩, fun b' hb' => .inl (by rw [o1]; exact hb')⟩ htl
      refine zBb (v := .slice (some ⟨b, 0, none⟩) n.toNat cap) (w' := w) ?_ (hK β' w _ b3 ?_ (by simp [AV.lt, zBU, zE1]))
      ·unfold execOp; rw [ho]
       have hbb := zDE (P := c.P) (w := w) (isSlice := true) (len := rows.length) (cap := cap) (vlo := none) (vhi := some (.int k1 n)) (.inl ⟨rfl, rfl⟩) (.inr ⟨k1, rfl⟩) (Int.le_refl 0) f1 (by omega)
       simp [hv.1, o1, hiv, Instr.sliceAt, Instr.slice, zAf w hu, hbb, zAF w g3, g4]
       intro _; rfl
      ·simp only [AVal]
       exact ⟨b2.symm, _, _, _, rfl⟩
    ·cases h
   ·cases h
  ·cases h
 case h_5 args ts ho =>
  split at h
  ·rename_i y t e e'
   have e1 : args = #[y] := Array.toList_inj.1 (by simpa using e)
   have e2 : ts = #[t] := Array.toList_inj.1 (by simpa using e')
   subst e1; subst e2
   split at h
   ·rename_i e3 k hk hy
    split at h
    ·rename_i e0 sz rows hh
     cases h
     have hu := zD1 hT hk
     have hv := hρ t y; rw [hy] at hv; simp only [AVal] at hv
     obtain ⟨_, _, hob⟩ := hc.hp k _ hh
     refine zBb (v := .int .i64 rows.length) (w' := w) (zES ho fun cs => ?_) (hK β w _ hc (by simp [AVal, Rep]) rfl)
     rcases hob with ⟨o1, rfl⟩ | ⟨b, cap, cur, o1, _⟩ <;>
      simp [builtin, Builtin.len_, zAf w hu, hv.1, o1, goInt]
    ·cases h
   ·cases h
  ·cases h
 case h_6 args ts ho =>
  split at h
  ·rename_i y z t tx e e'
   have e1 : args = #[y, z] := Array.toList_inj.1 (by simpa using e)
   have e2 : ts = #[t, tx] := Array.toList_inj.1 (by simpa using e')
   subst e1; subst e2
   split at h
   ·rename_i e j k e0 sz rows sz' rows' hej hb hr
    split at h
    ·rename_i q1 q2 q3
     cases h
     obtain rfl := Nat.eq_of_beq_eq_true q1
     obtain rfl := Nat.eq_of_beq_eq_true q2
     obtain rfl := Nat.eq_of_beq_eq_true q3
     obtain ⟨i, ht, hk, hj⟩ := zCF hej
     obtain ⟨hreads, hl2⟩ := zKN hT hc hr (hρ tx z) (hlt tx z)
     simp only [Option.getD_some] at hφ
     unfold zJo at hb
     split at hb
     ·rename_i k' hy
      split at hb
      ·rename_i e3 sz3 rows3 hh
       cases hb
       have hv := hρ t y; rw [hy] at hv; simp only [AVal] at hv
       have ho0 := hc.hp _ _ hh
       have hl1 : AV.ltAll σ.nx rows.flatten = true := by simpa [Ob.lt] using (hc.hplt _ _ hh).2
       obtain ⟨v', w', r1, r2⟩ := zPS (ty := o.type) hT ht hk hj rfl ho0 hreads hφ.1 hφ.2 hc.fr.size hc.lt
       have a6 := r2.2.2.2.2.2.1
       obtain ⟨β', b1, b2, b3⟩ := hc.turn hh r2 (by simp only [Ob.lt, List.flatten_append]; exact zLP hl1 hl2)
       have hs : ∃ o n c, v' = .slice o n c := by
        obtain ⟨_, _, h⟩ := a6
        rcases h with ⟨h, _⟩ | ⟨_, _, _, h, _⟩ <;> exact ⟨_, _, _, h⟩
       refine zBb (zES ho fun cs => by simp [builtin, hv.1]; rw [r1]; rfl) (hK β' w' v' b3 ?_ (by simp [AV.lt, zBU, zE1]))
       simp only [AVal]
       exact ⟨b2.symm, hs⟩
      ·cases hb
     ·cases hb
    ·cases h
   ·cases h
  ·cases h
 case h_7 args ts ho =>
  split at h
  ·rename_i y z t tx e e'
   have e1 : args = #[y, z] := Array.toList_inj.1 (by simpa using e)
   have e2 : ts = #[t, tx] := Array.toList_inj.1 (by simpa using e')
   subst e1; subst e2
   split at h
   ·rename_i e j k e0 sz rows sz' rows' hej hb hr
    split at h
    ·rename_i q1 q2
     cases h
     obtain rfl := Nat.eq_of_beq_eq_true q1
     obtain rfl := Nat.eq_of_beq_eq_true q2
     obtain ⟨i, ht, hk, hj⟩ := zCF hej
     obtain ⟨d', info', z', g1, g2, g3, g4, _⟩ := hT e j hj
     have hu := zCE hT ht hk
     obtain ⟨⟨⟨news, hsrc, hreps⟩, hlen'⟩, hl2⟩ := zKN hT hc hr (hρ tx z) (hlt tx z)
     simp only [Option.getD_some] at hφ
     unfold zJo at hb
     split at hb
     ·rename_i k' hy
      split at hb
      ·rename_i e3 sz3 rows3 hh
       cases hb
       have hv := hρ t y; rw [hy] at hv; simp only [AVal] at hv
       have ho0 := hc.hp _ _ hh
       obtain ⟨hlen, hs0, hob⟩ := ho0
       have hnl := hsrc.newsLen
       have hone := hreps.one (fun _ _ h => h.2)
       have hcl := hsrc.cells
       rw [← g4] at hcl
       rcases hob with ⟨o1, o2⟩ | ⟨b, cap, cur, o1, o2, o3, o4, o5, o6, o7⟩
       ·subst o2
        obtain rfl : rows' = [] := List.length_eq_zero_iff.1 (by simpa using hφ)
        refine zBb (v := .int .i64 0) (w' := w) (zES ho fun cs => ?_) (hK β w _ ?_ (by simp [AVal, Rep]) rfl)
        ·simp only [List.length_nil] at hcl
         simp [builtin, Builtin.copy_, zAf w hu, hv.1, o1, hsrc.len, zAF w g3, hcl, goInt]
        ·have : zFx σ k (.arow e0 j.size []) = { σ with hp := σ.hp } := by
          unfold zFx
          congr 1
          funext q
          cases hq : Nat.beq q k with
          | true => obtain rfl := Nat.eq_of_beq_eq_true hq; simp [hh]
          | false => rfl
         rw [this]; exact hc
       ·have hst := run_storeCells_cells (P := c.P) b 0 news 0 w
         (fun q hq => by
          have h8 : rows.length * j.size ≤ cap * j.size := Nat.mul_le_mul_right _ o2
          have h9 : 0 + q < cur.size := by rw [hnl, hφ] at hq; omega
          simp [World.cell?, o4, Nat.zero_add] at h9 ⊢; exact h9) (fun q hq => by simp [World.frozen?, o4]) hone
        simp only [Nat.add_zero] at hst
        obtain ⟨cur', d1, d2, d3⟩ := zCH b news 0 w cur o4
        have hrest := zDf b news 0 w
        have hwr := hc.write (w' := w.setCells b 0 news) (ob' := .arow e0 j.size rows') hh (b := b) (by rw [o1]; rfl) o5 o6 hrest.1 hrest.2.1 hrest.2.2
         (zCL _ _ _ _) (fun q hq => zCw _ _ _ _ _ hq) (fun hk => by
          refine ⟨hlen', hs0, .inr ⟨b, cap, cur', by rw [o1, hφ], by rw [hφ]; exact o2, by rw [d2, o3], d1, o5, o6, fun q s hq => ?_⟩⟩
          have hql := (List.getElem?_eq_some_iff.1 hq).1
          rw [← hreps.1] at hql
          have h8 : rows.length * j.size ≤ cap * j.size := Nat.mul_le_mul_right _ o2
          rw [d3, if_pos ⟨Nat.zero_le _, by omega, by rw [hnl, hφ] at hql; omega⟩]
          have := hreps.2 q s _ hq (List.getElem?_eq_getElem hql)
          exact ⟨_, by simp, this.1.keep hk, this.2⟩) (by simpa [Ob.lt] using hl2)
        refine zBb (v := .int .i64 rows.length) (w' := w.setCells b 0 news) (zES ho fun cs => ?_) (hK β _ _ hwr (by simp [AVal, Rep]) rfl)
        have hmin : Nat.min rows'.length rows.length = rows.length := by rw [hφ]; exact Nat.min_self _
        rw [hφ] at hcl
        simp [builtin, Builtin.copy_, zAf w hu, hv.1, o1, hsrc.len, hφ, zAF w g3, hcl, hst, goInt]
      ·cases hb
     ·cases hb
    ·cases h
   ·cases h
  ·cases h
 all_goals cases h
def zMH (T : Nat → Option TI) (t : Nat) (row : List AV) : Option AV :=
 match T t with
 | none => none
 | some i =>
  match i.k.agg with
  | true => match Nat.ble i.size row.length with | true => some (.agg (row.take i.size)) | false => none
  | false => match row with | x :: _ => some x | [] => none
theorem zSl {c : Cx} {T : Nat → Option TI} {G : Nat → Prop} {β : Nat → Value} {w : World} (hT : TOk c.P T) {t : Nat} {row : List AV} {y : AV} (h : zMH T t row = some y) {b off : Nat}
  (hr : ∀ (i : Nat) x, row[i]? = some x → ∃ u, w.cell? ⟨b, off + i, none⟩ = some u ∧ AVal G w β x u) :
  ∃ z, (Instr.loadAt t (.pointer (some ⟨b, off, none⟩))).run c.P w = .ok z w ∧ AVal G w β y z := by
 have hload : ∀ n, n ≤ row.length → ∃ vs, (loadCells ⟨b, off, none⟩ n).run c.P w = .ok vs.toArray w ∧ AVals G w β (row.take n) vs := fun n hn => by
  have hc : ∀ i, i < n → ∃ u, w.cell? ⟨b, off + i, none⟩ = some u ∧ AVal G w β (row.getD i .junk) u := fun i hi => by
   have := hr i (row.getD i .junk) (by rw [List.getD_eq_getElem?_getD, List.getElem?_eq_getElem (by omega)]; rfl)
   exact this
  let vs := (List.range n).map fun i => (w.cell? ⟨b, off + i, none⟩).getD undef
  have hl := run_loadCells_list (P := c.P) w ⟨b, off, none⟩ vs (fun j v hj => by
   have hjn : j < n := by have := (List.getElem?_eq_some_iff.1 hj).1; simpa [vs] using this
   obtain ⟨u, hu, _⟩ := hc j hjn
   rw [addr_add]
   simp [vs, hjn, hu] at hj
   rw [hu, hj])
  refine ⟨vs, by simpa [vs] using hl, AVals.mk (by simp [vs]; omega) fun i x v hx hv => ?_⟩
  have hin : i < n := by have := (List.getElem?_eq_some_iff.1 hv).1; simpa [vs] using this
  obtain ⟨u, hu, hr⟩ := hc i hin
  rw [List.getElem?_take, if_pos hin] at hx
  rw [List.getD_eq_getElem?_getD, hx] at hr
  simp [vs, hin, hu] at hv
  subst hv; exact hr
 unfold zMH at h
 split at h
 ·cases h
 ·rename_i i ht
  obtain ⟨d, info, z, b1, b2, b3, b4, b5, b6, b7, b8, b9, b10⟩ := hT t i ht
  have hagg := zDg (P := c.P) w b1
  rw [b2] at hagg
  split at h
  ·rename_i hk
   split at h
   ·rename_i hle
    cases h
    obtain ⟨vs, h1, h2⟩ := hload i.size (Nat.le_of_ble_eq_true hle)
    refine ⟨.agg vs.toArray, ?_, by simp only [AVal]; exact ⟨vs, rfl, h2⟩⟩
    simp [Instr.loadAt, Instr.sureAddr, loadVar, hagg, hk, zAF w b3, b4, h1]
   ·cases h
  ·rename_i hk
   split at h
   ·rename_i x r
    cases h
    obtain ⟨u, hu, hr'⟩ := hr 0 y rfl
    simp only [Nat.add_zero] at hu
    refine ⟨u, ?_, hr'⟩
    simp [Instr.loadAt, Instr.sureAddr, loadVar, hagg, hk, hu]
   ·cases h
theorem zS8 {T : Nat → Option TI} {t : Nat} {row : List AV} {y : AV} {n : Nat} (h : zMH T t row = some y) (hr : ∀ x ∈ row, x.lt n = true) : y.lt n = true := by
 unfold zMH at h
 split at h
 ·cases h
 ·split at h
  ·split at h
   ·cases h; simp only [AV.lt]; exact zEA fun x hx => hr x (List.mem_of_mem_take hx)
   ·cases h
  ·split at h
   ·cases h; exact hr _ (by simp)
   ·cases h
theorem zS9 {c : Cx} {T : Nat → Option TI} {G : Nat → Prop} {β : Nat → Value} {σ : St} {a : Act} {w : World} (hT : TOk c.P T)
  (hc : Conc c G β σ a w) {o : Oper} {t : Nat} {y : Operand} (ho : o.op = .load t y) {k sz i off e' : Nat} (e : opd T σ.env 0 y = .rp k sz i off) {rows : List (List AV)} (hh : σ.hp k = some (.arow e' sz rows)) (hφ : i < rows.length) {x : AV}
  (hl : zMH T t ((rows.getD i []).drop off) = some x) {K : Act → World → Prop} {Q : Exit → Act → World → Prop}
  (hK' : ∀ v, AVal G w β x v → x.lt σ.nx = true → K (a.put o.dst v) w) : o.wp c.P a w K Q := by
 have hρ : ∀ ty x, AVal G w β (opd T σ.env ty x) (a.eval x) := zGC hc T
 have hy := hρ 0 y
 rw [e] at hy
 simp only [AVal] at hy
 obtain ⟨b, n, cp, hβ, hv⟩ := hy
 have hrowlt : AV.ltAll σ.nx rows.flatten = true := by simpa [Ob.lt] using (hc.hplt k _ hh).2
 obtain ⟨hlen, hs0, ho'⟩ := hc.hp k _ hh
 rcases ho' with ⟨_, rfl⟩ | ⟨b', cap, cur, o1, o2, o3, o4, o5, o6, o7⟩
 ·simp at hφ
 rw [hβ] at o1
 cases o1
 have hg : rows.getD i [] = rows[i] := by simp [List.getElem?_eq_getElem hφ]
 have hrow : ∀ q s, (rows.getD i [])[q]? = some s → ∃ u, w.cell? ⟨b, i * sz + q, none⟩ = some u ∧ AVal G w β s u := fun q s hq => by
  have hql : q < sz := by rw [hg] at hq; rw [← hlen rows[i] (List.getElem_mem hφ)]; exact (List.getElem?_eq_some_iff.1 hq).1
  have hq' : rows.flatten[i * sz + q]? = some s := by
   rw [zDX sz hlen hφ (by omega) (by omega), ← hg, ← hq]; congr 1; omega
  obtain ⟨u, hu, hr, _⟩ := o7 _ s hq'
  exact ⟨u, by simp [World.cell?, o4, hu], hr⟩
 obtain ⟨u, hu, hr⟩ := zSl (c := c) (G := G) (β := β) hT hl (b := b) (off := i * sz + off) fun q s hq => by
  rw [List.getElem?_drop] at hq
  rw [Nat.add_assoc]; exact hrow (off + q) s hq
 rw [← hv] at hu
 exact zBb (v := u) (w' := w) (by unfold execOp; rw [ho]; simp [hu]) (hK' u hr (zS8 hl fun x hx => zEB hrowlt x (List.mem_flatten.2 ⟨rows[i], List.getElem_mem hφ, hg ▸ List.mem_of_mem_drop hx⟩)))
end Go.Abs
namespace Go.Abs
mutual
theorem AV.pers_lt {n : Nat} : ∀ {x : AV}, x.pers = true → x.lt n = true
 | .s _, _ => rfl
 | .nl _, _ => rfl
 | .agg xs, h => by simp only [AV.pers] at h; simp only [AV.lt]; exact AV.persAll_lt h
 | .tup xs, h => by simp only [AV.pers] at h; simp only [AV.lt]; exact AV.persAll_lt h
 | .clo _ xs, h => by simp only [AV.pers] at h; simp only [AV.lt]; exact AV.persAll_lt h
 | .op .., h => by simp [AV.pers] at h
 | .orow _, h => by simp [AV.pers] at h
 | .rp .., h => by simp [AV.pers] at h
 | .junk, _ => rfl
theorem AV.persAll_lt {n : Nat} : ∀ {xs : List AV}, AV.persAll xs = true → AV.ltAll n xs = true
 | [], _ => rfl
 | x :: xs, h => by
  simp only [AV.persAll, Bool.and_eq_true] at h
  simp only [AV.ltAll, Bool.and_eq_true]
  exact ⟨AV.pers_lt h.1, AV.persAll_lt h.2⟩
end
def zBD (own : Bool) (σ : St) (r : Ret) : Option (AV × St) :=
 match r with
 | .val x => match x.pers with | true => some (x, σ) | false => none
 | .row e sz rows => match own with | true => some (.orow σ.nx, zBU σ (.row e sz rows)) | false => some (.s (.sl sz rows), σ)
theorem zHo {c : Cx} {G G' : Nat → Prop} {β : Nat → Value} {σ σ' : St} {a : Act} {w w' : World} (hc : Conc c G β σ a w) (h1 : Ext G G' w w') {r : Ret} {v : Value} (h2 : RetAt G' w w' r v) {own : Bool} {x : AV}
  (hx : zBD own σ r = some (x, σ')) {K : Prop}
  (hK : ∀ G' β' w'' v', w'' = w' → v' = v → Conc c G' β' σ' a w'' → AVal G' w'' β' x v' → x.lt σ'.nx = true → K) : K := by
 have hcx := hc.ext h1
 unfold zBD at hx
 unfold RetAt at h2
 split at hx
 ·split at hx
  ·rename_i hpers
   cases hx
   exact hK G' β w' v rfl rfl hcx (AVal.pers h2.1 h2.2) (AV.pers_lt hpers)
  ·cases hx
 ·rename_i e1 sz rows
  obtain ⟨f1, f2, f3⟩ := h2
  split at hx
  ·cases hx
   rcases f3 with ⟨rfl, rfl⟩ | ⟨b, cap, cur, rfl, k1, k2, k3, k4, k5, k6⟩
   ·obtain ⟨β', b1, b2, b3⟩ := hcx.make (ob := .row e1 sz []) (v := .slice none 0 0) ⟨f1, f2, .inl ⟨rfl, rfl⟩⟩ rfl (fun _ _ _ b hb => by cases hb)
    refine hK G' β' w' _ rfl rfl b3 ?_ (by simp [AV.lt, zBU])
    simp only [AVal]
    exact ⟨b2.symm, _, _, _, rfl⟩
   ·obtain ⟨β', b1, b2, b3⟩ := hcx.make (ob := .row e1 sz rows) (v := .slice (some ⟨b, 0, none⟩) rows.length cap) ⟨f1, f2, .inr ⟨b, cap, cur, rfl, k1, k2, k3, k4, .inr (Nat.le_trans hc.fr.size k5), k6⟩⟩ rfl (fun k o' hk b' hb e' => by
     cases hb
     have h9 : b < w.heap.size := hc.blk_lt hk e'
     omega)
    refine hK G' β' w' _ rfl rfl b3 ?_ (by simp [AV.lt, zBU])
    simp only [AVal]
    exact ⟨b2.symm, _, _, _, rfl⟩
  ·cases hx
   rcases f3 with ⟨rfl, rfl⟩ | ⟨b, cap, cur, rfl, k1, k2, k3, k4, k5, k6⟩
   ·exact hK G' β w' _ rfl rfl hcx (by simp only [AVal, Rep]; exact .inl ⟨trivial, _, _, rfl⟩) rfl
   ·have hblt : b < w'.heap.size := (Array.getElem?_eq_some_iff.1 k3).1
    have hx : Ext G (fun i => G' i ∨ i = b) w w' := ⟨h1.os, h1.tape, h1.output, h1.size, h1.old, fun i hi => .inl (h1.sub i hi), fun i hi => hi.elim (h1.new i) (fun e => .inr (e ▸ k5)), fun i hi => hi.elim (h1.lt i) (fun e => e ▸ hblt)⟩
    refine hK _ β w' _ rfl rfl (hc.ext hx) ?_ rfl
    simp only [AVal, Rep]
    refine .inr ⟨b, 0, cap, rfl, k1, zCb f1 (RepRow.mk fun i s hi => ⟨.inr rfl, ?_⟩)⟩
    obtain ⟨u, hu, hr⟩ := k6 i s hi
    refine ⟨u, by simp [World.cell?, k3, hu], hr.keep ⟨fun _ h => .inl h, fun _ _ => rfl⟩⟩
theorem zLE {c : Cx} {T : Nat → Option TI} {Γ : Nat → Option zAy} {G : Nat → Prop} {β : Nat → Value} {σ σ' : St} {a : Act} {w : World} (hΓ : ∀ f s, Γ f = some s → PSound c.P f s)
  (hc : Conc c G β σ a w) {o : Oper} {g : Nat} {s : zAy} {xs : List AV} (h : callOf T Γ o σ.env = some (g, s, xs)) {r : Ret} (hr : s.spec xs r) {own : Bool} {x : AV} (hx : zBD own σ r = some (x, σ'))
  {K : Act → World → Prop} {Q : Exit → Act → World → Prop}
  (hK : ∀ G' β' w' v, Conc c G' β' σ' a w' → AVal G' w' β' x v → x.lt σ'.nx = true → K (a.put o.dst v) w') : o.wp c.P a w K Q := by
 have hρ : ∀ ty x, AVal G w β (opd T σ.env ty x) (a.eval x) := zGC hc T
 unfold callOf at h
 split at h
 ·rename_i f args ts ho
  split at h
  ·rename_i g' e
   split at h
   ·rename_i s' hs
    split at h
    ·rename_i hown
     split at h
     ·rename_i hp
      cases h
      have := hρ 0 f
      rw [e] at this
      simp only [AVal, Rep] at this
      have hargs := fun s : zAy => zQF (s := s) hρ args.toList ts.toList
      obtain ⟨hcall, zOc, _⟩ := hΓ g s hs
      have hexec : (execOp a.eval o).run c.P w = .ok (.enter g (args.toList.map a.eval).toArray) w := by
       have e : (args.toList.map a.eval).toArray = args.map a.eval := Array.ext' (by simp)
       rw [e]
       simp [execOp, ho, resolve, this, Deferred.ofValue, invoke, hcall]
      unfold Oper.wp
      rw [hexec]
      simp only [Oper.upon_enter]
      refine (zOc G w _ _ r hc.lt hc.glob hp (AVals.pers hp (hargs _)) hr).mono fun e w' he => ?_
      obtain ⟨v, G', rfl, h1, h2⟩ := he
      exact zHo hc h1 h2 hx fun G' β' w'' v' e1 e2 h3 h4 h5 => by subst e1; subst e2; exact hK G' β' _ _ h3 h4 h5
     ·cases h
    ·cases h
   ·cases h
  ·cases h
 ·cases h
def zQi (x : Nat) : List Nat → Bool
 | [] => true
 | y :: ys => !(Nat.beq x y) && zQi x ys
def distinct : List Nat → Bool
 | [] => true
 | x :: xs => zQi x xs && distinct xs
theorem zF3 {x : Nat} : ∀ {l : List Nat}, zQi x l = true → x ∉ l
 | [], _ => by simp
 | y :: ys, h => by
  simp only [zQi, Bool.and_eq_true, Bool.not_eq_true'] at h
  have h1 := Nat.ne_of_beq_eq_false h.1
  have h2 := zF3 h.2
  simp [h1, h2]
def look (k : Nat) : List (Nat × Nat) → Option Nat
 | [] => none
 | (a, b) :: r => bif Nat.beq k a then some b else look k r
mutual
def AV.ren (ρ : List (Nat × Nat)) : AV → AV
 | .op k o => match look k ρ with | some j => .op j o | none => .junk
 | .orow k => match look k ρ with | some j => .orow j | none => .junk
 | .rp k sz i o => match look k ρ with | some j => .rp j sz i o | none => .junk
 | .agg xs => .agg (AV.renAll ρ xs)
 | .tup xs => .tup (AV.renAll ρ xs)
 | .clo f xs => .clo f (AV.renAll ρ xs)
 | x => x
def AV.renAll (ρ : List (Nat × Nat)) : List AV → List AV
 | [] => []
 | x :: xs => x.ren ρ :: AV.renAll ρ xs
end
def Ob.ren (ρ : List (Nat × Nat)) : Ob → Ob
 | .box t xs => .box t (AV.renAll ρ xs)
 | .arow e sz rows => .arow e sz (rows.map (AV.renAll ρ))
 | o => o
mutual
theorem AVal.ren {G : Nat → Prop} {w : World} {β β' : Nat → Value} {ρ : List (Nat × Nat)} (hb : ∀ k j, look k ρ = some j → β' j = β k) : ∀ {x : AV} {v : Value}, AVal G w β x v → AVal G w β' (x.ren ρ) v
 | .s x, v, h => by simp only [AVal, AV.ren] at h ⊢; exact h
 | .nl _, v, h => by simp only [AVal, AV.ren] at h ⊢; exact h
 | .agg xs, v, h => by
  simp only [AVal, AV.ren] at h ⊢
  obtain ⟨vs, h1, h2⟩ := h
  exact ⟨vs, h1, AVals.ren hb h2⟩
 | .tup xs, v, h => by
  simp only [AVal, AV.ren] at h ⊢
  obtain ⟨vs, h1, h2⟩ := h
  exact ⟨vs, h1, AVals.ren hb h2⟩
 | .clo f xs, v, h => by
  simp only [AVal, AV.ren] at h ⊢
  obtain ⟨vs, h1, h2⟩ := h
  exact ⟨vs, h1, AVals.ren hb h2⟩
 | .op k o, v, h => by
  simp only [AV.ren]
  split
  ·rename_i j hj; simp only [AVal] at h ⊢; rw [hb k j hj]; exact h
  ·simp only [AVal]
 | .orow k, v, h => by
  simp only [AV.ren]
  split
  ·rename_i j hj; simp only [AVal] at h ⊢; rw [hb k j hj]; exact h
  ·simp only [AVal]
 | .rp k sz i o, v, h => by
  simp only [AV.ren]
  split
  ·rename_i j hj; simp only [AVal] at h ⊢; rw [hb k j hj]; exact h
  ·simp only [AVal]
 | .junk, _, _ => by simp only [AV.ren, AVal]
theorem AVals.ren {G : Nat → Prop} {w : World} {β β' : Nat → Value} {ρ : List (Nat × Nat)} (hb : ∀ k j, look k ρ = some j → β' j = β k) : ∀ {xs : List AV} {vs : List Value}, AVals G w β xs vs → AVals G w β' (AV.renAll ρ xs) vs
 | [], _, h => by simp only [AVals, AV.renAll] at h ⊢; exact h
 | x :: xs, vs, h => by
  simp only [AVals, AV.renAll] at h ⊢
  obtain ⟨v, vs', h1, h2, h3⟩ := h
  exact ⟨v, vs', h1, AVal.ren hb h2, AVals.ren hb h3⟩
end
def S.flat : S → Bool
 | .sl _ _ => false
 | .pt _ => false
 | _ => true
mutual
def AV.flat : AV → Bool
 | .s x => x.flat
 | .nl _ => true
 | .agg xs => AV.flatAll xs
 | .tup xs => AV.flatAll xs
 | _ => false
def AV.flatAll : List AV → Bool
 | [] => true
 | x :: xs => x.flat && AV.flatAll xs
end
def Ret.flat : Ret → Bool
 | .val x => x.flat
 | .row _ _ _ => false
theorem Rep.flat {G G' : Nat → Prop} {w w' : World} {s : S} {v : Value} (hs : s.flat = true) (h : Rep G w s v) : Rep G' w' s v := by
 cases s with
 | sl sz rows => simp [S.flat] at hs
 | pt => simp [S.flat] at hs
 | _ => simpa only [Rep] using h
mutual
theorem AVal.flat {G G' : Nat → Prop} {w w' : World} {β β' : Nat → Value} : ∀ {x : AV} {v : Value}, x.flat = true → AVal G w β x v → AVal G' w' β' x v
 | .s x, v, hf, h => by simp only [AVal, AV.flat] at h hf ⊢; exact h.flat hf
 | .nl _, v, _, h => by simp only [AVal] at h ⊢; exact h
 | .agg xs, v, hf, h => by
  simp only [AVal, AV.flat] at h hf ⊢
  obtain ⟨vs, h1, h2⟩ := h
  exact ⟨vs, h1, AVals.flat hf h2⟩
 | .tup xs, v, hf, h => by
  simp only [AVal, AV.flat] at h hf ⊢
  obtain ⟨vs, h1, h2⟩ := h
  exact ⟨vs, h1, AVals.flat hf h2⟩
 | .clo .., _, hf, _ => by simp [AV.flat] at hf
 | .op .., _, hf, _ => by simp [AV.flat] at hf
 | .orow _, _, hf, _ => by simp [AV.flat] at hf
 | .rp .., _, hf, _ => by simp [AV.flat] at hf
 | .junk, _, hf, _ => by simp [AV.flat] at hf
theorem AVals.flat {G G' : Nat → Prop} {w w' : World} {β β' : Nat → Value} : ∀ {xs : List AV} {vs : List Value}, AV.flatAll xs = true → AVals G w β xs vs → AVals G' w' β' xs vs
 | [], _, _, h => by simp only [AVals] at h ⊢; exact h
 | x :: xs, vs, hf, h => by
  simp only [AVals] at h ⊢
  simp only [AV.flatAll, Bool.and_eq_true] at hf
  obtain ⟨v, vs', h1, h2, h3⟩ := h
  exact ⟨v, vs', h1, AVal.flat hf.1 h2, AVals.flat hf.2 h3⟩
end
theorem RetAt.flat {G G1 G' : Nat → Prop} {w w' : World} (hs : ∀ b, G b → G' b) {r : Ret} {v : Value} (hf : r.flat = true) (h : RetAt G' w w' r v) : RetAt G w w' r v := by
 cases r with
 | val x => exact ⟨h.1, AVal.flat hf h.2⟩
 | row e sz rows =>
  simp [Ret.flat] at hf
mutual
def AV.keys : AV → List Nat
 | .op k _ => [k]
 | .orow k => [k]
 | .rp k _ _ _ => [k]
 | .agg xs => AV.keysAll xs
 | .tup xs => AV.keysAll xs
 | .clo _ xs => AV.keysAll xs
 | _ => []
def AV.keysAll : List AV → List Nat
 | [] => []
 | x :: xs => x.keys ++ AV.keysAll xs
end
mutual
def AV.lend (hp : Nat → Option Ob) : AV → AV
 | .orow k => match hp k with | some (.row _ sz rows) => .s (.sl sz rows) | _ => .junk
 | .op k o => match hp k with
  | some (.box _ cells) => match zPX cells with | some ss => .s (.pt (ss.drop o)) | none => .junk
  | _ => .junk
 | .rp .. => .junk
 | .agg xs => .agg (AV.lendAll hp xs)
 | .tup xs => .tup (AV.lendAll hp xs)
 | .clo f xs => .clo f (AV.lendAll hp xs)
 | x => x
def AV.lendAll (hp : Nat → Option Ob) : List AV → List AV
 | [] => []
 | x :: xs => x.lend hp :: AV.lendAll hp xs
end
section
variable {c : Cx} {G : Nat → Prop} {β : Nat → Value} {σ : St} {a : Act} {w : World}
def zPz (G : Nat → Prop) (β : Nat → Value) (σ : St) (ks : List Nat) (b : Nat) : Prop := G b ∨ ∃ k ob, k ∈ ks ∧ σ.hp k = some ob ∧ blk (β k) = some b
mutual
theorem AVal.lend (hc : Conc c G β σ a w) {ks : List Nat} : ∀ {x : AV} {v : Value}, (∀ k ∈ x.keys, k ∈ ks) → AVal G w β x v → AVal (zPz G β σ ks) w β (x.lend σ.hp) v
 | .s x, v, _, h => by simp only [AVal, AV.lend] at h ⊢; exact h.keep ⟨fun _ h => .inl h, fun _ _ => rfl⟩
 | .nl _, v, _, h => by simp only [AVal, AV.lend] at h ⊢; exact h
 | .agg xs, v, hk, h => by
  simp only [AVal, AV.lend] at h ⊢
  obtain ⟨vs, h1, h2⟩ := h
  exact ⟨vs, h1, AVals.lend hc (fun k hk' => hk k (by simpa [AV.keys] using hk')) h2⟩
 | .tup xs, v, hk, h => by
  simp only [AVal, AV.lend] at h ⊢
  obtain ⟨vs, h1, h2⟩ := h
  exact ⟨vs, h1, AVals.lend hc (fun k hk' => hk k (by simpa [AV.keys] using hk')) h2⟩
 | .clo f xs, v, hk, h => by
  simp only [AVal, AV.lend] at h ⊢
  obtain ⟨vs, h1, h2⟩ := h
  exact ⟨vs, h1, AVals.lend hc (fun k hk' => hk k (by simpa [AV.keys] using hk')) h2⟩
 | .op k o, v, hk, h => by
  simp only [AV.lend]
  have hkk := hk k (by simp [AV.keys])
  split
  ·rename_i cells hh
   split
   ·rename_i ss hs
    obtain ⟨b, e, cur, h1, h2, h3, h4, h5, h6⟩ := hc.hp k _ hh
    have hreps := zIj hs h5
    simp only [AVal] at h
    obtain ⟨b', e1, rfl⟩ := h
    rw [h1] at e1; cases e1
    simp only [AVal, Rep]
    have hrow : RepRow (zPz G β σ ks) w b ss 0 := RepRow.mk fun i s hi => ⟨.inr ⟨k, _, hkk, hh, by rw [h1]; rfl⟩, by
     obtain ⟨u, hu, hr⟩ := zIh hreps hi
     rw [Array.getElem?_toList] at hu
     exact ⟨u, by simp [World.cell?, h2, hu], hr.keep ⟨fun _ h => .inl h, fun _ _ => rfl⟩⟩⟩
    exact ⟨b, o, rfl, by simpa using hrow.drop o⟩
   ·simp only [AVal]
  ·simp only [AVal]
 | .orow k, v, hk, h => by
  simp only [AV.lend]
  have hkk := hk k (by simp [AV.keys])
  split
  ·rename_i e sz rows hh
   obtain ⟨hlen, hsz, ho⟩ := hc.hp k _ hh
   simp only [AVal] at h
   obtain ⟨rfl, _⟩ := h
   simp only [AVal, Rep]
   rcases ho with ⟨h1, rfl⟩ | ⟨b, cap, cur, h1, h2, h3, h4, h5, h6, h7⟩
   ·exact .inl ⟨rfl, _, _, h1⟩
   ·refine .inr ⟨b, 0, cap, h1, h2, zCb hlen (RepRow.mk fun i s hi => ⟨.inr ⟨k, _, hkk, hh, by rw [h1]; rfl⟩, ?_⟩)⟩
    obtain ⟨u, hu, hr⟩ := h7 i s hi
    exact ⟨u, by simp [World.cell?, h4, hu], hr.keep ⟨fun _ h => .inl h, fun _ _ => rfl⟩⟩
  ·simp only [AVal]
 | .rp .., v, _, h => by simp only [AV.lend, AVal]
 | .junk, _, _, _ => by simp only [AV.lend, AVal]
theorem AVals.lend (hc : Conc c G β σ a w) {ks : List Nat} : ∀ {xs : List AV} {vs : List Value}, (∀ k ∈ AV.keysAll xs, k ∈ ks) → AVals G w β xs vs → AVals (zPz G β σ ks) w β (AV.lendAll σ.hp xs) vs
 | [], _, _, h => by simp only [AVals, AV.lendAll] at h ⊢; exact h
 | x :: xs, vs, hk, h => by
  simp only [AVals, AV.lendAll] at h ⊢
  obtain ⟨v, vs', h1, h2, h3⟩ := h
  exact ⟨v, vs', h1, AVal.lend hc (fun k hk' => hk k (by simp [AV.keysAll, hk'])) h2, AVals.lend hc (fun k hk' => hk k (by simp [AV.keysAll, hk'])) h3⟩
end
def kin (k : Nat) : List Nat → Bool
 | [] => false
 | x :: xs => match Nat.beq k x with | true => true | false => kin k xs
theorem zOe {k : Nat} : ∀ {l : List Nat}, kin k l = false → k ∉ l
 | [], _ => by simp
 | x :: xs, h => by
  simp only [kin] at h
  split at h
  ·cases h
  ·rename_i e
   have := zOe h
   have := Nat.ne_of_beq_eq_false e
   simp_all
def zL5 (ks : List Nat) (σ : St) : St := { σ with hp := fun k => bif kin k ks then none else σ.hp k }
theorem Conc.giveAll (hc : Conc c G β σ a w) (ks : List Nat) : Conc c (zPz G β σ ks) β (zL5 ks σ) a w := by
 have k : Keep G (zPz G β σ ks) w w := ⟨fun _ h => .inl h, fun _ _ => rfl⟩
 have hget : ∀ {k' o}, (zL5 ks σ).hp k' = some o → k' ∉ ks ∧ σ.hp k' = some o := fun {k' o} hk => by
  simp only [zL5] at hk
  cases e : kin k' ks with
  | true => rw [e, cond_true] at hk; cases hk
  | false => rw [e, cond_false] at hk; exact ⟨zOe e, hk⟩
 have hng : ∀ {k' o}, σ.hp k' = some o → k' ∉ ks → ∀ {b : Nat}, blk (β k') = some b → ¬ zPz G β σ ks b := fun {k' o} hk hn {b} hb hl => by
  rcases hl with hl | ⟨k2, o2, h1, h2, h3⟩
  ·exact (row_block (hc.hp k' o hk) b hb).1 hl
  ·exact hc.inj k' k2 o o2 hk h2 (fun e => hn (e ▸ h1)) b hb h3
 refine { hc with env := fun t => (hc.env t).keep k, hp := fun k' o hk => ?_, hplt := fun k' o hk => hc.hplt k' o (hget hk).2, inj := fun k1 k2 o1 o2 h1 h2 => hc.inj k1 k2 o1 o2 (hget h1).2 (hget h2).2, lt := fun i hi => ?_, sub := fun i hi => .inl (hc.sub i hi), new := fun i hi => ?_, glob := hc.glob.keep k }
 ·obtain ⟨hn, hk0⟩ := hget hk
  have ho := hc.hp k' o hk0
  cases o with
  | box cells =>
   obtain ⟨b', e', cur, h1, h2, h3, h4, h5, h6⟩ := ho
   exact ⟨b', e', cur, h1, h2, hng hk0 hn (by rw [h1]; rfl), h4, h5.keep k, h6⟩
  | row e' sz rows =>
   obtain ⟨h0, h0', h1⟩ := ho
   refine ⟨h0, h0', h1.imp id ?_⟩
   rintro ⟨b', cap, cur, h1, h2, h3, h4, h5, h6, h7⟩
   exact ⟨b', cap, cur, h1, h2, h3, h4, hng hk0 hn (by rw [h1]; rfl), h6, fun i s hi => let ⟨u, hu, hr⟩ := h7 i s hi; ⟨u, hu, hr.keep k⟩⟩
  | arow e' sz rows => exact ho.moveA (fun _ _ _ h => h) (fun b _ hb _ _ => hng hk0 hn hb) (fun _ _ h => h) (fun _ _ _ _ hr => hr.keep k)
 ·rcases hi with hi | ⟨k2, o2, h1, h2, h3⟩
  ·exact hc.lt i hi
  ·exact hc.blk_lt h2 h3
 ·rcases hi with hi | ⟨k2, o2, h1, h2, h3⟩
  ·exact hc.new i hi
  ·exact .inr (row_block (hc.hp k2 o2 h2) i h3).2
def zCD (T : Nat → Option TI) (o : Oper) (env : Nat → AV) : Option (Nat × List AV) :=
 match o.op with
 | .call { callee := .value f, args := args, argTypes := ts } => match opd T env 0 f with
  | .s (.fn g) => some (g, opds T env args.toList ts.toList)
  | .clo g caps => some (g, opds T env args.toList ts.toList ++ caps)
  | _ => none
 | _ => none
def zDm (hp : Nat → Option Ob) : Nat → List Nat → List Nat → List Nat
 | 0, _, acc => acc
 | _, [], acc => acc
 | n + 1, k :: r, acc => match kin k acc with
  | true => zDm hp n r acc
  | false => match hp k with
   | some (.box _ cells) => zDm hp n (AV.keysAll cells ++ r) (acc ++ [k])
   | _ => zDm hp n r (acc ++ [k])
def zipI : Nat → List Nat → List (Nat × Nat)
 | _, [] => []
 | i, k :: ks => (k, i) :: zipI (i + 1) ks
def zRV (hp : Nat → Option Ob) (ρ : List (Nat × Nat)) : List Nat → Option (List Ob)
 | [] => some []
 | k :: ks => match hp k, zRV hp ρ ks with | some o, some os => some (o.ren ρ :: os) | _, _ => none
def zGp : List Nat → Nat → Nat → Nat
 | k :: _, _, 0 => k
 | _ :: ks, nx, i + 1 => zGp ks nx i
 | [], nx, i => nx + i
def zMv (ks : List Nat) (nx : Nat) : Nat → List (Option Ob) → List (Nat × Nat)
 | _, [] => []
 | i, none :: r => zMv ks nx (i + 1) r
 | i, some _ :: r => (i, zGp ks nx i) :: zMv ks nx (i + 1) r
def zQc (ρ : List (Nat × Nat)) (f : Nat → Nat) : Nat → List (Option Ob) → (Nat → Option Ob) → Nat → Option Ob
 | _, [], hp => hp
 | i, o :: os, hp => zQc ρ f (i + 1) os (fun k => bif Nat.beq k (f i) then o.map (Ob.ren ρ) else hp k)
def handed (σ : St) (ks : List Nat) (os' : List (Option Ob)) : St :=
 { σ with hp := zQc (zMv ks σ.nx 0 os') (zGp ks σ.nx) 0 os' σ.hp, nx := σ.nx + (os'.length - ks.length) }
def zFO (T : Nat → Option TI) (nil : Option Nat) (o : Oper) (xs : List AV) (σ : St) : List AV × St :=
 match nil with
 | none => (xs, σ)
 | some k => match o.op with
  | .call { callee := _, args := args, argTypes := ts } => match args.toList[k]?, elemOf T (ts.toList.getD k 0) with
   | some x, some (e, j) => match zC3 x, Nat.ble 1 j.size with
    | true, true => (xs.set k (.orow σ.nx), zBU σ (.row e j.size []))
    | _, _ => (xs, σ)
   | _, _ => (xs, σ)
  | _ => (xs, σ)
def zHw (T : Nat → Option TI) (o : Oper) (σ : St) (K : AV → St → Prop) : Prop :=
 match o.op with
 | .load t x => match opd T σ.env 0 x with
  | .rp k sz i off => match σ.hp k with
   | some (.row _ sz' rows) => match Nat.beq sz sz' with
    | true => i < rows.length ∧ ∃ row, rows.getD i [] = row ∧ match zK9 T t (row.drop off) with | some y => K y σ | none => False
    | false => False
   | some (.arow _ sz' rows) => match Nat.beq sz sz' with
    | true => i < rows.length ∧ ∃ row, rows.getD i [] = row ∧ match zMH T t (row.drop off) with | some y => K y σ | none => False
    | false => False
   | _ => False
  | _ => False
 | _ => False
def zFD (T : Nat → Option TI) (Γ : Nat → Option zAy) (own : Bool) (o : Oper) (σ : St) (K : AV → St → Prop) : Prop :=
 match zCD T o σ.env with
 | none => zHw T o σ K
 | some (g, xs) => match Γ g with
  | none => False
  | some s => match s.heap with
   | some R => ∃ Φ, R xs σ.hp σ.nx Φ ∧ ∀ x hp' n', Φ x hp' n' → K x ⟨σ.env, hp', n'⟩
   | none => match s.own with
   | none => match AV.persAll (AV.lendAll σ.hp xs) with
    | false => False
    | true => ∃ r, s.spec (AV.lendAll σ.hp xs) r ∧ match zBD own (match r.flat with | true => σ | false => zL5 (AV.keysAll xs) σ) r with
     | none => False
     | some (x, σ') => K x σ'
   | some R => match zFO T s.nil o xs σ with
    | (xs, σ) => match distinct (zDm σ.hp 64 (AV.keysAll xs) []), zRV σ.hp (zipI 0 (zDm σ.hp 64 (AV.keysAll xs) [])) (zDm σ.hp 64 (AV.keysAll xs) []) with
     | true, some os => ∃ x os', R (AV.renAll (zipI 0 (zDm σ.hp 64 (AV.keysAll xs) [])) xs) os x os' ∧
       K (x.ren (zMv (zDm σ.hp 64 (AV.keysAll xs) []) σ.nx 0 os')) (handed σ (zDm σ.hp 64 (AV.keysAll xs) []) os')
     | _, _ => False
theorem zHa : ∀ {l : List Nat}, distinct l = true → l.Nodup
 | [], _ => List.nodup_nil
 | x :: xs, h => by
  simp only [distinct, Bool.and_eq_true] at h
  exact List.nodup_cons.2 ⟨zF3 h.1, zHa h.2⟩
theorem zD2 : ∀ {ks : List Nat} {nx i : Nat}, i < ks.length → ks[i]? = some (zGp ks nx i)
 | k :: ks, nx, 0, _ => rfl
 | k :: ks, nx, i + 1, h => by simpa [zGp] using zD2 (ks := ks) (nx := nx) (i := i) (by simpa using h)
theorem zEs : ∀ {ks : List Nat} {nx i : Nat}, ks.length ≤ i → zGp ks nx i = nx + (i - ks.length)
 | [], nx, i, _ => by simp [zGp]
 | k :: ks, nx, 0, h => by simp at h
 | k :: ks, nx, i + 1, h => by rw [zGp, zEs (by simpa using h)]; simp
theorem zKm : ∀ {ks : List Nat} {n k i : Nat}, look k (zipI n ks) = some i → n ≤ i ∧ ks[i - n]? = some k
 | [], n, k, i, h => by simp [zipI, look] at h
 | a :: ks, n, k, i, h => by
  simp only [zipI, look] at h
  cases e : Nat.beq k a with
  | true => rw [e, cond_true] at h; cases h; obtain rfl := Nat.eq_of_beq_eq_true e; simp
  | false =>
   rw [e, cond_false] at h
   obtain ⟨h1, h2⟩ := zKm h
   refine ⟨by omega, ?_⟩
   rw [show i - n = (i - (n + 1)) + 1 by omega]; simpa using h2
theorem zQd {k j : Nat} : ∀ {l : List (Nat × Nat)}, look k l = some j → (k, j) ∈ l
 | [], h => by simp [look] at h
 | (a, b) :: r, h => by
  simp only [look] at h
  cases e : Nat.beq k a with
  | true => rw [e, cond_true] at h; cases h; obtain rfl := Nat.eq_of_beq_eq_true e; simp
  | false => rw [e, cond_false] at h; simp [zQd h]
theorem zEz {ks : List Nat} {nx : Nat} : ∀ {os : List (Option Ob)} {n i k : Nat}, look i (zMv ks nx n os) = some k → n ≤ i ∧ (∃ ob, os[i - n]? = some (some ob)) ∧ k = zGp ks nx i
 | [], n, i, k, h => by simp [zMv, look] at h
 | none :: r, n, i, k, h => by
  simp only [zMv] at h
  obtain ⟨h1, ⟨ob, h2⟩, h3⟩ := zEz h
  refine ⟨by omega, ⟨ob, ?_⟩, h3⟩
  rw [show i - n = (i - (n + 1)) + 1 by omega]; simpa using h2
 | some o :: r, n, i, k, h => by
  simp only [zMv, look] at h
  cases e : Nat.beq i n with
  | true => rw [e, cond_true] at h; cases h; obtain rfl := Nat.eq_of_beq_eq_true e; exact ⟨Nat.le_refl _, ⟨o, by simp⟩, rfl⟩
  | false =>
   rw [e, cond_false] at h
   obtain ⟨h1, ⟨ob, h2⟩, h3⟩ := zEz h
   refine ⟨by omega, ⟨ob, ?_⟩, h3⟩
   rw [show i - n = (i - (n + 1)) + 1 by omega]; simpa using h2
theorem zFJ {ρ : List (Nat × Nat)} {f : Nat → Nat} : ∀ {os : List (Option Ob)} {i : Nat} {hp : Nat → Option Ob} {k : Nat} {ob : Ob}, zQc ρ f i os hp k = some ob →
  (∃ j ob0, os[j]? = some (some ob0) ∧ k = f (i + j) ∧ ob = ob0.ren ρ) ∨ (hp k = some ob ∧ ∀ j, j < os.length → k ≠ f (i + j))
 | [], i, hp, k, ob, h => .inr ⟨h, fun j hj => by simp at hj⟩
 | o :: os, i, hp, k, ob, h => by
  simp only [zQc] at h
  rcases zFJ h with ⟨j, ob0, h1, h2, h3⟩ | ⟨h1, h2⟩
  ·exact .inl ⟨j + 1, ob0, by simpa using h1, by rw [h2]; congr 1; omega, h3⟩
  ·cases e : Nat.beq k (f i) with
   | true =>
    rw [e, cond_true] at h1
    obtain ⟨ob0, h3, h4⟩ := Option.map_eq_some_iff.1 h1
    exact .inl ⟨0, ob0, by simp [h3], Nat.eq_of_beq_eq_true e, h4.symm⟩
   | false =>
    rw [e, cond_false] at h1
    refine .inr ⟨h1, fun j hj => ?_⟩
    cases j with
    | zero => exact Nat.ne_of_beq_eq_false e
    | succ j => have := h2 j (by simpa using hj); rwa [show i + 1 + j = i + (j + 1) by omega] at this
theorem zOo {hp : Nat → Option Ob} {ρ : List (Nat × Nat)} : ∀ {ks : List Nat} {os : List Ob}, zRV hp ρ ks = some os → os.length = ks.length ∧ ∀ (i : Nat) k, ks[i]? = some k → ∃ o, hp k = some o ∧ os[i]? = some (o.ren ρ)
 | [], os, h => by simp only [zRV, Option.some.injEq] at h; subst h; exact ⟨rfl, fun i k h => by simp at h⟩
 | k :: ks, os, h => by
  simp only [zRV] at h
  split at h
  ·rename_i o os1 h1 h2
   cases h
   obtain ⟨a1, a2⟩ := zOo h2
   refine ⟨by simp [a1], fun i k' hk => ?_⟩
   cases i with
   | zero => simp at hk; subst hk; exact ⟨o, h1, by simp⟩
   | succ i => simpa using a2 i k' (by simpa using hk)
  ·cases h
theorem zKJ {ρ : List (Nat × Nat)} : ∀ (l : List AV), AV.renAll ρ l = l.map (AV.ren ρ)
 | [] => rfl
 | x :: l => by simp [AV.renAll, zKJ l]
theorem zFw {ρ : List (Nat × Nat)} : ∀ (rows : List (List AV)), (rows.map (AV.renAll ρ)).flatten = rows.flatten.map (AV.ren ρ)
 | [] => rfl
 | r :: rows => by simp [zKJ, zFw rows, List.map_append]
theorem ObAt.mv {c1 c2 : Cx} {G : Nat → Prop} {w : World} {β : Nat → Value} {v : Value} {o : Ob} (hm : ∀ b, blk v = some b → c1.mine b → c2.mine b) (h : ObAt c1 G w β v o) : ObAt c2 G w β v o := by
 cases o with
 | box xs =>
  obtain ⟨b, e, cur, q1, q2, q3, q4, q5, q6⟩ := h
  exact ⟨b, e, cur, q1, q2, q3, hm b (by rw [q1]; rfl) q4, q5, q6⟩
 | row e sz rows =>
  obtain ⟨h1, h2, h3⟩ := h
  refine ⟨h1, h2, h3.imp id ?_⟩
  rintro ⟨b, cap, cur, k1, k2, k3, k4, k5, k6, k7⟩
  exact ⟨b, cap, cur, k1, k2, k3, k4, k5, hm b (by rw [k1]; rfl) k6, k7⟩
 | arow e sz rows => exact h.moveA (fun _ _ _ h => h) (fun _ _ _ _ h => h) hm (fun _ _ _ _ h => h)
theorem ObAt.ren {c1 c2 : Cx} {G : Nat → Prop} {w : World} {β β' : Nat → Value} {ρ : List (Nat × Nat)} (hb : ∀ k j, look k ρ = some j → β' j = β k) {v : Value} {o : Ob} (hm : ∀ b, blk v = some b → c1.mine b → c2.mine b)
  (h : ObAt c1 G w β v o) : ObAt c2 G w β' v (o.ren ρ) := by
 cases o with
 | box xs =>
  obtain ⟨b, e, cur, q1, q2, q3, q4, q5, q6⟩ := h
  exact ⟨b, e, cur, q1, q2, q3, hm b (by rw [q1]; rfl) q4, q5.ren hb, q6⟩
 | row e sz rows =>
  obtain ⟨h1, h2, h3⟩ := h
  refine ⟨h1, h2, h3.imp id ?_⟩
  rintro ⟨b, cap, cur, k1, k2, k3, k4, k5, k6, k7⟩
  exact ⟨b, cap, cur, k1, k2, k3, k4, k5, hm b (by rw [k1]; rfl) k6, k7⟩
 | arow e sz rows =>
  obtain ⟨h1, h2, h3⟩ := h
  refine ⟨fun r hr => by obtain ⟨r', hr', rfl⟩ := List.mem_map.1 hr; rw [zKJ, List.length_map]; exact h1 r' hr', h2, h3.imp (fun h => ⟨h.1, by rw [h.2]; rfl⟩) ?_⟩
  rintro ⟨b, cap, cur, k1, k2, k3, k4, k5, k6, k7⟩
  refine ⟨b, cap, cur, by rw [List.length_map]; exact k1, by rw [List.length_map]; exact k2, k3, k4, k5, hm b (by rw [k1]; rfl) k6, fun i x hi => ?_⟩
  rw [zFw, List.getElem?_map] at hi
  obtain ⟨y, hy, rfl⟩ := Option.map_eq_some_iff.1 hi
  obtain ⟨u, hu, hr, h1⟩ := k7 i y hy
  exact ⟨u, hu, hr.ren hb, h1⟩
mutual
theorem AV.ren_lt {ρ : List (Nat × Nat)} {n : Nat} (h : ∀ k j, look k ρ = some j → j < n) : ∀ {x : AV}, (x.ren ρ).lt n = true
 | .s _ => rfl
 | .nl _ => rfl
 | .agg xs => by simp only [AV.ren, AV.lt]; exact AV.renAll_lt h
 | .tup xs => by simp only [AV.ren, AV.lt]; exact AV.renAll_lt h
 | .clo _ xs => by simp only [AV.ren, AV.lt]; exact AV.renAll_lt h
 | .op k o => by
  simp only [AV.ren]
  split
  ·rename_i j hj; simp only [AV.lt, decide_eq_true_eq]; exact h k j hj
  ·rfl
 | .orow k => by
  simp only [AV.ren]
  split
  ·rename_i j hj; simp only [AV.lt, decide_eq_true_eq]; exact h k j hj
  ·rfl
 | .rp k _ _ _ => by
  simp only [AV.ren]
  split
  ·rename_i j hj; simp only [AV.lt, decide_eq_true_eq]; exact h k j hj
  ·rfl
 | .junk => rfl
theorem AV.renAll_lt {ρ : List (Nat × Nat)} {n : Nat} (h : ∀ k j, look k ρ = some j → j < n) : ∀ {xs : List AV}, AV.ltAll n (AV.renAll ρ xs) = true
 | [] => rfl
 | x :: xs => by simp only [AV.renAll, AV.ltAll, Bool.and_eq_true]; exact ⟨AV.ren_lt h, AV.renAll_lt h⟩
end
theorem Ob.ren_lt {ρ : List (Nat × Nat)} {n : Nat} (h : ∀ k j, look k ρ = some j → j < n) {o : Ob} : (o.ren ρ).lt n = true := by
 cases o with
 | box xs => simp only [Ob.ren, Ob.lt]; exact AV.renAll_lt h
 | row => rfl
 | arow e sz rows =>
  simp only [Ob.ren, Ob.lt]
  exact zKn fun q y hq => by
   rw [zFw, List.getElem?_map] at hq
   obtain ⟨z, _, rfl⟩ := Option.map_eq_some_iff.1 hq
   exact AV.ren_lt h
theorem Conc.handed (hc : Conc c G β σ a w) {ks : List Nat} {os : List Ob} {os' : List (Option Ob)} (hd : ks.Nodup) (hks : ∀ (i : Nat) k, ks[i]? = some k → ∃ ob, σ.hp k = some ob) (hlen : os.length = ks.length)
  {G' : Nat → Prop} {β1 β' : Nat → Value} {w' : World} (hβ : ∀ (i : Nat) k, ks[i]? = some k → β1 i = β k) (h1 : Fr (zEY c.P w β1 os.length G 0).X w w') (h2 : ∀ b, G b → G' b) (h3 : ∀ b, G' b → G b ∨ (zEY c.P w β1 os.length G 0).mine b) (h4 : ∀ b, G' b → b < w'.heap.size)
  (h5 : os.length ≤ os'.length) (h6 : zRh (zEY c.P w β1 os.length G 0) G' w' β' os') (h7 : ∀ (i : Nat) ob, i < os.length → os'[i]? = some (some ob) → β' i = β1 i) :
  ∃ β2, (∀ k j, look k (zMv ks σ.nx 0 os') = some j → β2 j = β' k) ∧ (∀ k, k < σ.nx → β2 k = β k) ∧ Conc c G' β2 (handed σ ks os') a w' := by
 have hX : ∀ b, (zEY c.P w β1 os.length G 0).X b → ∃ k ob, k ∈ ks ∧ σ.hp k = some ob ∧ blk (β k) = some b := fun b ⟨i, hi, hb⟩ => by
  have hk := List.getElem?_eq_getElem (l := ks) (by rw [← hlen]; exact hi)
  obtain ⟨ob, ho⟩ := hks i _ hk
  exact ⟨ks[i]'(by rw [← hlen]; exact hi), ob, List.getElem_mem _, ho, by rw [← hβ i _ hk]; exact hb⟩
 have hXG : ∀ b, G b → ¬ (zEY c.P w β1 os.length G 0).X b := fun b hg hx => by
  obtain ⟨k, ob, _, ho, hb⟩ := hX b hx
  exact (row_block (hc.hp k ob ho) b hb).1 hg
 have hmine : ∀ b, (zEY c.P w β1 os.length G 0).mine b → c.mine b := fun b hm => by
  rcases hm with hm | hm
  ·obtain ⟨k, ob, _, ho, hb⟩ := hX b hm
   exact (row_block (hc.hp k ob ho) b hb).2
  ·exact .inr (Nat.le_trans hc.fr.size hm)
 have hksl : ∀ (i : Nat) k, ks[i]? = some k → k < σ.nx := fun i k hk => by
  obtain ⟨ob, ho⟩ := hks i k hk
  exact (hc.hplt k ob ho).1
 have keep : Keep G G' w w' := ⟨h2, fun b hb => h1.old b (hc.lt b hb) (hXG b hb)⟩
 refine ⟨fun k => if k < σ.nx then β k else β' (ks.length + (k - σ.nx)), fun k j hkj => ?_, fun k hk => if_pos hk, ?_⟩
 ·obtain ⟨_, ⟨ob, hob⟩, rfl⟩ := zEz hkj
  rw [Nat.sub_zero] at hob
  dsimp only
  by_cases hi : k < ks.length
  ·have hb := zD2 (ks := ks) (nx := σ.nx) hi
   rw [if_pos (hksl k _ hb), h7 k ob (by rw [hlen]; exact hi) hob, hβ k _ hb]
  ·rw [zEs (by omega), if_neg (by omega)]
   congr 1; omega
 ·have hβ2 : ∀ k, k < σ.nx → (fun k => if k < σ.nx then β k else β' (ks.length + (k - σ.nx))) k = β k := fun k hk => if_pos hk
  have hbk : ∀ j, j < os'.length → zGp ks σ.nx j < σ.nx + (os'.length - ks.length) := fun j hj => by
   by_cases hi : j < ks.length
   ·have := hksl j _ (zD2 (ks := ks) (nx := σ.nx) hi); omega
   ·rw [zEs (by omega)]; omega
  have hal : ∀ j ob0, os'[j]? = some (some ob0) → (if zGp ks σ.nx j < σ.nx then β (zGp ks σ.nx j) else β' (ks.length + (zGp ks σ.nx j - σ.nx))) = β' j := fun j ob0 hj => by
   by_cases hi : j < ks.length
   ·have hb := zD2 (ks := ks) (nx := σ.nx) hi
    rw [if_pos (hksl j _ hb), h7 j ob0 (by rw [hlen]; exact hi) hj, hβ j _ hb]
   ·rw [zEs (by omega), if_neg (by omega)]
    congr 1; omega
  have hinj : ∀ i j, i < os'.length → j < os'.length → zGp ks σ.nx i = zGp ks σ.nx j → i = j := fun i j hi hj e => by
   by_cases h8 : i < ks.length <;> by_cases h9 : j < ks.length
   ·have q1 := zD2 (ks := ks) (nx := σ.nx) h8
    have q2 := zD2 (ks := ks) (nx := σ.nx) h9
    rw [← e, ← q1] at q2
    exact (List.getElem?_inj h8 hd).1 q2.symm
   ·have q1 := hksl i _ (zD2 (ks := ks) (nx := σ.nx) h8)
    rw [e, zEs (by omega)] at q1; omega
   ·have q1 := hksl j _ (zD2 (ks := ks) (nx := σ.nx) h9)
    rw [← e, zEs (by omega)] at q1; omega
   ·rw [zEs (by omega), zEs (by omega)] at e; omega
  have hold : ∀ k ob, σ.hp k = some ob → (∀ j, j < os'.length → k ≠ zGp ks σ.nx (0 + j)) → k ∉ ks := fun k ob _ hn hm => by
   obtain ⟨i, hi, rfl⟩ := List.getElem_of_mem hm
   have hil : i < os'.length := by omega
   have := zD2 (ks := ks) (nx := σ.nx) hi
   rw [List.getElem?_eq_getElem hi] at this
   refine hn i hil ?_
   rw [Nat.zero_add]
   exact (Option.some.inj this)
  have hoth : ∀ k ob, σ.hp k = some ob → k ∉ ks → ∀ b, blk (β k) = some b → w'.heap[b]? = w.heap[b]? ∧ ¬ G' b ∧ ¬ (zEY c.P w β1 os.length G 0).mine b := fun k ob hk hn b hb => by
   have hx : ¬ (zEY c.P w β1 os.length G 0).X b := fun hx => by
    obtain ⟨k2, ob2, q1, q2, q3⟩ := hX b hx
    exact hc.inj k k2 ob ob2 hk q2 (fun e => hn (e ▸ q1)) b hb q3
   have hlt := hc.blk_lt hk hb
   have hm : ¬ (zEY c.P w β1 os.length G 0).mine b := fun hm => hm.elim hx (fun h => by simp only [zEY] at h; omega)
   exact ⟨h1.old b hlt hx, fun hg => (h3 b hg).elim (row_block (hc.hp k ob hk) b hb).1 hm, hm⟩
  refine { defers := hc.defers, size := hc.size, env := fun t => ((hc.env t).keep keep).beta hβ2 (hc.envlt t), envlt := fun t => AV.lt_mono (Nat.le_add_right _ _) (hc.envlt t), hp := fun k ob hk => ?_, hplt := fun k ob hk => ?_, inj := fun k k2 ob ob2 hk hk2 hne b hb hb2 => ?_, lt := h4, sub := fun b hb => h2 b (hc.sub b hb), new := fun b hb => (h3 b hb).elim (hc.new b) (fun h => .inr (hmine b h)), fr := ?_, stay := ⟨Nat.le_trans hc.stay.1 (Nat.le_add_right _ _), fun k hk => by rw [if_pos (Nat.lt_of_lt_of_le hk hc.stay.1)]; exact hc.stay.2 k hk⟩, glob := hc.glob.keep keep }
  ·rcases zFJ hk with ⟨j, ob0, q1, q2, rfl⟩ | ⟨q1, q2⟩
   ·rw [Nat.zero_add] at q2
    subst q2
    rw [hal j ob0 q1]
    refine ObAt.ren (fun i k hik => ?_) (fun b _ hm => hmine b hm) (h6.1 j ob0 q1).1
    obtain ⟨_, ⟨ob, hob⟩, rfl⟩ := zEz hik
    exact hal i ob (by simpa using hob)
   ·have hn := hold k ob q1 q2
    have hkl := (hc.hplt k ob q1)
    rw [if_pos hkl.1]
    have ho := hc.hp k ob q1
    cases ob with
    | box cells =>
     obtain ⟨b', e', cur, r1, r2, r3, r4, r5, r6⟩ := ho
     obtain ⟨s1, s2, _⟩ := hoth k _ q1 hn b' (by rw [r1]; rfl)
     exact ⟨b', e', cur, r1, by rw [s1]; exact r2, s2, r4, (r5.keep keep).beta hβ2 (by simpa [Ob.lt] using hkl.2), r6⟩
    | row e' sz rows =>
     obtain ⟨r0, r0', r1⟩ := ho
     refine ⟨r0, r0', r1.imp id ?_⟩
     rintro ⟨b', cap, cur, r1, r2, r3, r4, r5, r6, r7⟩
     obtain ⟨s1, s2, _⟩ := hoth k _ q1 hn b' (by rw [r1]; rfl)
     exact ⟨b', cap, cur, r1, r2, r3, by rw [s1]; exact r4, s2, r6, fun i s hi => let ⟨u, hu, hr⟩ := r7 i s hi; ⟨u, hu, hr.keep keep⟩⟩
    | arow e' sz rows => exact ho.moveA (fun b _ hb hx => by rw [(hoth k _ q1 hn b hb).1]; exact hx) (fun b _ hb _ _ => (hoth k _ q1 hn b hb).2.1) (fun _ _ h => h) (fun i x u hx hr => (hr.keep keep).beta hβ2 (zIv (by simpa [Ob.lt] using hkl.2) hx))
  ·rcases zFJ hk with ⟨j, ob0, q1, q2, rfl⟩ | ⟨q1, q2⟩
   ·rw [Nat.zero_add] at q2
    subst q2
    have hj : j < os'.length := (List.getElem?_eq_some_iff.1 q1).1
    exact ⟨hbk j hj, Ob.ren_lt fun i k hik => by obtain ⟨_, ⟨ob, hi⟩, rfl⟩ := zEz hik; exact hbk i (by simpa using (List.getElem?_eq_some_iff.1 hi).1)⟩
   ·obtain ⟨r1, r2⟩ := hc.hplt k ob q1
    refine ⟨Nat.lt_of_lt_of_le r1 (Nat.le_add_right _ _), ?_⟩
    cases ob with
    | box cells => exact AV.ltAll_mono (Nat.le_add_right _ _) (by simpa [Ob.lt] using r2)
    | row => rfl
    | arow => exact AV.ltAll_mono (Nat.le_add_right _ _) (by simpa [Ob.lt] using r2)
  ·rcases zFJ hk with ⟨j, ob0, q1, q2, rfl⟩ | ⟨q1, q2⟩ <;> rcases zFJ hk2 with ⟨j2, ob02, q12, q22, rfl⟩ | ⟨q12, q22⟩
   ·rw [Nat.zero_add] at q2 q22
    subst q2; subst q22
    rw [hal j ob0 q1] at hb
    rw [hal j2 ob02 q12] at hb2
    exact h6.2 j j2 ob0 ob02 q1 q12 (fun e => hne (by rw [e])) b hb hb2
   ·rw [Nat.zero_add] at q2
    subst q2
    rw [hal j ob0 q1] at hb
    rw [if_pos (hc.hplt k2 ob2 q12).1] at hb2
    exact (hoth k2 ob2 q12 (hold k2 ob2 q12 q22) b hb2).2.2 (row_block (h6.1 j ob0 q1).1 b hb).2
   ·rw [Nat.zero_add] at q22
    subst q22
    rw [hal j2 ob02 q12] at hb2
    rw [if_pos (hc.hplt k ob q1).1] at hb
    exact (hoth k ob q1 (hold k ob q1 q2) b hb).2.2 (row_block (h6.1 j2 ob02 q12).1 b hb2).2
   ·rw [if_pos (hc.hplt k ob q1).1] at hb
    rw [if_pos (hc.hplt k2 ob2 q12).1] at hb2
    exact hc.inj k k2 ob ob2 q1 q12 hne b hb hb2
  ·refine ⟨h1.os.trans hc.fr.os, h1.tape.trans hc.fr.tape, h1.output.trans hc.fr.output, Nat.le_trans hc.fr.size h1.size, fun b hb hx => (h1.old b (Nat.lt_of_lt_of_le hb hc.fr.size) (fun hm => ?_)).trans (hc.fr.old b hb hx)⟩
   rcases hmine b (.inl hm) with h | h
   ·exact hx h
   ·omega
theorem Conc.heaped (hc : Conc c G β σ a w) {G' : Nat → Prop} {β' : Nat → Value} {hp' : Nat → Option Ob} {n' : Nat} {w' : World} (h0 : σ.nx ≤ n') (h1 : Fr (zEq c.P w β σ.hp σ.nx G 0).X w w') (h2 : ∀ b, G b → G' b)
  (h3 : ∀ b, G' b → G b ∨ (zEq c.P w β σ.hp σ.nx G 0).mine b) (h4 : ∀ b, G' b → b < w'.heap.size) (h5 : HpAt (zEq c.P w β σ.hp σ.nx G 0) G' w' β' hp' n') (h6 : ∀ k, k < σ.nx → β' k = β k) : Conc c G' β' ⟨σ.env, hp', n'⟩ a w' := by
 have hm : ∀ b, (zEq c.P w β σ.hp σ.nx G 0).mine b → c.mine b := fun b hm => by
  rcases hm with ⟨k, ob, q1, q2⟩ | hm
  ·exact (row_block (hc.hp k ob q1) b q2).2
  ·exact .inr (Nat.le_trans hc.fr.size hm)
 have k : Keep G G' w w' := ⟨h2, fun b hb => h1.old b (hc.lt b hb) (fun ⟨k, ob, q1, q2⟩ => (row_block (hc.hp k ob q1) b q2).1 hb)⟩
 refine { defers := hc.defers, size := hc.size, env := fun t => ((hc.env t).keep k).beta h6 (hc.envlt t), envlt := fun t => AV.lt_mono h0 (hc.envlt t), hp := fun k ob hk => (h5.obs k ob hk).mv fun b _ hb => hm b hb, hplt := h5.lts, inj := h5.inj, lt := h4, sub := fun b hb => h2 b (hc.sub b hb), new := fun b hb => (h3 b hb).elim (hc.new b) (fun h => .inr (hm b h)), fr := ?_, stay := ⟨Nat.le_trans hc.stay.1 h0, fun k hk => (h6 k (Nat.lt_of_lt_of_le hk hc.stay.1)).trans (hc.stay.2 k hk)⟩, glob := hc.glob.keep k }
 refine ⟨h1.os.trans hc.fr.os, h1.tape.trans hc.fr.tape, h1.output.trans hc.fr.output, Nat.le_trans hc.fr.size h1.size, fun b hb hx => (h1.old b (Nat.lt_of_lt_of_le hb hc.fr.size) (fun hx' => ?_)).trans (hc.fr.old b hb hx)⟩
 rcases hm b (.inl hx') with h | h
 ·exact hx h
 ·omega
theorem Conc.hpAt (hc : Conc c G β σ a w) : HpAt (zEq c.P w β σ.hp σ.nx G 0) G w β σ.hp σ.nx :=
 ⟨fun k ob hk => (hc.hp k ob hk).mv fun b hb _ => .inl ⟨k, ob, hk, hb⟩, hc.hplt, hc.inj⟩
theorem zPJ {T : Nat → Option TI} {σ : St} (h : ∀ t, (σ.env t).lt σ.nx = true) : ∀ (xs : List Operand) (ts : List Nat), AV.ltAll σ.nx (opds T σ.env xs ts) = true
 | [], _ => rfl
 | x :: xs, ts => by
  simp only [opds, AV.ltAll, Bool.and_eq_true]
  exact ⟨AV.deep_lt (zOA h T _ x), zPJ h xs ts.tail⟩
theorem zOk {n : Nat} : ∀ {xs ys : List AV}, AV.ltAll n xs = true → AV.ltAll n ys = true → AV.ltAll n (xs ++ ys) = true
 | [], _, _, h => h
 | x :: xs, ys, h1, h2 => by
  simp only [List.cons_append, AV.ltAll, Bool.and_eq_true] at h1 ⊢
  exact ⟨h1.1, zOk h1.2 h2⟩
theorem AVals.setrow {G : Nat → Prop} {w : World} {β : Nat → Value} {k j : Nat} {v : Value} (hv : β j = v) (ho : ∃ o n c, v = .slice o n c) : ∀ {xs : List AV} {vs : List Value}, AVals G w β xs vs → vs[k]? = some v → AVals G w β (xs.set k (.orow j)) vs := fun {xs vs} h hk =>
 AVals.mk (by rw [List.length_set]; exact h.length) fun i x u hx hu => by
  rw [List.getElem?_set] at hx
  split at hx
  ·rename_i e
   subst e
   split at hx
   ·cases hx
    rw [hk] at hu; cases hu
    simp only [AVal]
    exact ⟨hv.symm, ho⟩
   ·cases hx
  ·obtain ⟨u', h1, h2⟩ := h.get hx
   rw [hu] at h1; cases h1; exact h2
theorem zOn {T : Nat → Option TI} (hc : Conc c G β σ a w) {nil : Option Nat} {o : Oper} {xs xs1 : List AV} {σ1 : St} {vs : List Value} (hargs : AVals G w β xs vs) (hlt : AV.ltAll σ.nx xs = true)
  (hvs : ∀ cal args ts (k : Nat) x, o.op = .call { callee := cal, args := args, argTypes := ts } → args.toList[k]? = some x → vs[k]? = some (a.eval x)) (h : zFO T nil o xs σ = (xs1, σ1)) :
  ∃ β1, Conc c G β1 σ1 a w ∧ AVals G w β1 xs1 vs := by
 unfold zFO at h
 split at h
 ·cases h; exact ⟨β, hc, hargs⟩
 ·rename_i k
  split at h
  ·rename_i cal args ts ho
   split at h
   ·rename_i x e j hx he
    split at h
    ·rename_i hn hs
     cases h
     have hv := hvs _ _ _ k x ho hx
     have hy : a.eval x = .slice none 0 0 := by
      unfold zC3 at hn
      split at hn
      ·rfl
      ·cases hn
     rw [hy] at hv
     obtain ⟨β', b1, b2, b3⟩ := hc.make (ob := .row e j.size []) (v := .slice none 0 0) ⟨fun r hr => (by cases hr), Nat.le_of_ble_eq_true hs, .inl ⟨rfl, rfl⟩⟩ rfl (fun _ _ _ b hb => by cases hb)
     exact ⟨β', b3, AVals.setrow b2 ⟨_, _, _, rfl⟩ (hargs.beta b1 hlt) hv⟩
    ·cases h; exact ⟨β, hc, hargs⟩
   ·cases h; exact ⟨β, hc, hargs⟩
  ·cases h; exact ⟨β, hc, hargs⟩
theorem zJ7 {T : Nat → Option TI} {Γ : Nat → Option zAy} (hT : TOk c.P T) (hΓ : ∀ f s, Γ f = some s → PSound c.P f s) (hc : Conc c G β σ a w) {o : Oper} {own : Bool} {K0 : AV → St → Prop} (h : zFD T Γ own o σ K0) {K : Act → World → Prop} {Q : Exit → Act → World → Prop}
  (hK : ∀ x σ' G' β' w' v, K0 x σ' → Conc c G' β' σ' a w' → AVal G' w' β' x v → x.lt σ'.nx = true → K (a.put o.dst v) w') : o.wp c.P a w K Q := by
 have hρ : ∀ ty x, AVal G w β (opd T σ.env ty x) (a.eval x) := zGC hc T
 unfold zFD at h
 split at h
 ·unfold zHw at h
  split at h
  ·rename_i t y ho
   split at h
   ·rename_i k sz i off e
    split at h
    ·rename_i e' sz' rows hh
     split at h
     ·rename_i hsz
      obtain rfl := Nat.eq_of_beq_eq_true hsz
      obtain ⟨hi, row, hrow, h⟩ := h
      split at h
      ·rename_i x hl
       rw [← hrow] at hl
       exact zUi hT hc ho e hh hi hl fun v h1 h2 => hK x σ G β w v h hc h1 h2
      ·exact h.elim
     ·exact h.elim
    ·rename_i e' sz' rows hh
     split at h
     ·rename_i hsz
      obtain rfl := Nat.eq_of_beq_eq_true hsz
      obtain ⟨hi, row, hrow, h⟩ := h
      split at h
      ·rename_i x hl
       rw [← hrow] at hl
       exact zS9 hT hc ho e hh hi hl fun v h1 h2 => hK x σ G β w v h hc h1 h2
      ·exact h.elim
     ·exact h.elim
    ·exact h.elim
   ·exact h.elim
  ·exact h.elim
 ·rename_i g xs hraw
  unfold zCD at hraw
  split at hraw
  ·rename_i f args ts ho
   have hpre : ∃ vs : List Value, AVals G w β xs vs ∧ AV.ltAll σ.nx xs = true ∧ (∀ cal args ts (k : Nat) x, o.op = .call { callee := cal, args := args, argTypes := ts } → args.toList[k]? = some x → vs[k]? = some (a.eval x)) ∧ ∀ (hcall : ∀ args w, (callFunc g args).run c.P w = .ok (.enter g args) w), (execOp a.eval o).run c.P w = .ok (.enter g vs.toArray) w := by
    have hargs := zM3 hρ args.toList ts.toList
    split at hraw
    ·rename_i g' e
     cases hraw
     have hfe := hρ 0 f
     rw [e] at hfe
     simp only [AVal, Rep] at hfe
     refine ⟨_, hargs, zPJ hc.envlt _ _, fun cal args' ts' k x ho' hx => by rw [ho] at ho'; cases ho'; rw [List.getElem?_map, hx]; rfl, fun hcall => ?_⟩
     have e : (args.toList.map a.eval).toArray = args.map a.eval := Array.ext' (by simp)
     rw [e]
     simp [execOp, ho, resolve, hfe, Deferred.ofValue, invoke, hcall]
    ·rename_i g' caps e
     cases hraw
     have hfe := hρ 0 f
     rw [e] at hfe
     simp only [AVal] at hfe
     obtain ⟨cs, hfe, hcs⟩ := hfe
     have hcl : (opd T σ.env 0 f).lt σ.nx = true := zOA hc.envlt T 0 f
     rw [e] at hcl
     simp only [AV.lt] at hcl
     refine ⟨args.toList.map a.eval ++ cs, hargs.append hcs, zOk (zPJ hc.envlt _ _) hcl, fun cal args' ts' k x ho' hx => by
      rw [ho] at ho'; cases ho'
      have hk : k < (args.toList.map a.eval).length := by rw [List.length_map]; exact (List.getElem?_eq_some_iff.1 hx).1
      rw [List.getElem?_append_left hk, List.getElem?_map, hx]; rfl, fun hcall => ?_⟩
     have e : (args.toList.map a.eval ++ cs).toArray = args.map a.eval ++ cs.toArray := Array.ext' (by simp)
     rw [e]
     simp [execOp, ho, resolve, hfe, Deferred.ofValue, invoke, hcall]
    ·cases hraw
   obtain ⟨vs, hargs, hxl, hvs, hex⟩ := hpre
   ·clear hraw
    split at h
    ·exact h.elim
    ·rename_i s hs
     obtain ⟨hcall, zOc, hown, hheap⟩ := hΓ g s hs
     have hexec := hex hcall
     unfold Oper.wp
     rw [hexec]
     simp only [Oper.upon_enter]
     split at h
     ·rename_i R hR
      obtain ⟨Φ, hΦ, h⟩ := h
      refine (hheap R hR G w β xs vs σ.hp σ.nx Φ hc.lt hc.glob hargs hxl hc.hpAt hΦ).mono fun e w' he => ?_
      obtain ⟨v, G', β', x, hp', n', rfl, q1, q2, q3, q4, q5, q6, q7, q8, q9, q10⟩ := he
      exact hK x _ G' β' w' v (h x hp' n' q1) (hc.heaped q2 q3 q4 q5 q6 q9 q10) q7 q8
     split at h
     ·split at h
      ·exact h.elim
      ·rename_i hp
       obtain ⟨r, hr, h⟩ := h
       have hl := AVals.lend hc (ks := AV.keysAll xs) (fun _ h => h) hargs
       refine (zOc (zPz G β σ (AV.keysAll xs)) w _ _ r (hc.giveAll (AV.keysAll xs)).lt (hc.giveAll (AV.keysAll xs)).glob hp (AVals.pers hp hl) hr).mono fun e w' he => ?_
       obtain ⟨v, G', rfl, h1, h2⟩ := he
       cases hfl : r.flat with
       | true =>
        rw [hfl] at h
        dsimp only at h
        split at h
        ·exact h.elim
        ·rename_i x σ' hx
         have hext : Ext G G w w' := ⟨h1.os, h1.tape, h1.output, h1.size, h1.old, fun _ h => h, fun _ h => .inl h, fun b hb => Nat.lt_of_lt_of_le (hc.lt b hb) h1.size⟩
         exact zHo hc hext (RetAt.flat (G1 := G) (fun b hb => h1.sub b (.inl hb)) hfl h2) hx fun G' β' w'' v' e1 e2 h3 h4 h5 => by subst e1; subst e2; exact hK x σ' G' β' _ _ h h3 h4 h5
       | false =>
        rw [hfl] at h
        dsimp only at h
        split at h
        ·exact h.elim
        ·rename_i x σ' hx
         exact zHo (hc.giveAll (AV.keysAll xs)) h1 h2 hx fun G' β' w'' v' e1 e2 h3 h4 h5 => by subst e1; subst e2; exact hK x σ' G' β' _ _ h h3 h4 h5
     ·rename_i R hR
      cases hna : zFO T s.nil o xs σ with
      | mk xs1 σ1 =>
      rw [hna] at h
      dsimp only at h
      obtain ⟨β1, hc1, hargs1⟩ := zOn hc hargs hxl hvs hna
      clear hna hargs hxl hc hρ
      revert hc1 hargs1 h
      generalize σ1 = σ
      generalize β1 = β
      generalize xs1 = xs
      intro h hc hargs
      generalize zDm σ.hp 64 (AV.keysAll xs) [] = ks at h
      split at h
      ·rename_i os hd hos
       obtain ⟨x, os', hR', h⟩ := h
       obtain ⟨l1, l2⟩ := zOo hos
       have hb : ∀ k j, look k (zipI 0 ks) = some j → (fun i => β (ks.getD i 0)) j = β k := fun k j hkj => by
        obtain ⟨_, h2⟩ := zKm hkj
        simp only [Nat.sub_zero] at h2
        simp [h2]
       have hlt : ∀ k j, look k (zipI 0 ks) = some j → j < os.length := fun k j hkj => by
        obtain ⟨_, h2⟩ := zKm hkj
        rw [l1]; simpa using (List.getElem?_eq_some_iff.1 h2).1
       have hget : ∀ (i : Nat) k, ks[i]? = some k → (fun i => β (ks.getD i 0)) i = β k := fun i k hk => by simp [hk]
       have hnod := zHa hd
       have hobs : zRh (zEY c.P w (fun i => β (ks.getD i 0)) os.length G 0) G w (fun i => β (ks.getD i 0)) (os.map some) := by
        have hk : ∀ (i : Nat) ob, (os.map some)[i]? = some (some ob) → ∃ k o, ks[i]? = some k ∧ σ.hp k = some o ∧ ob = o.ren (zipI 0 ks) := fun i ob hi => by
         rw [List.getElem?_map] at hi
         obtain ⟨ob', hi', e⟩ := Option.map_eq_some_iff.1 hi
         cases e
         have hil : i < ks.length := by rw [← l1]; exact (List.getElem?_eq_some_iff.1 hi').1
         obtain ⟨o, q1, q2⟩ := l2 i _ (List.getElem?_eq_getElem hil)
         rw [hi'] at q2; cases q2
         exact ⟨_, o, List.getElem?_eq_getElem hil, q1, rfl⟩
        refine ⟨fun i ob hi => ?_, fun i j ob ob' hi hj hne b hb1 hb2 => ?_⟩
        ·obtain ⟨k, o, q1, q2, rfl⟩ := hk i ob hi
         rw [hget i k q1]
         refine ⟨ObAt.ren hb (fun b hb' _ => .inl ⟨i, by rw [l1]; exact (List.getElem?_eq_some_iff.1 q1).1, by have := hget i k q1; dsimp only at this ⊢; rw [this]; exact hb'⟩) (hc.hp k o q2), ?_⟩
         rw [List.length_map]
         exact Ob.ren_lt hlt
        ·obtain ⟨k, o, q1, q2, rfl⟩ := hk i ob hi
         obtain ⟨k', o', q1', q2', rfl⟩ := hk j ob' hj
         rw [hget i k q1] at hb1
         rw [hget j k' q1'] at hb2
         refine hc.inj k k' o o' q2 q2' (fun e => hne ?_) b hb1 hb2
         subst e
         exact (List.getElem?_inj (List.getElem?_eq_some_iff.1 q1).1 hnod).1 (q1.trans q1'.symm)
       refine (hown R hR G w _ _ _ os x os' hc.lt hc.glob (AVals.ren hb hargs) (AV.renAll_lt hlt) hobs hR').mono fun e w' he => ?_
       obtain ⟨v, G', β', rfl, h1, h2, h3, h4, h5, h6, h7, h8, h9⟩ := he
       obtain ⟨β2, r1, r2, r3⟩ := hc.handed hnod (fun i k hk => (l2 i k hk).imp fun o h => h.1) l1 hget h1 h2 h3 h4 h7 h8 h9
       exact hK _ _ G' β2 w' v h r3 (AVal.ren r1 h5) (AV.ren_lt fun i k hik => by
        obtain ⟨_, ⟨ob, hob⟩, rfl⟩ := zEz hik
        rw [Nat.sub_zero] at hob
        have hj : i < os'.length := (List.getElem?_eq_some_iff.1 hob).1
        show zGp ks σ.nx i < σ.nx + (os'.length - ks.length)
        by_cases hi : i < ks.length
        ·have hb' := zD2 (ks := ks) (nx := σ.nx) hi
         obtain ⟨o, q1, _⟩ := l2 i _ hb'
         have := (hc.hplt _ o q1).1; omega
        ·rw [zEs (by omega)]; omega)
      ·exact h.elim
  ·cases hraw
end
end Go.Abs
namespace Go.Abs
theorem zRt {x : AV} {n : Nat} (h : x.lt n = true) : AV.ltAll n x.cellsA = true := by
 cases x <;> simp only [AV.cellsA, AV.nrm, AV.ltAll, Bool.and_true] <;> first | exact h | rfl | simpa only [AV.lt] using h
theorem zI9 {n : Nat} {xs ys : List AV} (h1 : AV.ltAll n xs = true) (h2 : AV.ltAll n ys = true) : AV.ltAll n (xs ++ ys) = true :=
 zC4 fun q y hq => by
  rw [List.getElem?_append] at hq
  split at hq
  ·exact zBs h1 hq
  ·exact zBs h2 hq
theorem zLR {n : Nat} {xs : List AV} (h : AV.ltAll n xs = true) (k : Nat) : AV.ltAll n (xs.take k) = true :=
 zC4 fun q y hq => by
  rw [List.getElem?_take] at hq
  split at hq
  ·exact zBs h hq
  ·cases hq
theorem zLQ {n : Nat} {xs : List AV} (h : AV.ltAll n xs = true) (k : Nat) : AV.ltAll n (xs.drop k) = true :=
 zC4 fun q y hq => by
  rw [List.getElem?_drop] at hq
  exact zBs h hq
theorem zP6 {T : Nat → Option TI} {env : Nat → AV} {n : Nat} (h : ∀ ty x, (opd T env ty x).lt n = true) {place : Nat → Option (Nat × Nat)} : ∀ {parts : List (Nat × Operand)} {cells xs : List AV}, zJq T env place cells parts = some xs → AV.ltAll n cells = true → AV.ltAll n xs = true
 | [], cells, xs, hf, hc => by simp only [zJq, Option.some.injEq] at hf; subst hf; exact hc
 | (j, x) :: r, cells, xs, hf, hc => by
  simp only [zJq, zDh] at hf
  split at hf
  ·cases hf
  ·split at hf
   ·cases hf
   ·split at hf
    ·exact zP6 h hf (zI9 (zI9 (zLR hc _) (zRt (h _ _))) (zLQ hc _))
    ·cases hf
theorem zQl {T : Nat → Option TI} {t : Nat} {xs : List AV} {off n : Nat} {y : AV} (h : zQ4 T t xs off = some y) (hx : AV.ltAll n xs = true) : y.lt n = true := by
 unfold zQ4 at h
 split at h
 ·cases h
 ·split at h
  ·split at h
   ·cases h; simp only [AV.lt]; exact zLR (zLQ hx _) _
   ·cases h
  ·exact zBs hx h
theorem zQj {x y : AV} {off n : Nat} (h : zLi x off = some y) (hx : x.lt n = true) : y.lt n = true := by
 unfold zLi at h
 split at h <;> cases h <;> first | rfl | (simp only [AV.lt] at hx ⊢; exact hx)
theorem zRY {T : Nat → Option TI} {t f n : Nat} {x y : AV} {φ : Option Prop} (h : zOF T t x f = some (φ, y)) (hx : x.lt n = true) : y.lt n = true := by
 unfold zOF at h
 split at h
 ·simp only [AV.lt] at hx
  split at h
  ·split at h
   ·split at h
    ·rename_i hp; cases h; exact zQl hp hx
    ·cases h
   ·cases h
  ·cases h
 ·cases h
theorem zRZ {T : Nat → Option TI} {t n : Nat} {x i y : AV} {φ : Option Prop} (h : zOG T t x i = some (φ, y)) (hx : x.lt n = true) : y.lt n = true := by
 unfold zOG at h
 split at h
 ·split at h <;> cases h; rfl
 ·simp only [AV.lt] at hx
  split at h
  ·split at h
   ·split at h
    ·rename_i hp; cases h; exact zQl hp hx
    ·cases h
   ·cases h
  ·cases h
 ·cases h
theorem zM4 {T : Nat → Option TI} {t n : Nat} {x i y : AV} {φ : Option Prop} (h : zEC T t x i = some (φ, y)) (hx : x.lt n = true) : y.lt n = true := by
 unfold zEC at h
 split at h
 ·split at h
  ·split at h
   ·split at h <;> cases h; rfl
   ·cases h
  ·split at h
   ·split at h
    ·rename_i hp; cases h; exact zQj hp hx
    ·cases h
   ·cases h
  ·cases h
 ·cases h
theorem zTl {T : Nat → Option TI} {own : Bool} {o : Oper} {σ : St} {φ : Option Prop} {x : AV} (hl : ∀ t, (σ.env t).lt σ.nx = true) (h : zCC T own o σ.env = some (φ, x)) : x.lt σ.nx = true := by
 have ho : ∀ ty x, (opd T σ.env ty x).lt σ.nx = true := zOA hl T
 unfold zCC at h
 split at h
 case h_1 => split at h <;> cases h; exact AV.nrm_lt (ho _ _)
 case h_2 => split at h <;> cases h; exact AV.nrm_lt (ho _ _)
 case h_3 => split at h <;> cases h <;> exact AV.nrm_lt (ho _ _)
 case h_4 =>
  split at h
  ·cases h
  ·split at h <;> cases h; rfl
 case h_5 =>
  repeat' split at h
  all_goals cases h
  rfl
 case h_6 =>
  unfold zQk at h
  repeat' split at h
  all_goals cases h
  all_goals (rename_i hf; simp only [AV.lt]; exact zP6 ho hf (zKY _))
 case h_7 =>
  repeat' split at h
  all_goals cases h
  rename_i hf; exact zMI hf
 case h_8 y _ =>
  have := ho 0 y
  split at h <;> cases h <;> first | rfl | (rename_i e; rw [e] at this; exact this)
 case h_9 =>
  unfold pBin at h
  split at h
  ·rename_i r0 h0
   cases h
   unfold zTg pInt pStr at h0
   repeat' split at h0
   all_goals first | (cases h0; rfl) | cases h0
  ·unfold pArr at h
   repeat' split at h
   all_goals first | (cases h; rfl) | cases h
 case h_10 =>
  unfold pUn at h
  split at h <;> cases h <;> rfl
 case h_11 =>
  unfold zTh at h
  repeat' split at h
  all_goals first | (cases h; rfl) | cases h
 case h_12 =>
  split at h <;> cases h
  ·rfl
  ·simp only [AV.lt]
   refine zC4 fun q y hq => ?_
   rw [List.getElem?_map] at hq
   obtain ⟨z, _, rfl⟩ := Option.map_eq_some_iff.1 hq
   exact ho _ _
 case h_13 =>
  split at h
  ·split at h
   ·unfold zM5 at h
    repeat' split at h
    all_goals first | (cases h; rfl) | cases h
   ·unfold zKC at h
    repeat' split at h
    all_goals first | (cases h; rfl) | cases h
  ·unfold zKC at h
   repeat' split at h
   all_goals first | (cases h; rfl) | cases h
 case h_14 =>
  unfold zFR at h
  repeat' split at h
  all_goals first | (cases h; rename_i hp; exact zQj hp (ho _ _)) | cases h
 case h_15 t y f _ => exact zRY h (ho t y)
 case h_16 => exact zM4 h (AV.nrm_lt (ho _ _))
 case h_17 => exact zRZ h (ho _ _)
 case h_18 y i _ =>
  have := ho 0 y
  split at h
  ·rename_i xs e
   split at h
   ·rename_i hz
    cases h
    rw [e] at this
    simp only [AV.lt] at this
    exact zBs this hz
   ·cases h
  ·cases h
 case h_19 =>
  split at h
  ·unfold pLen at h
   split at h <;> first | (cases h; rfl) | cases h
  ·cases h
 case h_20 =>
  unfold pMin at h
  repeat' split at h
  all_goals first | (cases h; rfl) | cases h
 case h_21 =>
  unfold pMin at h
  repeat' split at h
  all_goals first | (cases h; rfl) | cases h
 case h_22 =>
  split at h
  ·unfold zRX at h
   repeat' split at h
   all_goals first | (cases h; rfl) | cases h
  ·cases h
 case h_23 =>
  split at h
  ·unfold pCap at h
   repeat' split at h
   all_goals first | (cases h; rfl) | cases h
  ·cases h
 all_goals cases h
def zB7 (T : Nat → Option TI) (own : Bool) (o : Oper) (σ : St) : Option (Option Prop × AV × St) :=
 match zDk T own o σ with
 | some r => some r
 | none => zCS T o σ
def step1 (T : Nat → Option TI) (own : Bool) (o : Oper) (σ : St) : Option (Option Prop × AV × St) :=
 match zCC T own o σ.env with
 | some (φ, x) => some (φ, x, σ)
 | none => zB7 T own o σ
theorem zIH {c : Cx} {T : Nat → Option TI} {G : Nat → Prop} {β : Nat → Value} {σ σ' : St} {a : Act} {w : World} (hT : TOk c.P T)
  (hc : Conc c G β σ a w) {own : Bool} {o : Oper} {φ : Option Prop} {x : AV} (h : step1 T own o σ = some (φ, x, σ')) (hφ : φ.getD True) (hd : ∀ t, o.dst = some t → t < c.N) {K : Act → World → Prop} {Q : Exit → Act → World → Prop}
  (hK : ∀ G' β' a' w', Conc c G' β' (σ'.put o.dst x) a' w' → K a' w') : o.wp c.P a w K Q := by
 unfold step1 at h
 split at h
 ·rename_i φ' x' hp
  cases h
  exact zUP hT hc hp hφ fun G' w' v he hv => hK G' β _ w' ((hc.ext he).put hd hv (zTl hc.envlt hp))
 ·unfold zB7 at h
  split at h
  ·rename_i hl
   cases h
   exact zUK hT hc hl hφ fun G' β' w' v h1 h2 h3 => hK G' β' _ w' (h1.put hd h2 h3)
  ·exact zUD hT hc h hφ fun β' w' v h1 h2 h3 => hK G β' _ w' (h1.put hd h2 h3)
mutual
def forced : AV → (AV → Prop) → Prop
 | .s (.int k n), K => K (.s (.int k n))
 | .s (.bool b), K => K (.s (.bool b))
 | .s (.str l), K => K (.s (.str l))
 | .s (.sl sz rows), K => K (.s (.sl sz rows))
 | .s .np, K => K (.s .np)
 | .s (.pt row), K => K (.s (.pt row))
 | .s (.fn f), K => K (.s (.fn f))
 | .s .nf, K => K (.s .nf)
 | .nl sz, K => K (.nl sz)
 | .agg xs, K => zFI xs fun ys => K (.agg ys)
 | .tup xs, K => zFI xs fun ys => K (.tup ys)
 | .op k o, K => K (.op k o)
 | .orow k, K => K (.orow k)
 | .rp k sz i o, K => K (.rp k sz i o)
 | .clo f xs, K => zFI xs fun ys => K (.clo f ys)
 | .junk, K => K .junk
def zFI : List AV → (List AV → Prop) → Prop
 | [], K => K []
 | x :: xs, K => forced x fun y => zFI xs fun ys => K (y :: ys)
end
mutual
theorem zH3 : ∀ (x : AV) (K : AV → Prop), forced x K = K x
 | .s (.int k n), K => rfl
 | .s (.bool b), K => rfl
 | .s (.str l), K => rfl
 | .s (.sl sz rows), K => rfl
 | .s .np, K => rfl
 | .s (.pt row), K => rfl
 | .s (.fn f), K => rfl
 | .s .nf, K => rfl
 | .nl sz, K => rfl
 | .agg xs, K => by simp only [forced]; exact zFe xs _
 | .tup xs, K => by simp only [forced]; exact zFe xs _
 | .op k o, K => rfl
 | .orow k, K => rfl
 | .rp k sz i o, K => rfl
 | .clo f xs, K => by simp only [forced]; exact zFe xs _
 | .junk, K => rfl
theorem zFe : ∀ (xs : List AV) (K : List AV → Prop), zFI xs K = K xs
 | [], K => rfl
 | x :: xs, K => by
  simp only [zFI]
  rw [zH3 x]
  exact zFe xs _
end
def named (x : AV) (K : AV → Prop) : Prop :=
 match x with
 | .s (.bool b) => ∀ b', b' = b → K (.s (.bool b'))
 | .s (.int k n) => ∀ n', n' = n → K (.s (.int k n'))
 | .s (.pt r) => ∀ r', r' = r → K (.s (.pt r'))
 | .s (.str l) => ∀ l', l' = l → K (.s (.str l'))
 | .s (.sl sz rows) => ∀ rows', rows' = rows → K (.s (.sl sz rows'))
 | x => forced x K
theorem zRR {x : AV} {K : AV → Prop} (h : named x K) : K x := by
 unfold named at h
 split at h <;> first | exact h _ rfl | exact (zH3 _ K) ▸ h
def St.putN (σ : St) (d : Nat) (x : AV) : St := { σ with env := fun t => bif Nat.beq t d then x else σ.env t }
def lay (nm : Bool) (d : Option Nat) (x : AV) (σ : St) (K : St → Prop) : Prop :=
 match d with
 | none => K σ
 | some d => match nm with
  | true => named x fun y => K (σ.putN d y)
  | false => forced x fun y => K (σ.putN d y)
theorem zFr {nm : Bool} {d : Option Nat} {x : AV} {σ : St} {K : St → Prop} (h : lay nm d x σ K) : K (σ.put d x) := by
 unfold lay at h
 split at h
 ·exact h
 ·split at h
  ·exact zRR h
  ·rw [zH3] at h; exact h
def andO (φ : Option Prop) (K : Prop) : Prop :=
 match φ with
 | none => K
 | some p => p ∧ K
theorem zMu {φ : Option Prop} {K : Prop} (h : andO φ K) : φ.getD True ∧ K := by
 cases φ with
 | none => exact ⟨trivial, h⟩
 | some p => exact h
def inL (t : Nat) : List Nat → Bool
 | [] => false
 | x :: xs => Nat.beq t x || inL t xs
def dIn (d : Option Nat) (l : List Nat) : Bool := match d with | some t => inL t l | none => false
theorem zO4 {G : Nat → Prop} {w : World} {β : Nat → Value} : AVal G w β (.tup []) undef := by
 simp only [AVal]
 exact ⟨[], rfl, by simp only [AVals]⟩
def nilQ (T : Nat → Option TI) (o : Oper) (env : Nat → AV) : Option (List (List S)) :=
 match o.op with
 | .binOp .eql t x y _ => match zC3 y with
  | true => match tk T t, opd T env t x with
   | .slice _, .s (.sl _ rows) => some rows
   | _, _ => none
  | false => none
 | _ => none
theorem zPU {P : Program} (w : World) (t e : TypeId) (a : Option Addr) (l c : Nat) (h : P.underlying t = some (.slice e)) : (binOp .eql t (.slice a l c) (.slice none 0 0)).run P w = .ok (.bool a.isNone) w := by
 have h1 : ∀ d, (Op.equalIn (d + 1) t (.slice a l c) (.slice none 0 0)).run P w = .ok a.isNone w := fun d => by cases a <;> simp [Op.equalIn, zAf w h]
 have h2 : (Op.equal t (.slice a l c) (.slice none 0 0)).run P w = .ok a.isNone w := h1 9999
 simp [binOp, h2]
theorem zQV {c : Cx} {T : Nat → Option TI} {G : Nat → Prop} {β : Nat → Value} {σ : St} {a : Act} {w : World} (hT : TOk c.P T) (hc : Conc c G β σ a w) {o : Oper} {rows : List (List S)} (h : nilQ T o σ.env = some rows) {K : Act → World → Prop} {Q : Exit → Act → World → Prop}
  (hK : ∀ b : Bool, (b = true → rows = []) → K (a.put o.dst (.bool b)) w) : o.wp c.P a w K Q := by
 unfold nilQ at h
 split at h
 ·rename_i t x y u ho
  split at h
  ·rename_i hn
   split at h
   ·rename_i e sz rows' hk hx
    cases h
    obtain ⟨d, hd, e1⟩ := zDw hT hk (by simp)
    cases d <;> simp only [tkOf, reduceCtorEq, TK.slice.injEq] at e1
    have hy : a.eval y = .slice none 0 0 := by
     unfold zC3 at hn
     split at hn
     ·rfl
     ·cases hn
    have hv := zGC hc T t x
    rw [hx] at hv
    simp only [AVal, Rep] at hv
    have key : ∃ o n cp, a.eval x = .slice o n cp ∧ (o.isNone = true → rows = []) := by
     rcases hv with ⟨h1, o, cp, h2⟩ | ⟨b, off, cp, h1, _⟩
     ·exact ⟨o, 0, cp, h2, fun _ => h1⟩
     ·exact ⟨_, _, cp, h1, fun h => by cases h⟩
    obtain ⟨ob, n, cp, h1, h2⟩ := key
    refine zBb (v := .bool ob.isNone) ?_ (hK _ h2)
    simp only [execOp, ho, h1, hy]
    simp [eqGuard, zPU w t _ ob n cp hd]
   ·cases h
  ·cases h
 ·cases h
def zDQ (T : Nat → Option TI) (Γ : Nat → Option zAy) (M nm : List Nat) (N : Nat) (all : List Oper) : List Oper → St → (St → Prop) → Prop
 | [], σ, K => K σ
 | o :: os, σ, K =>
  match (match o.dst with | some t => Nat.blt t N | none => true) with
  | false => False
  | true =>
   let run : Prop := match callOf T Γ o σ.env with
    | some (_, s, xs) => ∃ r, s.spec xs r ∧ match zBD (dIn o.dst M) σ r with
     | none => False
     | some (x, σ') => lay (dIn o.dst nm) o.dst x σ' fun σ'' => zDQ T Γ M nm N all os σ'' K
    | none => match step1 T (dIn o.dst M) o σ with
     | none => match nilQ T o σ.env with
      | some rows => ∀ b : Bool, (b = true → rows = []) → lay (dIn o.dst nm) o.dst (.s (.bool b)) σ fun σ'' => zDQ T Γ M nm N all os σ'' K
      | none => zFD T Γ (dIn o.dst M) o σ fun x σ' => lay (dIn o.dst nm) o.dst x σ' fun σ'' => zDQ T Γ M nm N all os σ'' K
     | some (φ, x, σ') => andO φ (lay (dIn o.dst nm) o.dst x σ' fun σ'' => zDQ T Γ M nm N all os σ'' K)
   match o.guard with
   | none => run
   | some (j, want) => match (all[j]?).bind (·.dst) with
    | some g => match σ.env g with
     | .s (.bool true) => match want with | true => run | false => lay false o.dst (.tup []) σ fun σ'' => zDQ T Γ M nm N all os σ'' K
     | .s (.bool false) => match want with | false => run | true => lay false o.dst (.tup []) σ fun σ'' => zDQ T Γ M nm N all os σ'' K
     | .tup [] => lay false o.dst (.tup []) σ fun σ'' => zDQ T Γ M nm N all os σ'' K
     | _ => False
    | none => False
theorem zIJ {c : Cx} {G : Nat → Prop} {β : Nat → Value} {σ : St} {a : Act} {w : World} (hc : Conc c G β σ a w) {ops : Array Oper} {j g : Nat} {b : Bool} (hj : (ops[j]?).bind (·.dst) = some g) (hg : g < c.N)
  (hb : σ.env g = .s (.bool b)) : yielded ops a.tmps j = some b := by
 have h1 := hc.env g
 rw [hb] at h1
 simp only [AVal, Rep] at h1
 have h2 : a.tmps[g]? = some (.bool b) := by
  have hlt : g < a.tmps.size := by rw [hc.size]; exact hg
  rw [Array.getElem?_eq_getElem hlt]
  rw [Array.getD_eq_getD_getElem?, Array.getElem?_eq_getElem hlt] at h1
  simpa using h1
 simp [yielded, hj, h2]
theorem zJj {c : Cx} {G : Nat → Prop} {β : Nat → Value} {σ : St} {a : Act} {w : World} (hc : Conc c G β σ a w) {ops : Array Oper} {j g : Nat} (hj : (ops[j]?).bind (·.dst) = some g) (hg : g < c.N)
  (hb : σ.env g = .tup []) : yielded ops a.tmps j = none := by
 have h1 := hc.env g
 rw [hb] at h1
 simp only [AVal] at h1
 obtain ⟨vs, h1, h2⟩ := h1
 simp only [AVals] at h2
 subst h2
 have h3 : a.tmps[g]? = some (.tuple #[]) := by
  have hlt : g < a.tmps.size := by rw [hc.size]; exact hg
  rw [Array.getElem?_eq_getElem hlt]
  rw [Array.getD_eq_getD_getElem?, Array.getElem?_eq_getElem hlt] at h1
  simpa using h1
 simp [yielded, hj, h3]
theorem zDW {c : Cx} {T : Nat → Option TI} {Γ : Nat → Option zAy} {M nm : List Nat} (hT : TOk c.P T) (hΓ : ∀ f s, Γ f = some s → PSound c.P f s) {all : List Oper} {Q : Exit → Act → World → Prop} {K : St → Prop}
  (hK : ∀ σ G β a w, K σ → Conc c G β σ a w → Q .normal a w) (hN : ∀ (j g : Nat), (all[j]?).bind (fun o => o.dst) = some g → g < c.N) :
  ∀ (os : List Oper) (σ : St) (G : Nat → Prop) (β : Nat → Value) (a : Act) (w : World), zDQ T Γ M nm c.N all os σ K → Conc c G β σ a w → wpList c.P all.toArray Q os a w
 | [], σ, G, β, a, w, h, hc => hK σ G β a w h hc
 | o :: os, σ, G, β, a, w, h, hc => by
  unfold zDQ at h
  split at h
  ·exact h.elim
  ·rename_i hdst
   have hd : ∀ t, o.dst = some t → t < c.N := fun t ht => by
    rw [ht] at hdst
    exact Nat.le_of_ble_eq_true hdst
   have hrun : (match callOf T Γ o σ.env with
    | some (_, s, xs) => ∃ r, s.spec xs r ∧ match zBD (dIn o.dst M) σ r with
     | none => False
     | some (x, σ') => lay (dIn o.dst nm) o.dst x σ' fun σ'' => zDQ T Γ M nm c.N all os σ'' K
    | none => match step1 T (dIn o.dst M) o σ with
     | none => match nilQ T o σ.env with
      | some rows => ∀ b : Bool, (b = true → rows = []) → lay (dIn o.dst nm) o.dst (.s (.bool b)) σ fun σ'' => zDQ T Γ M nm c.N all os σ'' K
      | none => zFD T Γ (dIn o.dst M) o σ fun x σ' => lay (dIn o.dst nm) o.dst x σ' fun σ'' => zDQ T Γ M nm c.N all os σ'' K
     | some (φ, x, σ') => andO φ (lay (dIn o.dst nm) o.dst x σ' fun σ'' => zDQ T Γ M nm c.N all os σ'' K)) → o.wp c.P a w (wpList c.P all.toArray Q os) Q := fun h => by
    split at h
    ·rename_i g s xs hco
     obtain ⟨r, hr, h⟩ := h
     split at h
     ·exact h.elim
     ·rename_i x σ' hx
      refine zLE hΓ hc hco hr hx fun G' β' w' v h1 h2 h3 => zDW (M := M) (nm := nm) hT hΓ hK hN os _ G' β' _ w' (zFr h) (h1.put hd h2 h3)
    ·split at h
     ·split at h
      ·rename_i rows hq
       exact zQV hT hc hq fun b hb => zDW (M := M) (nm := nm) hT hΓ hK hN os _ G β _ w (zFr (h b hb)) (hc.put hd (by simp only [AVal, Rep]) rfl)
      ·exact zJ7 hT hΓ hc h fun x σ' G' β' w' v hk h1 h2 h3 => zDW (M := M) (nm := nm) hT hΓ hK hN os _ G' β' _ w' (zFr hk) (h1.put hd h2 h3)
     ·rename_i φ x σ' hs
      obtain ⟨h1, h2⟩ := zMu h
      refine zIH hT hc hs h1 hd fun G' β' a' w' hc' => zDW (M := M) (nm := nm) hT hΓ hK hN os _ G' β' a' w' (zFr h2) hc'
   have hskip : (lay false o.dst (.tup []) σ fun σ'' => zDQ T Γ M nm c.N all os σ'' K) → wpList c.P all.toArray Q os (a.put o.dst undef) w := fun h =>
    zDW (M := M) (nm := nm) hT hΓ hK hN os _ G β _ w (zFr h) (hc.put hd zO4 rfl)
   dsimp only at h
   unfold wpList
   split at h
   ·rename_i hg
    rw [if_pos (by simp [Region.wanted, hg])]
    exact .inl (hrun h)
   ·rename_i j want hg
    split at h
    ·rename_i g hj
     have hj' : (all.toArray[j]?).bind (·.dst) = some g := by simpa using hj
     split at h
     ·rename_i hb
      have hy := zIJ hc hj' (hN j g hj) hb
      split at h
      ·rw [if_pos (by simp [Region.wanted, hg, hy])]
       exact .inl (hrun h)
      ·rw [if_neg (by simp [Region.wanted, hg, hy])]
       exact hskip h
     ·rename_i hb
      have hy := zIJ hc hj' (hN j g hj) hb
      split at h
      ·rw [if_pos (by simp [Region.wanted, hg, hy])]
       exact .inl (hrun h)
      ·rw [if_neg (by simp [Region.wanted, hg, hy])]
       exact hskip h
     ·rename_i hb
      have hy := zJj hc hj' (hN j g hj) hb
      rw [if_neg (by simp [Region.wanted, hg, hy])]
      exact hskip h
     ·exact h.elim
    ·exact h.elim
def zRT (o : Oper) : Bool := match o.op with | .defer _ => false | _ => true
def zH1 (N : Nat) : List Oper → Bool
 | [] => true
 | o :: os => ((match o.dst with | some t => Nat.blt t N | none => true) && zRT o) && zH1 N os
theorem zKf {N : Nat} : ∀ {os : List Oper}, zH1 N os = true → ∀ o ∈ os, ∀ c, o.op ≠ .defer c
 | [], _, o, h => by cases h
 | o :: os, ho, o', h => by
  simp only [zH1, Bool.and_eq_true] at ho
  rcases List.mem_cons.1 h with rfl | h
  ·intro c e
   have := ho.1.2
   unfold zRT at this
   rw [e] at this
   cases this
  ·exact zKf ho.2 o' h
theorem zHr {N : Nat} : ∀ {os : List Oper}, zH1 N os = true → ∀ (j g : Nat), (os[j]?).bind (fun o => o.dst) = some g → g < N
 | [], _, j, g, h => by simp at h
 | o :: os, ho, 0, g, h => by
  simp only [zH1, Bool.and_eq_true] at ho
  simp at h
  rw [h] at ho
  exact Nat.le_of_ble_eq_true ho.1.1
 | o :: os, ho, j + 1, g, h => by
  simp only [zH1, Bool.and_eq_true] at ho
  exact zHr ho.2 j g (by simpa using h)
end Go.Abs
namespace Go.Abs
inductive End where
 | normal
 | exit (id : Nat)
 | ret
def zKT : End → Exit
 | .normal => .normal
 | .exit id => .exit id
 | .ret => .ret
def rF (ro : Option Nat) : Fence := { Fence.wide with round := ro }
theorem zUN {ro : Option Nat} {n : Nat} {P : Program} {o : Oper} {a : Act} {w : World} {K K' : Act → World → Prop} {Q : Exit → Act → World → Prop} (hd : ∀ c, o.op ≠ .defer c) (hK : ∀ a w, K a w → K' a w) (h : o.wp P a w K Q) : o.wpIn (rF ro) n P a w K' Q := by
 refine ⟨fun _ _ => trivial, ?_⟩
 rw [Oper.semAt_eq _ _ _ hd]
 unfold Oper.wp at h
 unfold Oper.upon at h
 unfold Oper.uponIn
 generalize Sem.run P (execOp a.eval o) w = r at h ⊢
 split at h
 ·exact hK _ _ h
 ·exact hK _ _ h
 ·exact hK _ _ h
 ·refine ⟨fun h => (by cases h), callsIn_wide.2 (h.mono fun e w' he => ?_)⟩
  cases e with
  | returned v => exact hK _ _ he
  | panicked c => exact he
  | outgrown => exact he
 ·exact ⟨fun h => (by cases h), fun c cs _ => let ⟨v, w', r, s⟩ := h c cs; ⟨v, w', hK _ _ r, stepsIn_wide.2 s⟩⟩
 ·exact h
 ·exact h.elim
theorem zO6 {ro : Option Nat} {n : Nat} {P : Program} {ops : Array Oper} {Q : Exit → Act → World → Prop} (hQ : ¬ LetsOut Q) : ∀ (l : List Oper), (∀ o ∈ l, ∀ c, o.op ≠ .defer c) → ∀ a w, wpList P ops Q l a w → wpListIn (rF ro) n P ops Q l a w
 | [], _, a, w, h => h
 | o :: l, hd, a, w, h => by
  have ih := fun a w => zO6 (P := P) (ops := ops) (ro := ro) (n := n) hQ l (fun o ho => hd o (List.mem_cons_of_mem _ ho)) a w
  unfold wpList at h
  unfold wpListIn
  split
  ·rename_i hw
   rw [if_pos hw] at h
   rcases h with h | ⟨_, h⟩
   ·exact zUN (hd o List.mem_cons_self) ih h
   ·exact absurd h hQ
  ·rename_i hw
   rw [if_neg hw] at h
   exact ⟨fun _ _ => trivial, ih _ _ h⟩
theorem zKl {c : Cx} {Q : End → St → Prop} : ¬ LetsOut (fun e a' w' => ∃ e' G' β' σ', e = zKT e' ∧ Q e' σ' ∧ Conc c G' β' σ' a' w') := by
 rintro ⟨a, w, e', _, _, _, h, _⟩
 cases e' <;> cases h
def Tri (c : Cx) (code : Code) (σ : St) (Q : End → St → Prop) : Prop :=
 ∀ G β a w, Conc c G β σ a w → code.wpIn (rF c.ro) 2 c.P (fun e a' w' => ∃ e' G' β' σ', e = zKT e' ∧ Q e' σ' ∧ Conc c G' β' σ' a' w') a w
theorem zAa {c : Cx} {T : Nat → Option TI} {Γ : Nat → Option zAy} (hT : TOk c.P T) (hΓ : ∀ f s, Γ f = some s → PSound c.P f s) {id : Nat} {ops : List Oper} {σ : St} {Q : End → St → Prop} (M nm : List Nat)
  (hN : zH1 c.N ops = true) (h : zDQ T Γ M nm c.N ops ops σ (Q .normal)) : Tri c (.region id ops.toArray false) σ Q := fun G β a w hc =>
 wpIn_region_lit (zO6 zKl ops (zKf hN) a w <| zDW hT hΓ (Q := fun e a' w' => ∃ e' G' β' σ', e = zKT e' ∧ Q e' σ' ∧ Conc c G' β' σ' a' w') (fun σ' G' β' a' w' hk hc' => ⟨.normal, G', β', σ', rfl, hk, hc'⟩) (zHr hN) ops σ G β a w h hc)
def zU6 (c : Cx) (y : Code) (Q : End → St → Prop) : End → St → Prop
 | .normal, σ => Tri c y σ Q
 | e, σ => Q e σ
def zTR (id : Nat) (Q : End → St → Prop) : End → St → Prop
 | .exit j, σ => match Nat.beq j id with | true => Q .normal σ | false => Q (.exit j) σ
 | e, σ => Q e σ
section
variable {c : Cx} {σ : St} {Q : End → St → Prop}
theorem zAb {x y : Code} (h : Tri c x σ (zU6 c y Q)) : Tri c (.seq x y) σ Q := fun G β a w hc => by
 refine wpIn_seq (wpIn_mono (h G β a w hc) ?_)
 rintro e a' w' ⟨e', G', β', σ', rfl, hq, hc'⟩
 cases e' with
 | normal => exact hq G' β' a' w' hc'
 | exit id => exact ⟨.exit id, G', β', σ', rfl, hq, hc'⟩
 | ret => exact ⟨.ret, G', β', σ', rfl, hq, hc'⟩
theorem zAg (h : Q .normal σ) : Tri c .skip σ Q := fun G β a w hc => wpIn_skip ⟨.normal, G, β, σ, rfl, h, hc⟩
theorem zAL {id : Nat} (h : Q (.exit id) σ) : Tri c (.exit id) σ Q := fun G β a w hc => wpIn_exit ⟨.exit id, G, β, σ, rfl, h, hc⟩
theorem zAi (h : Q .ret σ) : Tri c .ret σ Q := fun G β a w hc => wpIn_ret ⟨.ret, G, β, σ, rfl, h, hc⟩
theorem zAp {id : Nat} {x : Code} (h : Tri c x σ (zTR id Q)) : Tri c (.block id x) σ Q := fun G β a w hc => by
 refine wpIn_block (wpIn_mono (h G β a w hc) ?_)
 rintro e a' w' ⟨e', G', β', σ', rfl, hq, hc'⟩
 cases e' with
 | normal => exact ⟨.normal, G', β', σ', rfl, hq, hc'⟩
 | ret => exact ⟨.ret, G', β', σ', rfl, hq, hc'⟩
 | exit j =>
  simp only [zTR] at hq
  show Exit.inBlock id _ (.exit j) a' w'
  unfold Exit.inBlock
  dsimp only
  split at hq
  ·rename_i e
   rw [if_pos (Nat.eq_of_beq_eq_true e)]
   exact ⟨.normal, G', β', σ', rfl, hq, hc'⟩
  ·rename_i e
   rw [if_neg (Nat.ne_of_beq_eq_false e)]
   exact ⟨.exit j, G', β', σ', rfl, hq, hc'⟩
theorem zAe {x y : Code} {t : Nat} {b : Bool} (hb : σ.env t = .s (.bool b)) (h1 : b = true → Tri c x σ Q) (h2 : b = false → Tri c y σ Q) : Tri c (.cond (.tmp t) x y) σ Q := fun G β a w hc => by
 have h := hc.env t
 rw [hb] at h
 simp only [AVal, Rep] at h
 exact wpIn_cond_split (t := b) h (fun e => h1 e G β a w hc) (fun e => h2 e G β a w hc)
def Le (c : Cx) (σ σ' : St) : Prop := ∀ G β a w, Conc c G β σ a w → ∃ G' β', Conc c G' β' σ' a w
theorem Le.refl (c : Cx) (σ : St) : Le c σ σ := fun G β _ _ h => ⟨G, β, h⟩
theorem Le.trans {σ σ' σ'' : St} (h : Le c σ σ') (k : Le c σ' σ'') : Le c σ σ'' := fun G β a w hc =>
 let ⟨G', β', h'⟩ := h G β a w hc
 k G' β' a w h'
theorem zAm {x : Code} {σ' : St} (hl : Le c σ σ') (h : Tri c x σ' Q) : Tri c x σ Q := fun G β a w hc =>
 let ⟨G', β', h'⟩ := hl G β a w hc
 h G' β' a w h'
theorem zNh {x : Code} {Q' : End → St → Prop} (h : Tri c x σ Q) (hq : ∀ e σ', Q e σ' → Q' e σ') : Tri c x σ Q' := fun G β a w hc =>
 wpIn_mono (h G β a w hc) fun e a' w' ⟨e', G', β', σ', h1, h2, h3⟩ => ⟨e', G', β', σ', h1, hq _ _ h2, h3⟩
theorem zTF {x : Code} {X : Type} (E : X → St) (m : X → Nat) (x0 : X) (h0 : Le c σ (E x0))
  (h : ∀ y, Tri c x (E y) (fun e σ' => match e with | .normal => ∃ z, Le c σ' (E z) ∧ m z < m y | e => Q e σ')) : Tri c (.loop x) σ Q := fun G β a w hc => by
 obtain ⟨G1, β1, hc1⟩ := h0 G β a w hc
 intro b k cs hro hb hr
 have key : ∀ n y G β a w, m y = n → Conc c G β (E y) a w →
   ∃ e a' w', (∃ e' G' β' σ', e = zKT e' ∧ Q e' σ' ∧ Conc c G' β' σ' a' w') ∧ ArrivesIn (Machine.fenced c.P (rF c.ro)) c.P (lone (b.atR a (.code x :: .inLoop x :: k)) cs w) b k cs e a' w' := by
  intro n
  induction n using Nat.strongRecOn with
  | _ n ih =>
   intro y G β a w hn hc
   obtain ⟨e, a', w', ⟨e', G', β', σ', rfl, hq, hc'⟩, harr⟩ := h y G β a w hc b (.inLoop x :: k) cs hro hb hr
   cases e' with
   | normal =>
    obtain ⟨z, hle, hlt⟩ := hq
    obtain ⟨G2, β2, hc2⟩ := hle G' β' a' w' hc'
    obtain ⟨e2, a2, w2, hq2, harr2⟩ := ih (m z) (by omega) z G2 β2 a' w' rfl hc2
    exact ⟨e2, a2, w2, hq2, .of_steps (StepsIn.trans harr (.one (fenced_calm hb hr rfl) stepR_inLoop)) harr2⟩
   | exit id => exact ⟨.exit id, a', w', ⟨.exit id, G', β', σ', rfl, hq, hc'⟩, .pass (x := .inLoop x) rfl (fun _ _ => .inl (by simp [zKT])) harr⟩
   | ret => exact ⟨.ret, a', w', ⟨.ret, G', β', σ', rfl, hq, hc'⟩, .pass (x := .inLoop x) rfl (fun _ _ => .inl (by simp [zKT])) harr⟩
 obtain ⟨e, a', w', hq, harr⟩ := key _ x0 G1 β1 a w rfl hc1
 exact ⟨e, a', w', hq, .of_steps (.one (fenced_calm hb hr rfl) stepR_loop) harr⟩
theorem zAJ {x : Code} {X : Type} (E : X → St) (I : X → Prop) (m : X → Nat) (x0 : X) (i0 : I x0) (h0 : Le c σ (E x0))
  (h : ∀ y, I y → Tri c x (E y) (fun e σ' => match e with | .normal => ∃ z, I z ∧ Le c σ' (E z) ∧ m z < m y | e => Q e σ')) : Tri c (.loop x) σ Q :=
 zTF (X := { y : X // I y }) (fun y => E y.1) (fun y => m y.1) ⟨x0, i0⟩ h0 fun y => zNh (h y.1 y.2) fun e σ' hq => by
  cases e with
  | normal => obtain ⟨z, h1, h2, h3⟩ := hq; exact ⟨⟨z, h1⟩, h2, h3⟩
  | exit id => exact hq
  | ret => exact hq
def ofL (l : List (Nat × AV)) : Nat → AV :=
 match l with
 | [] => fun _ => .junk
 | (t, x) :: r => fun s => bif Nat.beq s t then x else ofL r s
def ofH (l : List (Nat × Ob)) : Nat → Option Ob :=
 match l with
 | [] => fun _ => none
 | (t, x) :: r => fun s => bif Nat.beq s t then some x else ofH r s
def holds (env : Nat → AV) : List (Nat × AV) → Prop
 | [] => True
 | (t, x) :: r => env t = x ∧ holds env r
theorem zOb {P : AV → Prop} (hj : P .junk) : ∀ {l : List (Nat × AV)} {env : Nat → AV}, holds env l → (∀ t, P (env t)) → ∀ t, ofL l t = .junk ∨ ofL l t = env t
 | [], env, _, _, t => .inl rfl
 | (s, x) :: r, env, h, hp, t => by
  simp only [ofL]
  cases e : Nat.beq t s with
  | true => obtain rfl := Nat.eq_of_beq_eq_true e; exact .inr h.1.symm
  | false => exact zOb hj h.2 hp t
theorem Le.forget (l : List (Nat × AV)) (h : holds σ.env l) : Le c σ { σ with env := ofL l } := fun G β a w hc => by
 have he := zOb (P := fun _ => True) trivial h (fun _ => trivial)
 refine ⟨G, β, { hc with env := fun t => ?_, envlt := fun t => ?_ }⟩
 ·rcases he t with e | e <;> (dsimp only; rw [e])
  ·simp only [AVal]
  ·exact hc.env t
 ·rcases he t with e | e <;> (dsimp only; rw [e])
  ·rfl
  ·exact hc.envlt t
def kept (hp : Nat → Option Ob) (ρ : List (Nat × Nat)) : List (Nat × Nat) → List (Nat × Ob) → Prop
 | [], [] => True
 | (k, j) :: r, (j', o) :: l => j = j' ∧ (∃ o0, hp k = some o0 ∧ o0.ren ρ = o) ∧ kept hp ρ r l
 | _, _ => False
theorem zN0 {l : List (Nat × Nat)} : distinct (l.map (·.1)) = true → ∀ {k j j'}, (k, j) ∈ l → (k, j') ∈ l → j = j' := by
 induction l with
 | nil => intro _ k j j' h; cases h
 | cons p r ih =>
  intro h k j j' h1 h2
  simp only [List.map_cons, distinct, Bool.and_eq_true] at h
  have hn := zF3 h.1
  rcases List.mem_cons.1 h1 with h1 | h1 <;> rcases List.mem_cons.1 h2 with h2 | h2
  ·rw [← h1] at h2; cases h2; rfl
  ·exact absurd (List.mem_map.2 ⟨_, h2, by rw [← h1]⟩) hn
  ·exact absurd (List.mem_map.2 ⟨_, h1, by rw [← h2]⟩) hn
  ·exact ih h.2 h1 h2
theorem zI4 {l : List (Nat × Nat)} : distinct (l.map (·.2)) = true → ∀ {k k' j}, (k, j) ∈ l → (k', j) ∈ l → k = k' := by
 induction l with
 | nil => intro _ k k' j h; cases h
 | cons p r ih =>
  intro h k k' j h1 h2
  simp only [List.map_cons, distinct, Bool.and_eq_true] at h
  have hn := zF3 h.1
  rcases List.mem_cons.1 h1 with h1 | h1 <;> rcases List.mem_cons.1 h2 with h2 | h2
  ·rw [← h1] at h2; cases h2; rfl
  ·exact absurd (List.mem_map.2 ⟨_, h2, by rw [← h1]⟩) hn
  ·exact absurd (List.mem_map.2 ⟨_, h1, by rw [← h2]⟩) hn
  ·exact ih h.2 h1 h2
def zOi (j : Nat) : List (Nat × Nat) → Option Nat
 | [] => none
 | (a, b) :: r => bif Nat.beq j b then some a else zOi j r
theorem zH5 {k j : Nat} : ∀ {l : List (Nat × Nat)}, zOi j l = some k → (k, j) ∈ l
 | [], h => by simp [zOi] at h
 | (a, b) :: r, h => by
  simp only [zOi] at h
  cases e : Nat.beq j b with
  | true => rw [e, cond_true] at h; cases h; obtain rfl := Nat.eq_of_beq_eq_true e; simp
  | false => rw [e, cond_false] at h; simp [zH5 h]
theorem zGs {k j : Nat} : ∀ {l : List (Nat × Nat)}, (k, j) ∈ l → ∃ k', zOi j l = some k'
 | [], h => by cases h
 | (a, b) :: r, h => by
  simp only [zOi]
  cases e : Nat.beq j b with
  | true => exact ⟨a, by simp⟩
  | false =>
   rw [cond_false]
   rcases List.mem_cons.1 h with h | h
   ·cases h; exact absurd rfl (Nat.ne_of_beq_eq_false e)
   ·exact zGs h
def rens (env : Nat → AV) (ρ : List (Nat × Nat)) : List (Nat × AV) → Prop
 | [] => True
 | (t, x) :: r => (env t).ren ρ = x ∧ rens env ρ r
theorem zJA {hp : Nat → Option Ob} {ρ : List (Nat × Nat)} : ∀ {r : List (Nat × Nat)} {l : List (Nat × Ob)}, kept hp ρ r l → ∀ {j o}, ofH l j = some o → ∃ k o0, (k, j) ∈ r ∧ hp k = some o0 ∧ o0.ren ρ = o
 | [], [], _, j, o, h => by simp [ofH] at h
 | [], _ :: _, hk, _, _, _ => hk.elim
 | _ :: _, [], hk, _, _, _ => hk.elim
 | (k, j1) :: r, (j2, o2) :: l, hk, j, o, h => by
  simp only [kept] at hk
  obtain ⟨rfl, ⟨o0, h1, h2⟩, h4⟩ := hk
  simp only [ofH] at h
  cases e : Nat.beq j j1 with
  | true =>
   rw [e, cond_true] at h; cases h
   obtain rfl := Nat.eq_of_beq_eq_true e
   exact ⟨k, o0, by simp, h1, h2⟩
  | false =>
   rw [e, cond_false] at h
   obtain ⟨k', o', h5, h6⟩ := zJA h4 h
   exact ⟨k', o', by simp [h5], h6⟩
def ltL (n : Nat) : List (Nat × AV) → Bool
 | [] => true
 | (_, x) :: r => x.lt n && ltL n r
def ltH (n : Nat) : List (Nat × Ob) → Bool
 | [] => true
 | (k, o) :: r => Nat.blt k n && o.lt n && ltH n r
theorem zQf {n : Nat} : ∀ {l : List (Nat × AV)}, ltL n l = true → ∀ t, (ofL l t).lt n = true
 | [], _, t => rfl
 | (s, x) :: r, h, t => by
  simp only [ltL, Bool.and_eq_true] at h
  simp only [ofL]
  cases Nat.beq t s with
  | true => exact h.1
  | false => exact zQf h.2 t
theorem zQe {n : Nat} : ∀ {l : List (Nat × Ob)}, ltH n l = true → ∀ k o, ofH l k = some o → k < n ∧ o.lt n = true
 | [], _, k, o, h => by simp [ofH] at h
 | (s, x) :: r, h, k, o, hk => by
  simp only [ltH, Bool.and_eq_true] at h
  simp only [ofH] at hk
  cases e : Nat.beq k s with
  | true =>
   rw [e, cond_true] at hk; cases hk
   obtain rfl := Nat.eq_of_beq_eq_true e
   exact ⟨Nat.le_of_ble_eq_true h.1.1, h.1.2⟩
  | false => rw [e, cond_false] at hk; exact zQe h.2 k o hk
def zQw (n0 n : Nat) : List (Nat × Nat) → Bool
 | [] => Nat.ble n0 n
 | (k, j) :: r => (Nat.ble n0 j || Nat.beq k j) && zQw n0 n r
theorem zHH {n0 n : Nat} : ∀ {ρ : List (Nat × Nat)}, zQw n0 n ρ = true → n0 ≤ n ∧ ∀ k j, (k, j) ∈ ρ → j < n0 → k = j
 | [], h => ⟨Nat.le_of_ble_eq_true h, fun k j h => by cases h⟩
 | (a, b) :: r, h => by
  simp only [zQw, Bool.and_eq_true, Bool.or_eq_true] at h
  obtain ⟨h1, h2⟩ := zHH h.2
  refine ⟨h1, fun k j hm hj => ?_⟩
  rcases List.mem_cons.1 hm with hm | hm
  ·cases hm
   rcases h.1 with h3 | h3
   ·have := Nat.le_of_ble_eq_true h3; omega
   ·exact Nat.eq_of_beq_eq_true h3
  ·exact h2 k j hm hj
def zNS (β : Nat → Value) (ρ : List (Nat × Nat)) (j : Nat) : Value := match zOi j ρ with | some k => β k | none => β j
theorem Le.rename (ρ : List (Nat × Nat)) (l : List (Nat × AV)) (hl : List (Nat × Ob)) (n : Nat) (h1 : rens σ.env ρ l) (h2 : kept σ.hp ρ ρ hl) (h3 : distinct (ρ.map (·.1)) = true) (h4 : distinct (ρ.map (·.2)) = true)
  (h5 : ltL n l = true) (h6 : ltH n hl = true) (h7 : zQw c.n0 n ρ = true) : Le c σ { env := ofL l, hp := ofH hl, nx := n } := fun G β a w hc => by
 have hb : ∀ k j, look k ρ = some j → (zNS β ρ) j = β k := fun k j hkj => by
  have hm := zQd hkj
  obtain ⟨k', hk'⟩ := zGs hm
  have := zI4 h4 hm (zH5 hk')
  subst this
  simp only [zNS, hk']
 have henv : ∀ {l : List (Nat × AV)}, rens σ.env ρ l → ∀ t, AVal G w (zNS β ρ) (ofL l t) (a.tmps.getD t undef) := fun {l} => by
  induction l with
  | nil => intro _ t; simp only [ofL, AVal]
  | cons p r ih =>
   obtain ⟨s, x⟩ := p
   intro h t
   simp only [ofL]
   cases e : Nat.beq t s with
   | true => obtain rfl := Nat.eq_of_beq_eq_true e; rw [cond_true, ← h.1]; exact (hc.env t).ren hb
   | false => exact ih h.2 t
 have hat : ∀ {v : Value} {o o' : Ob}, o.ren ρ = o' → ObAt c G w β v o → ObAt c G w (zNS β ρ) v o' := fun {v o o'} ho h => by
  subst ho
  cases o with
  | box xs =>
   obtain ⟨b, e, cur, q1, q2, q3, q4, q5, q6⟩ := h
   exact ⟨b, e, cur, q1, q2, q3, q4, q5.ren hb, q6⟩
  | row e sz rows => exact h
  | arow e sz rows => exact ObAt.ren hb (fun _ _ h => h) h
 have hβ : ∀ {k j}, (k, j) ∈ ρ → (zNS β ρ) j = β k := fun {k j} hm => by
  obtain ⟨k', hk'⟩ := zGs hm
  have := zI4 h4 hm (zH5 hk')
  subst this
  simp only [zNS, hk']
 refine ⟨G, zNS β ρ, { defers := hc.defers, size := hc.size, env := henv h1, envlt := zQf h5, hp := fun j o hj => ?_, hplt := zQe h6, inj := ?_, lt := hc.lt, sub := hc.sub, new := hc.new, fr := hc.fr, stay := ⟨(zHH h7).1, fun j hj => ?_⟩, glob := hc.glob }⟩
 ·obtain ⟨k, o0, hm, hk, ho⟩ := zJA h2 hj
  rw [hβ hm]
  exact hat ho (hc.hp k o0 hk)
 ·intro j j' o o' hj hj' hne b hb1 hb2
  obtain ⟨k, o0, hm, hk, _⟩ := zJA h2 hj
  obtain ⟨k', o0', hm', hk', _⟩ := zJA h2 hj'
  rw [hβ hm] at hb1
  rw [hβ hm'] at hb2
  exact hc.inj k k' o0 o0' hk hk' (fun e => hne (by subst e; exact zN0 h3 hm hm')) b hb1 hb2
 ·unfold zNS
  cases hl : zOi j ρ with
  | none => exact hc.stay.2 j hj
  | some k =>
   obtain rfl := (zHH h7).2 k j (zH5 hl) hj
   exact hc.stay.2 k hj
mutual
def AV.frz (k : Nat) (r : AV) (p : Nat → AV) : AV → AV
 | .op j o => match Nat.beq j k with | true => p o | false => .op j o
 | .orow j => match Nat.beq j k with | true => r | false => .orow j
 | .rp j sz i o => match Nat.beq j k with | true => .junk | false => .rp j sz i o
 | .agg xs => .agg (AV.frzAll k r p xs)
 | .tup xs => .tup (AV.frzAll k r p xs)
 | .clo f xs => .clo f (AV.frzAll k r p xs)
 | x => x
def AV.frzAll (k : Nat) (r : AV) (p : Nat → AV) : List AV → List AV
 | [] => []
 | x :: xs => AV.frz k r p x :: AV.frzAll k r p xs
end
mutual
theorem AVal.frz {G G' : Nat → Prop} {w : World} {β : Nat → Value} {k : Nat} {r : AV} {p : Nat → AV} (hG : ∀ b, G b → G' b) (hr : (∃ o n cp, β k = .slice o n cp) → AVal G' w β r (β k)) (hp : ∀ b o, β k = .pointer (some ⟨b, 0, none⟩) → AVal G' w β (p o) (.pointer (some ⟨b, o, none⟩))) :
  ∀ {x : AV} {v : Value}, AVal G w β x v → AVal G' w β (AV.frz k r p x) v
 | .s x, v, h => by simp only [AVal, AV.frz] at h ⊢; exact h.keep ⟨hG, fun _ _ => rfl⟩
 | .nl _, v, h => by simp only [AVal, AV.frz] at h ⊢; exact h
 | .agg xs, v, h => by
  simp only [AVal, AV.frz] at h ⊢
  obtain ⟨vs, h1, h2⟩ := h
  exact ⟨vs, h1, AVals.frz hG hr hp h2⟩
 | .tup xs, v, h => by
  simp only [AVal, AV.frz] at h ⊢
  obtain ⟨vs, h1, h2⟩ := h
  exact ⟨vs, h1, AVals.frz hG hr hp h2⟩
 | .clo f xs, v, h => by
  simp only [AVal, AV.frz] at h ⊢
  obtain ⟨vs, h1, h2⟩ := h
  exact ⟨vs, h1, AVals.frz hG hr hp h2⟩
 | .op j o, v, h => by
  simp only [AV.frz]
  split
  ·rename_i e; obtain rfl := Nat.eq_of_beq_eq_true e
   simp only [AVal] at h
   obtain ⟨b, h1, rfl⟩ := h
   exact hp b o h1
  ·simp only [AVal] at h ⊢; exact h
 | .orow j, v, h => by
  simp only [AV.frz]
  split
  ·rename_i e; obtain rfl := Nat.eq_of_beq_eq_true e
   simp only [AVal] at h
   obtain ⟨rfl, h1⟩ := h
   exact hr h1
  ·simp only [AVal] at h ⊢; exact h
 | .rp j sz i o, v, h => by
  simp only [AV.frz]
  split
  ·simp only [AVal]
  ·simp only [AVal] at h ⊢; exact h
 | .junk, _, _ => by simp only [AV.frz, AVal]
theorem AVals.frz {G G' : Nat → Prop} {w : World} {β : Nat → Value} {k : Nat} {r : AV} {p : Nat → AV} (hG : ∀ b, G b → G' b) (hr : (∃ o n cp, β k = .slice o n cp) → AVal G' w β r (β k)) (hp : ∀ b o, β k = .pointer (some ⟨b, 0, none⟩) → AVal G' w β (p o) (.pointer (some ⟨b, o, none⟩))) :
  ∀ {xs : List AV} {vs : List Value}, AVals G w β xs vs → AVals G' w β (AV.frzAll k r p xs) vs
 | [], _, h => by simp only [AVals, AV.frzAll] at h ⊢; exact h
 | x :: xs, vs, h => by
  simp only [AVals, AV.frzAll] at h ⊢
  obtain ⟨v, vs', h1, h2, h3⟩ := h
  exact ⟨v, vs', h1, AVal.frz hG hr hp h2, AVals.frz hG hr hp h3⟩
end
mutual
theorem AV.frz_lt {n k : Nat} {r : AV} {p : Nat → AV} (hr : r.lt n = true) (hp : ∀ o, (p o).lt n = true) : ∀ {x : AV}, x.lt n = true → (AV.frz k r p x).lt n = true
 | .s _, h => rfl
 | .nl _, h => rfl
 | .junk, h => rfl
 | .agg xs, h => by simp only [AV.frz, AV.lt] at *; exact AV.frzAll_lt hr hp h
 | .tup xs, h => by simp only [AV.frz, AV.lt] at *; exact AV.frzAll_lt hr hp h
 | .clo _ xs, h => by simp only [AV.frz, AV.lt] at *; exact AV.frzAll_lt hr hp h
 | .op j o, h => by simp only [AV.frz]; split <;> first | exact hp o | exact h
 | .orow j, h => by simp only [AV.frz]; split <;> first | exact hr | exact h
 | .rp j sz i o, h => by simp only [AV.frz]; split <;> first | rfl | exact h
theorem AV.frzAll_lt {n k : Nat} {r : AV} {p : Nat → AV} (hr : r.lt n = true) (hp : ∀ o, (p o).lt n = true) : ∀ {xs : List AV}, AV.ltAll n xs = true → AV.ltAll n (AV.frzAll k r p xs) = true
 | [], _ => rfl
 | x :: xs, h => by
  simp only [AV.frzAll, AV.ltAll, Bool.and_eq_true] at *
  exact ⟨AV.frz_lt hr hp h.1, AV.frzAll_lt hr hp h.2⟩
end
def Ob.frz (k : Nat) (r : AV) (p : Nat → AV) : Ob → Ob
 | .box t xs => .box t (AV.frzAll k r p xs)
 | .arow e sz rows => .arow e sz (rows.map (AV.frzAll k r p))
 | o => o
theorem zKh {k : Nat} {r : AV} {p : Nat → AV} : ∀ (l : List AV), AV.frzAll k r p l = l.map (AV.frz k r p)
 | [] => rfl
 | x :: l => by simp [AV.frzAll, zKh l]
theorem zFq {k : Nat} {r : AV} {p : Nat → AV} : ∀ (rows : List (List AV)), (rows.map (AV.frzAll k r p)).flatten = rows.flatten.map (AV.frz k r p)
 | [] => rfl
 | x :: rows => by simp [zKh, zFq rows, List.map_append]
def zOa (σ : St) (k : Nat) (r : AV) (p : Nat → AV) : St :=
 { env := fun t => AV.frz k r p (σ.env t), hp := fun j => bif Nat.beq j k then none else (σ.hp j).map (Ob.frz k r p), nx := σ.nx }
theorem Conc.given {G G' : Nat → Prop} {β : Nat → Value} {a : Act} {w : World} (hc : Conc c G β σ a w) {k : Nat} {ob : Ob} (hk : σ.hp k = some ob) {r : AV} {p : Nat → AV} (hsub : ∀ b, G b → G' b)
  (hnew : ∀ b, G' b → G b ∨ blk (β k) = some b)
  (hr : (∃ o n cp, β k = .slice o n cp) → AVal G' w β r (β k)) (hp : ∀ b o, β k = .pointer (some ⟨b, 0, none⟩) → AVal G' w β (p o) (.pointer (some ⟨b, o, none⟩)))
  (hrl : r.lt σ.nx = true) (hpl : ∀ o, (p o).lt σ.nx = true) : Conc c G' β (zOa σ k r p) a w := by
 have hkeep : Keep G G' w w := ⟨hsub, fun _ _ => rfl⟩
 have hget : ∀ {j o'}, (zOa σ k r p).hp j = some o' → j ≠ k ∧ ∃ o, σ.hp j = some o ∧ o' = Ob.frz k r p o := fun {j o'} h => by
  simp only [zOa] at h
  cases e : Nat.beq j k with
  | true => rw [e, cond_true] at h; cases h
  | false =>
   rw [e, cond_false] at h
   obtain ⟨o, h1, h2⟩ := Option.map_eq_some_iff.1 h
   exact ⟨Nat.ne_of_beq_eq_false e, o, h1, h2.symm⟩
 have hmk := row_block (hc.hp k ob hk)
 refine { defers := hc.defers, size := hc.size, env := fun t => (hc.env t).frz hsub hr hp, envlt := fun t => AV.frz_lt hrl hpl (hc.envlt t), hp := fun j o' hj => ?_, hplt := fun j o' hj => ?_, inj := ?_, lt := fun b hb => ?_, sub := fun b hb => hsub b (hc.sub b hb), new := fun b hb => ?_, fr := hc.fr, stay := hc.stay, glob := hc.glob.keep hkeep }
 ·obtain ⟨hne, o, h1, rfl⟩ := hget hj
  have ho := hc.hp j o h1
  have hng : ∀ b, blk (β j) = some b → ¬ G' b := fun b hb hg' => by
   rcases hnew b hg' with h | h
   ·exact (row_block ho b hb).1 h
   ·exact hc.inj j k o ob h1 hk hne b hb h
  cases o with
  | box xs =>
   obtain ⟨b, e, cur, q1, q2, q3, q4, q5, q6⟩ := ho
   exact ⟨b, e, cur, q1, q2, hng b (by rw [q1]; rfl), q4, AVals.frz hsub hr hp q5, q6⟩
  | row e sz rows =>
   obtain ⟨q1, q2, q3⟩ := ho
   refine ⟨q1, q2, q3.imp id ?_⟩
   rintro ⟨b, cap, cur, g1, g2, g3, g4, g5, g6, g7⟩
   exact ⟨b, cap, cur, g1, g2, g3, g4, hng b (by rw [g1]; rfl), g6, fun i s hi => let ⟨u, hu, hr'⟩ := g7 i s hi; ⟨u, hu, hr'.keep hkeep⟩⟩
  | arow e sz rows =>
   obtain ⟨q1, q2, q3⟩ := ho
   refine ⟨fun x hx => by obtain ⟨y, hy, rfl⟩ := List.mem_map.1 hx; rw [zKh, List.length_map]; exact q1 y hy, q2, q3.imp (fun h => ⟨h.1, by rw [h.2]; rfl⟩) ?_⟩
   rintro ⟨b, cap, cur, g1, g2, g3, g4, g5, g6, g7⟩
   refine ⟨b, cap, cur, by rw [List.length_map]; exact g1, by rw [List.length_map]; exact g2, g3, g4, hng b (by rw [g1]; rfl), g6, fun i x hi => ?_⟩
   rw [zFq, List.getElem?_map] at hi
   obtain ⟨y, hy, rfl⟩ := Option.map_eq_some_iff.1 hi
   obtain ⟨u, hu, hr', h1⟩ := g7 i y hy
   exact ⟨u, hu, AVal.frz hsub hr hp hr', h1⟩
 ·obtain ⟨hne, o, h1, rfl⟩ := hget hj
  obtain ⟨h2, h3⟩ := hc.hplt j o h1
  refine ⟨h2, ?_⟩
  cases o with
  | box xs => simp only [Ob.lt, Ob.frz] at *; exact AV.frzAll_lt hrl hpl h3
  | row => rfl
  | arow e sz rows =>
   simp only [Ob.lt, Ob.frz] at *
   refine zC4 fun q y hq => ?_
   rw [zFq, List.getElem?_map] at hq
   obtain ⟨z, hz, rfl⟩ := Option.map_eq_some_iff.1 hq
   exact AV.frz_lt hrl hpl (zBs h3 hz)
 ·intro j j' o o' hj hj' hne b hb hb'
  obtain ⟨_, o1, h1, _⟩ := hget hj
  obtain ⟨_, o2, h2, _⟩ := hget hj'
  exact hc.inj j j' o1 o2 h1 h2 hne b hb hb'
 ·rcases hnew b hb with h | h
  ·exact hc.lt b h
  ·exact hc.blk_lt hk h
 ·rcases hnew b hb with h | h
  ·exact hc.new b h
  ·exact .inr (hmk b h).2
theorem Le.giveRow (k : Nat) {e sz : Nat} {rows : List (List S)} (hk : σ.hp k = some (.row e sz rows)) : Le c σ (zOa σ k (.s (.sl sz rows)) (fun _ => .junk)) := fun G β a w hc => by
 obtain ⟨hlen, hsz, ho⟩ := hc.hp k _ hk
 rcases ho with ⟨h1, rfl⟩ | ⟨b, cap, cur, h1, h2, h3, h4, h5, h6, h7⟩
 ·refine ⟨G, β, hc.given hk (fun _ h => h) (fun _ h => .inl h) (fun _ => ?_) (fun b o h => by rw [h1] at h; cases h) rfl (fun _ => rfl)⟩
  rw [h1]; simp [AVal, Rep]
 ·refine ⟨fun i => G i ∨ i = b, β, hc.given hk (fun _ h => .inl h) (fun i h => h.imp id (fun e => by rw [h1, e]; rfl)) (fun _ => ?_) (fun b o h => by rw [h1] at h; cases h) rfl (fun _ => rfl)⟩
  rw [h1]
  simp only [AVal, Rep]
  refine .inr ⟨b, 0, cap, rfl, h2, zCb hlen (RepRow.mk fun i s hi => ⟨.inr rfl, ?_⟩)⟩
  obtain ⟨u, hu, hr⟩ := h7 i s hi
  exact ⟨u, by simp [World.cell?, h4, hu], hr.keep ⟨fun _ h => .inl h, fun _ _ => rfl⟩⟩
theorem Le.toA (k : Nat) {e sz : Nat} {rows : List (List S)} (hk : σ.hp k = some (.row e sz rows)) : Le c σ (zFx σ k (.arow e sz (rows.map (·.map AV.s)))) := fun G β a w hc => by
 have hf : (rows.map (·.map AV.s)).flatten = rows.flatten.map AV.s := by simp [List.map_flatten]
 have hget : ∀ {j o}, (zFx σ k (.arow e sz (rows.map (·.map AV.s)))).hp j = some o → (j = k ∧ o = .arow e sz (rows.map (·.map AV.s))) ∨ (j ≠ k ∧ σ.hp j = some o) := fun {j o} h => by
  simp only [zFx] at h
  cases hq : Nat.beq j k with
  | true => rw [hq, cond_true] at h; cases h; exact .inl ⟨Nat.eq_of_beq_eq_true hq, rfl⟩
  | false => rw [hq, cond_false] at h; exact .inr ⟨Nat.ne_of_beq_eq_false hq, h⟩
 have hget' : ∀ {j o}, (zFx σ k (.arow e sz (rows.map (·.map AV.s)))).hp j = some o → ∃ o', σ.hp j = some o' := fun {j o} h => by
  rcases hget h with ⟨rfl, _⟩ | ⟨_, h⟩
  ·exact ⟨_, hk⟩
  ·exact ⟨_, h⟩
 refine ⟨G, β, { hc with hp := fun j o hj => ?_, hplt := fun j o hj => ?_, inj := fun j j' o o' hj hj' => (let ⟨_, h1⟩ := hget' hj; let ⟨_, h2⟩ := hget' hj'; hc.inj j j' _ _ h1 h2) }⟩
 ·rcases hget hj with ⟨rfl, rfl⟩ | ⟨_, h⟩
  ·obtain ⟨hlen, hsz, ho⟩ := hc.hp j _ hk
   refine ⟨fun r hr => by obtain ⟨r', hr', rfl⟩ := List.mem_map.1 hr; simpa using hlen r' hr', hsz, ho.imp (fun h => ⟨h.1, by rw [h.2]; rfl⟩) ?_⟩
   rintro ⟨b, cap, cur, h1, h2, h3, h4, h5, h6, h7⟩
   refine ⟨b, cap, cur, by rw [List.length_map]; exact h1, by rw [List.length_map]; exact h2, h3, h4, h5, h6, fun i x hi => ?_⟩
   rw [hf, List.getElem?_map] at hi
   obtain ⟨s, hs, rfl⟩ := Option.map_eq_some_iff.1 hi
   obtain ⟨u, hu, hr⟩ := h7 i s hs
   exact ⟨u, hu, by simpa only [AVal] using hr, hr.one⟩
  ·exact hc.hp j o h
 ·rcases hget hj with ⟨rfl, rfl⟩ | ⟨_, h⟩
  ·refine ⟨(hc.hplt j _ hk).1, ?_⟩
   simp only [Ob.lt]; rw [hf]; exact zRP _
  ·exact hc.hplt j o h
theorem Le.giveBox (k : Nat) {bt : Nat} {cells : List AV} (ss : List S) (hk : σ.hp k = some (.box bt cells)) (hs : zPX cells = some ss) : Le c σ (zOa σ k .junk (fun o => .s (.pt (ss.drop o)))) := fun G β a w hc => by
 obtain ⟨b, e, cur, h1, h2, h3, h4, h5, h6⟩ := hc.hp k _ hk
 have hreps := zIj hs h5
 refine ⟨fun i => G i ∨ i = b, β, hc.given hk (fun _ h => .inl h) (fun i h => h.imp id (fun e => by rw [h1, e]; rfl)) (fun _ => by simp only [AVal]) (fun b' o h => ?_) rfl (fun _ => rfl)⟩
 rw [h1] at h; cases h
 simp only [AVal, Rep]
 have hrow : RepRow (fun i => G i ∨ i = b) w b ss 0 := RepRow.mk fun i s hi => ⟨.inr rfl, by
  obtain ⟨u, hu, hr⟩ := zIh hreps hi
  rw [Array.getElem?_toList] at hu
  exact ⟨u, by simp [World.cell?, h2, hu], hr.keep ⟨fun _ h => .inl h, fun _ _ => rfl⟩⟩⟩
 exact ⟨b, o, rfl, by simpa using hrow.drop o⟩
theorem Le.takeNil (k off e : Nat) {bt : Nat} {cells : List AV} {sz : Nat} (hk : σ.hp k = some (.box bt cells)) (ho : cells[off]? = some (.nl sz)) (hs : 0 < sz) :
  Le c σ (zBU (zFx σ k (.box bt (cells.set off (.orow σ.nx)))) (.row e sz [])) := fun G β a w hc => by
 obtain ⟨b, e0, cur, h1, h2, h3, h4, h5, h6⟩ := hc.hp k _ hk
 have hkn := (hc.hplt k _ hk).1
 have hcl : AV.ltAll σ.nx cells = true := (hc.hplt k _ hk).2
 obtain ⟨β', b1, b2, b3⟩ := hc.make (ob := .row e sz []) (v := .slice none 0 0) ⟨fun r hr => (by cases hr), hs, .inl ⟨rfl, rfl⟩⟩ rfl (fun _ _ _ b hb => by cases hb)
 have hk' : (zBU σ (.row e sz [])).hp k = some (.box bt cells) := by
  show (bif Nat.beq k σ.nx then some (Ob.row e sz []) else σ.hp k) = _
  cases e1 : Nat.beq k σ.nx with
  | true => have := Nat.eq_of_beq_eq_true e1; omega
  | false => rw [cond_false]; exact hk
 have hset : AVals G w β' (cells.set off (.orow σ.nx)) cur.toList := by
  have h5' := h5.beta b1 hcl
  refine AVals.mk (by rw [List.length_set]; exact h5.length) fun i x v hx hv => ?_
  rw [List.getElem?_set] at hx
  split at hx
  ·rename_i hio
   subst hio
   split at hx
   ·cases hx
    obtain ⟨u, hu, hn⟩ := h5'.get ho
    rw [hu] at hv; cases hv
    simp only [AVal] at hn ⊢
    exact ⟨hn.trans b2.symm, _, _, _, hn⟩
   ·cases hx
  ·obtain ⟨u, hu, hn⟩ := h5'.get hx
   rw [hu] at hv; cases hv; exact hn
 have hlt2 : AV.ltAll (σ.nx + 1) (cells.set off (.orow σ.nx)) = true := zC4 fun q y hq => by
  rw [List.getElem?_set] at hq
  split at hq
  ·split at hq
   ·cases hq; simp [AV.lt]
   ·cases hq
  ·exact AV.lt_mono (Nat.le_succ _) (zBs hcl hq)
 have hβk : β' k = β k := b1 k hkn
 have := b3.write (j := k) (ob := .box bt cells) (ob' := .box bt (cells.set off (.orow σ.nx))) (w' := w) hk' (b := b) (by rw [hβk, h1]; rfl) h3 h4 rfl rfl rfl rfl (fun _ _ => rfl)
  (fun _ => by rw [hβk]; exact ⟨b, e0, cur, h1, h2, h3, h4, hset, h6⟩) hlt2
 refine ⟨G, β', ?_⟩
 have e2 : (zBU (zFx σ k (.box bt (cells.set off (.orow σ.nx)))) (.row e sz [])) = { zBU σ (.row e sz []) with hp := fun k' => bif Nat.beq k' k then some (.box bt (cells.set off (.orow σ.nx))) else (zBU σ (.row e sz [])).hp k' } := by
  simp only [zBU, zFx, St.mk.injEq, true_and, and_true]
  funext k'
  cases e3 : Nat.beq k' σ.nx with
  | true =>
   have h8 := Nat.eq_of_beq_eq_true e3
   cases e4 : Nat.beq k' k with
   | true => have := Nat.eq_of_beq_eq_true e4; omega
   | false => rfl
  | false => rfl
 rw [e2]; exact this
def zKL (tmps : Array Value) : ResultVar → Sem Value
 | .tmp t => pure (tmps.getD t undef)
 | .cell a t => do loadVar t (← asAddr (tmps.getD a undef))
theorem zL4 (fn : Func) (tmps : Array Value) : results fn tmps = (do let vs ← fn.results.mapM (zKL tmps); pure (if h : vs.size = 1 then vs[0] else .tuple vs)) := rfl
def zPQ (T : Nat → Option TI) (σ : St) : ResultVar → Option AV
 | .tmp t => some (σ.env t).deep
 | .cell t ty => match σ.env t with
  | .op k 0 => match σ.hp k, T ty with
   | some (.box _ cells), some i => match i.k.agg with
    | true => match Nat.ble i.size cells.length with | true => some (AV.deep (.agg (cells.take i.size))) | false => none
    | false => match cells with | x :: _ => some x.nrm | [] => none
   | _, _ => none
  | .s (.pt row) => zK9 T ty row
  | _ => none
theorem zSf {T : Nat → Option TI} (hT : TOk c.P T) {G : Nat → Prop} {β : Nat → Value} {a : Act} {w : World} (hc : Conc c G β σ a w) {rv : ResultVar} {x : AV} (h : zPQ T σ rv = some x) :
  ∃ v, (zKL a.tmps rv).run c.P w = .ok v w ∧ AVal G w β x v := by
 cases rv with
 | tmp t => simp only [zPQ, Option.some.injEq] at h; subst h; exact ⟨_, rfl, (hc.env t).deep⟩
 | cell t ty =>
  have he := hc.env t
  simp only [zPQ] at h
  split at h
  ·rename_i k e
   rw [e] at he
   simp only [AVal] at he
   obtain ⟨b, hβ, hv⟩ := he
   split at h
   ·rename_i cells i hh hi
    obtain ⟨d, info, z, b1, b2, b3, b4, _⟩ := hT ty i hi
    obtain ⟨b', e', cur, o1, o2, o3, o4, o5, o6⟩ := hc.hp k _ hh
    rw [hβ] at o1; cases o1
    have hcell : ∀ q v, cur[q]? = some v → w.cell? ⟨b, q, none⟩ = some v := fun q v hq => by simp [World.cell?, o2, hq]
    split at h
    ·rename_i hag
     split at h
     ·rename_i hle
      cases h
      have hle := Nat.le_of_ble_eq_true hle
      have hl := o5.length
      simp only [Array.length_toList] at hl
      have hlc := run_loadCells_list (P := c.P) w ⟨b, 0, none⟩ (cur.toList.take i.size) fun q v hq => by
       rw [List.getElem?_take] at hq
       split at hq
       ·rw [Array.getElem?_toList] at hq
        rw [addr_add, Nat.zero_add]; exact hcell _ _ hq
       ·cases hq
      have hlen : (cur.toList.take i.size).length = i.size := by simp; omega
      rw [hlen] at hlc
      refine ⟨.agg (cur.toList.take i.size).toArray, ?_, AVal.deep (by simp only [AVal]; exact ⟨_, rfl, o5.take i.size⟩)⟩
      simp [zKL, hv, asAddr, loadVar, zDg w b1, b2, hag, zAF w b3, b4, hlc]
     ·cases h
    ·rename_i hag
     split at h
     ·rename_i z r hz
      cases h
      obtain ⟨u, hu, hr⟩ := o5.get (i := 0) rfl
      rw [Array.getElem?_toList] at hu
      exact ⟨u, by simp [zKL, hv, asAddr, loadVar, zDg w b1, b2, hag, hcell _ _ hu], hr.nrm⟩
     ·cases h
   ·cases h
  ·rename_i row e
   rw [e] at he
   simp only [AVal, Rep] at he
   obtain ⟨b, off, hv, hr⟩ := he
   obtain ⟨z, h1, h2⟩ := zIF (β := β) hT h (fun i s hi => (hr.get hi).2)
   exact ⟨z, by simpa [zKL, hv, asAddr, Instr.loadAt, Instr.sureAddr] using h1, h2⟩
  ·cases h
def zHi (T : Nat → Option TI) (σ : St) : List ResultVar → Option (List AV)
 | [] => some []
 | r :: rs => match zPQ T σ r, zHi T σ rs with | some x, some xs => some (x :: xs) | _, _ => none
theorem zL3 {T : Nat → Option TI} (hT : TOk c.P T) {G : Nat → Prop} {β : Nat → Value} {a : Act} {w : World} (hc : Conc c G β σ a w) : ∀ {rs : List ResultVar} {xs : List AV}, zHi T σ rs = some xs →
  ∃ vs, (rs.mapM (m := Sem) (zKL a.tmps)).run c.P w = .ok vs w ∧ AVals G w β xs vs
 | [], xs, h => by simp only [zHi, Option.some.injEq] at h; subst h; exact ⟨[], rfl, by simp only [AVals]⟩
 | r :: rs, xs, h => by
  simp only [zHi] at h
  split at h
  ·rename_i x xs' h1 h2
   cases h
   obtain ⟨v, h3, h4⟩ := zSf hT hc h1
   obtain ⟨vs, h5, h6⟩ := zL3 hT hc h2
   refine ⟨v :: vs, ?_, by simp only [AVals]; exact ⟨v, vs, rfl, h4, h6⟩⟩
   rw [List.mapM_cons]
   simp only [Sem.run_bind, Sem.run_pure]
   rw [h3]; simp only [Result.andThen_ok, h5]
  ·cases h
def zLk (T : Nat → Option TI) (σ : St) (rs : List ResultVar) : Option AV :=
 match zHi T σ rs with
 | some [x] => some x
 | some xs => some (.tup xs)
 | none => none
theorem zIi {T : Nat → Option TI} (hT : TOk c.P T) {G : Nat → Prop} {β : Nat → Value} {a : Act} {w : World} (hc : Conc c G β σ a w) {fn : Func} {x : AV} (h : zLk T σ fn.results.toList = some x) :
  ∃ v, (results fn a.tmps).run c.P w = .ok v w ∧ AVal G w β x v := by
 unfold zLk at h
 have key : ∀ {xs}, zHi T σ fn.results.toList = some xs → ∃ vs : List Value, (fn.results.mapM (m := Sem) (zKL a.tmps)).run c.P w = .ok vs.toArray w ∧ AVals G w β xs vs := fun {xs} hx => by
  obtain ⟨vs, h1, h2⟩ := zL3 hT hc hx
  refine ⟨vs, ?_, h2⟩
  rw [Array.mapM_eq_mapM_toList]
  simp only [Sem.run_map, h1, Result.andThen_ok]
 split at h
 ·rename_i y hy
  cases h
  obtain ⟨vs, h1, h2⟩ := key hy
  simp only [AVals] at h2
  obtain ⟨v, vs', rfl, h3, rfl⟩ := h2
  exact ⟨v, by rw [zL4]; simp only [Sem.run_bind]; rw [h1]; rfl, h3⟩
 ·rename_i xs hn hy
  cases h
  obtain ⟨vs, h1, h2⟩ := key hy
  refine ⟨.tuple vs.toArray, ?_, by simp only [AVal]; exact ⟨vs, rfl, h2⟩⟩
  rw [zL4]
  simp only [Sem.run_bind]
  rw [h1]
  have hl := h2.length
  have : ¬ (vs.toArray.size = 1) := fun e => by
   have : xs.length = 1 := by rw [← hl]; simpa using e
   obtain ⟨y, rfl⟩ := List.length_eq_one_iff.1 this
   exact hn y rfl
  simp only [Result.andThen_ok, Sem.run_pure]
  rw [dif_neg this]
 ·cases h
end
def start (xs : List AV) : St := { env := fun t => xs.getD t .junk, hp := fun _ => none, nx := 0 }
def zAG (c : Cx) (T : Nat → Option TI) (rs : List ResultVar) (r : Ret) (σ : St) : Prop :=
 ∃ σ', Le c σ σ' ∧ match r with
  | .val x => zLk T σ' rs = some x ∧ x.pers = true
  | .row e sz rows => ∃ k, zLk T σ' rs = some (.orow k) ∧ σ'.hp k = some (.row e sz rows)
def zSb (P : Program) (w0 : World) (G0 : Nat → Prop) (N : Nat) : Cx := { P := P, w0 := w0, X := fun _ => False, G0 := G0, N := N }
theorem zAM {P : Program} {T : Nat → Option TI} (hT : TOk P T) {f : Nat} {fn : Func} {code : Code} {s : zAy} (hcall : ∀ args w, (callFunc f args).run P w = .ok (.enter f args) w)
  (hf : P.funcs[f]? = some fn) (hb : fn.body = some code) (hn : ∀ xs r, s.spec xs r → xs.length ≤ fn.ntmps)
  (N : Nat) (hN : fn.ntmps = N)
  (h : ∀ xs r w0 G0, s.spec xs r → AV.persAll xs = true → Tri (zSb P w0 G0 N) code (start xs) (fun e σ => match e with | .exit _ => False | _ => zAG (zSb P w0 G0 N) T fn.results.toList r σ)) (hown : s.own = none := by rfl) (hheap : s.heap = none := by rfl) : PSound P f s := by
 subst hN
 refine ⟨hcall, fun G w xs vs r hlt hgl hp hv hpre => ?_, fun R hR => (by rw [hown] at hR; cases hR), fun R hR => (by rw [hheap] at hR; cases hR)⟩
 let c : Cx := zSb P w G fn.ntmps
 have hlen := hv.length
 have hxn := hn xs r hpre
 have hc : Conc c G (fun _ => .tuple #[]) (start xs) { tmps := vs.toArray ++ Array.replicate (fn.ntmps - vs.toArray.size) undef, defers := [] } w := {
  defers := rfl
  size := by simp only [Array.size_append, List.size_toArray, Array.size_replicate]; show _ = fn.ntmps; omega
  env := fun t => by
   simp only [start]
   by_cases ht : t < xs.length
   ·obtain ⟨v, h1, h2⟩ := hv.get (i := t) (x := xs[t]) (List.getElem?_eq_getElem ht)
    have e1 : xs.getD t .junk = xs[t] := by simp [List.getElem?_eq_getElem ht]
    have e2 : (vs.toArray ++ Array.replicate (fn.ntmps - vs.toArray.size) undef).getD t undef = v := by
     rw [Array.getD_eq_getD_getElem?, Array.getElem?_append_left (by simpa [hlen] using ht)]
     simp [h1]
    rw [e1, e2]; exact h2
   ·have : xs.getD t .junk = .junk := by simp [List.getElem?_eq_none (by omega : xs.length ≤ t)]
    rw [this]; simp only [AVal]
  envlt := fun t => by
   simp only [start]
   by_cases ht : t < xs.length
   ·have e1 : xs.getD t .junk = xs[t] := by simp [List.getElem?_eq_getElem ht]
    rw [e1]; exact zBs (AV.persAll_lt hp) (List.getElem?_eq_getElem ht)
   ·have : xs.getD t .junk = .junk := by simp [List.getElem?_eq_none (by omega : xs.length ≤ t)]
    rw [this]; rfl
  hp := fun k ob hk => by simp [start] at hk
  hplt := fun k ob hk => by simp [start] at hk
  inj := fun k k' ob ob' hk => by simp [start] at hk
  lt := hlt
  sub := fun b hb => hb
  new := fun b hb => .inl hb
  fr := Fr.refl _ _
  stay := ⟨Nat.le_refl _, fun k hk => by cases hk⟩
  glob := hgl }
 refine calls_of_wp hf hb ?_
 refine wpIn_wide.1 (wpIn_mono (h xs r w G hpre hp G _ _ w hc) ?_)
 rintro e a' w' ⟨e', G', β', σ', rfl, hq, hc'⟩
 have fin : zAG c T fn.results.toList r σ' → a'.defers = [] ∧ ∃ v, (results fn a'.tmps).run P w' = .ok v w' ∧ (∃ v₀ G'', Ending.returned v = .returned v₀ ∧ Ext G G'' w w' ∧ RetAt G'' w w' r v₀) := fun hq => by
  obtain ⟨σ2, hle, hr⟩ := hq
  obtain ⟨G2, β2, hc2⟩ := hle G' β' a' w' hc'
  have hext : Ext G G2 w w' := ⟨hc2.fr.os, hc2.fr.tape, hc2.fr.output, hc2.fr.size, fun b hb => hc2.fr.old b hb (fun h => h), hc2.sub, fun b hb => (hc2.new b hb).imp id (fun h => h.elim False.elim id), hc2.lt⟩
  refine ⟨hc2.defers, ?_⟩
  unfold RetAt
  split at hr
  ·rename_i x
   obtain ⟨v, h1, h2⟩ := zIi (c := c) hT hc2 hr.1
   refine ⟨v, h1, v, G2, rfl, hext, ?_⟩
   exact ⟨hr.2, AVal.pers hr.2 h2⟩
  ·rename_i e sz rows
   obtain ⟨k, hk1, hk2⟩ := hr
   obtain ⟨v, h1, h2⟩ := zIi (c := c) hT hc2 hk1
   refine ⟨v, h1, v, G2, rfl, hext, ?_⟩
   simp only [AVal] at h2
   obtain ⟨rfl, _⟩ := h2
   obtain ⟨q1, q2, q3⟩ := hc2.hp k _ hk2
   refine ⟨q1, q2, q3.imp id ?_⟩
   rintro ⟨b, cap, cur, g1, g2, g3, g4, g5, g6, g7⟩
   exact ⟨b, cap, cur, g1, g2, g3, g4, g5, g6.elim False.elim id, g7⟩
 cases e' with
 | normal => exact fin hq
 | ret => exact fin hq
 | exit id => exact hq.elim
def zMa (xs : List AV) (os : List Ob) : St := { env := fun t => xs.getD t .junk, hp := fun k => os[k]?, nx := os.length }
def zQb (hp : Nat → Option Ob) (n : Nat) : Nat → List (Option Ob) → Prop
 | _, [] => True
 | i, none :: r => zQb hp n (i + 1) r
 | i, some ob :: r => hp i = some ob ∧ ob.lt n = true ∧ zQb hp n (i + 1) r
theorem zIt {hp : Nat → Option Ob} {n : Nat} : ∀ {os : List (Option Ob)} {i j : Nat} {ob : Ob}, zQb hp n i os → os[j]? = some (some ob) → hp (i + j) = some ob ∧ ob.lt n = true
 | [], _, _, _, _, h => by simp at h
 | none :: r, i, j, ob, h, hj => by
  cases j with
  | zero => simp at hj
  | succ j => rw [show i + (j + 1) = i + 1 + j by omega]; exact zIt (os := r) h (by simpa using hj)
 | some o :: r, i, j, ob, h, hj => by
  cases j with
  | zero => simp at hj; subst hj; exact ⟨h.1, h.2.1⟩
  | succ j => rw [show i + (j + 1) = i + 1 + j by omega]; exact zIt (os := r) h.2.2 (by simpa using hj)
def zBV (c : Cx) (T : Nat → Option TI) (rs : List ResultVar) (x : AV) (os' : List (Option Ob)) (σ : St) : Prop :=
 ∃ σ', Le c σ σ' ∧ zLk T σ' rs = some x ∧ x.lt os'.length = true ∧ zQb σ'.hp os'.length 0 os'
theorem ObAt.cx {c1 c2 : Cx} {G : Nat → Prop} {w : World} {β : Nat → Value} {v : Value} {o : Ob} (hm : ∀ b, c1.mine b → c2.mine b) (h : ObAt c1 G w β v o) : ObAt c2 G w β v o := by
 cases o with
 | box xs =>
  obtain ⟨b, e, cur, q1, q2, q3, q4, q5, q6⟩ := h
  exact ⟨b, e, cur, q1, q2, q3, hm b q4, q5, q6⟩
 | row e sz rows =>
  obtain ⟨h1, h2, h3⟩ := h
  refine ⟨h1, h2, h3.imp id ?_⟩
  rintro ⟨b, cap, cur, k1, k2, k3, k4, k5, k6, k7⟩
  exact ⟨b, cap, cur, k1, k2, k3, k4, k5, hm b k6, k7⟩
 | arow e sz rows => exact h.mv (fun b _ => hm b)
theorem zFj {P : Program} {T : Nat → Option TI} (hT : TOk P T) {f : Nat} {fn : Func} {code : Code} {R : List AV → List Ob → AV → List (Option Ob) → Prop} (hcall : ∀ args w, (callFunc f args).run P w = .ok (.enter f args) w)
  (hf : P.funcs[f]? = some fn) (hb : fn.body = some code) (hn : ∀ xs os x os', R xs os x os' → xs.length ≤ fn.ntmps ∧ os.length ≤ os'.length)
  (N : Nat) (hN : fn.ntmps = N)
  (h : ∀ xs os x os' w0 G0 B0, R xs os x os' → AV.ltAll os.length xs = true → Tri (zEY P w0 B0 os.length G0 N) code (zMa xs os) (fun e σ => match e with | .exit _ => False | _ => zBV (zEY P w0 B0 os.length G0 N) T fn.results.toList x os' σ)) : PSound P f (zCm R) := by
 subst hN
 refine ⟨hcall, fun G w xs vs r _ _ _ _ hpre => hpre.elim, fun R' hR' => ?_, fun R hR => (by cases hR)⟩
 obtain rfl : R = R' := by simpa [zCm] using hR'
 intro G w β xs vs os x os' hlt hgl hv hxl hobs hR
 let c : Cx := zEY P w β os.length G fn.ntmps
 have hlen := hv.length
 obtain ⟨hxn, hol⟩ := hn xs os x os' hR
 have hget : ∀ (k : Nat) ob, (zMa xs os).hp k = some ob → (os.map some)[k]? = some (some ob) := fun k ob hk => by
  simp only [zMa] at hk
  rw [List.getElem?_map, hk]; rfl
 have hc : Conc c G β (zMa xs os) { tmps := vs.toArray ++ Array.replicate (fn.ntmps - vs.toArray.size) undef, defers := [] } w := {
  defers := rfl
  size := by simp only [Array.size_append, List.size_toArray, Array.size_replicate]; show _ = fn.ntmps; omega
  env := fun t => by
   simp only [zMa]
   by_cases ht : t < xs.length
   ·obtain ⟨v, h1, h2⟩ := hv.get (i := t) (x := xs[t]) (List.getElem?_eq_getElem ht)
    have e1 : xs.getD t .junk = xs[t] := by simp [List.getElem?_eq_getElem ht]
    have e2 : (vs.toArray ++ Array.replicate (fn.ntmps - vs.toArray.size) undef).getD t undef = v := by
     rw [Array.getD_eq_getD_getElem?, Array.getElem?_append_left (by simpa [hlen] using ht)]
     simp [h1]
    rw [e1, e2]; exact h2
   ·have : xs.getD t .junk = .junk := by simp [List.getElem?_eq_none (by omega : xs.length ≤ t)]
    rw [this]; simp only [AVal]
  envlt := fun t => by
   simp only [zMa]
   by_cases ht : t < xs.length
   ·have e1 : xs.getD t .junk = xs[t] := by simp [List.getElem?_eq_getElem ht]
    rw [e1]; exact zBs hxl (List.getElem?_eq_getElem ht)
   ·have : xs.getD t .junk = .junk := by simp [List.getElem?_eq_none (by omega : xs.length ≤ t)]
    rw [this]; rfl
  hp := fun k ob hk => ObAt.cx (fun _ h => h) (hobs.1 k ob (hget k ob hk)).1
  hplt := fun k ob hk => ⟨(List.getElem?_eq_some_iff.1 hk).1, by have := (hobs.1 k ob (hget k ob hk)).2; rwa [List.length_map] at this⟩
  inj := fun k k' ob ob' hk hk' hne b => hobs.2 k k' ob ob' (hget k ob hk) (hget k' ob' hk') hne b
  lt := hlt
  sub := fun b hb => hb
  new := fun b hb => .inl hb
  fr := Fr.refl _ _
  stay := ⟨Nat.le_refl _, fun _ _ => rfl⟩
  glob := hgl }
 refine calls_of_wp hf hb ?_
 refine wpIn_wide.1 (wpIn_mono (h xs os x os' w G β hR hxl G β _ w hc) ?_)
 rintro e a' w' ⟨e', G', β', σ', rfl, hq, hc'⟩
 have fin : zBV c T fn.results.toList x os' σ' → a'.defers = [] ∧ ∃ v, (results fn a'.tmps).run P w' = .ok v w' ∧ (∃ v₀ G'' β'', Ending.returned v = .returned v₀ ∧ Fr (zEY P w β os.length G 0).X w w' ∧ (∀ b, G b → G'' b) ∧ (∀ b, G'' b → G b ∨ (zEY P w β os.length G 0).mine b) ∧ (∀ b, G'' b → b < w'.heap.size) ∧
   AVal G'' w' β'' x v₀ ∧ x.lt os'.length = true ∧ os.length ≤ os'.length ∧ zRh (zEY P w β os.length G 0) G'' w' β'' os' ∧ ∀ (i : Nat) ob, i < os.length → os'[i]? = some (some ob) → β'' i = β i) := fun hq => by
  obtain ⟨σ2, hle, hr, hxl, hh⟩ := hq
  obtain ⟨G2, β2, hc2⟩ := hle G' β' a' w' hc'
  refine ⟨hc2.defers, ?_⟩
  obtain ⟨v, h1, h2⟩ := zIi (c := c) hT hc2 hr
  have hg : ∀ (i : Nat) ob, os'[i]? = some (some ob) → σ2.hp i = some ob ∧ ob.lt os'.length = true := fun i ob hi => by simpa using zIt hh hi
  exact ⟨v, h1, v, G2, β2, rfl, hc2.fr, hc2.sub, hc2.new, hc2.lt, h2, hxl, hol,
   ⟨fun i ob hi => ⟨ObAt.cx (fun _ h => h) (hc2.hp i ob (hg i ob hi).1), (hg i ob hi).2⟩, fun i j ob ob' hi hj hne b => hc2.inj i j ob ob' (hg i ob hi).1 (hg j ob' hj).1 hne b⟩,
   fun i ob hi ho => hc2.stay.2 i hi⟩
 cases e' with
 | normal => exact fin hq
 | exit => exact hq.elim
 | ret => exact fin hq
theorem zTt {c : Cx} {T : Nat → Option TI} {σ : St} {G : Nat → Prop} {β : Nat → Value} {a : Act} {w : World} (hc : Conc c G β σ a w) {rv : ResultVar} {x : AV} (h : zPQ T σ rv = some x) : x.lt σ.nx = true := by
 unfold zPQ at h
 split at h
 ·cases h; exact AV.deep_lt (hc.envlt _)
 ·split at h
  ·split at h
   ·rename_i cells i hk hi
    have hl : AV.ltAll σ.nx cells = true := by simpa [Ob.lt] using (hc.hplt _ _ hk).2
    split at h
    ·split at h
     ·cases h
      refine AV.deep_lt ?_
      simp only [AV.lt]
      exact zC4 fun q y hq => zBs hl (by
       rw [List.getElem?_take] at hq
       split at hq
       ·exact hq
       ·cases hq)
     ·cases h
    ·split at h
     ·cases h
      simp only [AV.ltAll, Bool.and_eq_true] at hl
      exact AV.nrm_lt hl.1
     ·cases h
   ·cases h
  ·exact zMI h
  ·cases h
theorem zKK {c : Cx} {T : Nat → Option TI} {σ : St} {G : Nat → Prop} {β : Nat → Value} {a : Act} {w : World} (hc : Conc c G β σ a w) : ∀ {rs : List ResultVar} {xs : List AV}, zHi T σ rs = some xs → AV.ltAll σ.nx xs = true
 | [], xs, h => by simp only [zHi, Option.some.injEq] at h; subst h; rfl
 | r :: rs, xs, h => by
  simp only [zHi] at h
  split at h
  ·rename_i x ys h1 h2
   cases h
   simp only [AV.ltAll, Bool.and_eq_true]
   exact ⟨zTt hc h1, zKK hc h2⟩
  ·cases h
theorem zTu {c : Cx} {T : Nat → Option TI} {σ : St} {G : Nat → Prop} {β : Nat → Value} {a : Act} {w : World} (hc : Conc c G β σ a w) {rs : List ResultVar} {x : AV} (h : zLk T σ rs = some x) : x.lt σ.nx = true := by
 unfold zLk at h
 split at h
 ·rename_i y hy
  cases h
  have := zKK hc hy
  simp only [AV.ltAll, Bool.and_true] at this
  exact this
 ·rename_i xs _ hy
  cases h
  simp only [AV.lt]
  exact zKK hc hy
 ·cases h
def zP1 (c : Cx) (T : Nat → Option TI) (rs : List ResultVar) (Φ : AV → (Nat → Option Ob) → Nat → Prop) (σ : St) : Prop :=
 ∃ σ', Le c σ σ' ∧ ∃ x, zLk T σ' rs = some x ∧ Φ x σ'.hp σ'.nx
theorem zOc {P : Program} {T : Nat → Option TI} (hT : TOk P T) {f : Nat} {fn : Func} {code : Code} {R : List AV → (Nat → Option Ob) → Nat → (AV → (Nat → Option Ob) → Nat → Prop) → Prop} (hcall : ∀ args w, (callFunc f args).run P w = .ok (.enter f args) w)
  (hf : P.funcs[f]? = some fn) (hb : fn.body = some code) (hn : ∀ xs hp n Φ, R xs hp n Φ → xs.length ≤ fn.ntmps)
  (N : Nat) (hN : fn.ntmps = N)
  (h : ∀ xs hp n Φ w0 G0 B0, R xs hp n Φ → AV.ltAll n xs = true → (∀ k ob, hp k = some ob → k < n ∧ ob.lt n = true) → Tri (zEq P w0 B0 hp n G0 N) code ⟨fun t => xs.getD t .junk, hp, n⟩ (fun e σ => match e with | .exit _ => False | _ => zP1 (zEq P w0 B0 hp n G0 N) T fn.results.toList Φ σ)) : PSound P f (zQN R) := by
 subst hN
 refine ⟨hcall, fun G w xs vs r _ _ _ _ hpre => hpre.elim, fun R hR => (by cases hR), fun R' hR' => ?_⟩
 obtain rfl : R = R' := by simpa [zQN] using hR'
 intro G w β xs vs hp n Φ hlt hgl hv hxl hobs hR
 let c : Cx := zEq P w β hp n G fn.ntmps
 have hlen := hv.length
 have hxn := hn xs hp n Φ hR
 have hc : Conc c G β ⟨fun t => xs.getD t .junk, hp, n⟩ { tmps := vs.toArray ++ Array.replicate (fn.ntmps - vs.toArray.size) undef, defers := [] } w := {
  defers := rfl
  size := by simp only [Array.size_append, List.size_toArray, Array.size_replicate]; show _ = fn.ntmps; omega
  env := fun t => by
   dsimp only
   by_cases ht : t < xs.length
   ·obtain ⟨v, h1, h2⟩ := hv.get (i := t) (x := xs[t]) (List.getElem?_eq_getElem ht)
    have e1 : xs.getD t .junk = xs[t] := by simp [List.getElem?_eq_getElem ht]
    have e2 : (vs.toArray ++ Array.replicate (fn.ntmps - vs.toArray.size) undef).getD t undef = v := by
     rw [Array.getD_eq_getD_getElem?, Array.getElem?_append_left (by simpa [hlen] using ht)]
     simp [h1]
    rw [e1, e2]; exact h2
   ·have : xs.getD t .junk = .junk := by simp [List.getElem?_eq_none (by omega : xs.length ≤ t)]
    rw [this]; simp only [AVal]
  envlt := fun t => by
   dsimp only
   by_cases ht : t < xs.length
   ·have e1 : xs.getD t .junk = xs[t] := by simp [List.getElem?_eq_getElem ht]
    rw [e1]; exact zBs hxl (List.getElem?_eq_getElem ht)
   ·have : xs.getD t .junk = .junk := by simp [List.getElem?_eq_none (by omega : xs.length ≤ t)]
    rw [this]; rfl
  hp := fun k ob hk => ObAt.cx (fun _ h => h) (hobs.obs k ob hk)
  hplt := hobs.lts
  inj := hobs.inj
  lt := hlt
  sub := fun b hb => hb
  new := fun b hb => .inl hb
  fr := Fr.refl _ _
  stay := ⟨Nat.le_refl _, fun _ _ => rfl⟩
  glob := hgl }
 refine calls_of_wp hf hb ?_
 refine wpIn_wide.1 (wpIn_mono (h xs hp n Φ w G β hR hxl hobs.lts G β _ w hc) ?_)
 rintro e a' w' ⟨e', G', β', σ', rfl, hq, hc'⟩
 have fin : zP1 c T fn.results.toList Φ σ' → a'.defers = [] ∧ ∃ v, (results fn a'.tmps).run P w' = .ok v w' ∧ (∃ v₀ G'' β'' x hp' n', Ending.returned v = .returned v₀ ∧ Φ x hp' n' ∧ n ≤ n' ∧ Fr (zEq P w β hp n G 0).X w w' ∧ (∀ b, G b → G'' b) ∧ (∀ b, G'' b → G b ∨ (zEq P w β hp n G 0).mine b) ∧ (∀ b, G'' b → b < w'.heap.size) ∧
   AVal G'' w' β'' x v₀ ∧ x.lt n' = true ∧ HpAt (zEq P w β hp n G 0) G'' w' β'' hp' n' ∧ ∀ k, k < n → β'' k = β k) := fun hq => by
  obtain ⟨σ2, hle, x, hr, hΦ⟩ := hq
  obtain ⟨G2, β2, hc2⟩ := hle G' β' a' w' hc'
  refine ⟨hc2.defers, ?_⟩
  obtain ⟨v, h1, h2⟩ := zIi (c := c) hT hc2 hr
  exact ⟨v, h1, v, G2, β2, x, σ2.hp, σ2.nx, rfl, hΦ, hc2.stay.1, hc2.fr, hc2.sub, hc2.new, hc2.lt, h2, zTu hc2 hr,
   ⟨fun k ob hk => ObAt.cx (fun _ h => h) (hc2.hp k ob hk), hc2.hplt, hc2.inj⟩, hc2.stay.2⟩
 cases e' with
 | normal => exact fin hq
 | exit => exact hq.elim
 | ret => exact fin hq
attribute [irreducible] Tri Le zAG zBV zP1
end Go.Abs
