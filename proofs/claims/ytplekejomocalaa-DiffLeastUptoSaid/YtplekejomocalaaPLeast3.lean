/-
  ALL OPERATIONS: their weight bounds the distance.
-/
import Derived.Test.YtplekejomocalaaPLeast2
set_option linter.unusedVariables false
set_option linter.unusedSimpArgs false
namespace Go.Proofs.Ytplekejomocalaa
open Go.Abs

theorem Sub_w {t r : Nd} {p : List Int} (h : Sub t p r) : r.w ≤ t.w := by
  induction h with
  | nil => exact Nat.le_refl _
  | @cons t i j e f r p he hf _ ih =>
    obtain ⟨hi, he⟩ := List.getElem?_eq_some_iff.1 he
    obtain ⟨hj, hf⟩ := List.getElem?_eq_some_iff.1 hf
    have h1 := w_get hi
    have h2 := w_get hj
    rw [he] at h1
    rw [hf] at h2
    have := w_kids t
    have := w_kids e
    omega
theorem put_eq : ∀ (N : Nat) {t r : Nd} {path : List Int} (h : Sub t path r) (l : List Nd), path.length < N → t.w ≤ 60000000 → l.length ≤ 1073741824 →
    ∃ t', m_r12_put N t path l = some t' ∧ t'.w + Nd.ws r.kids ≤ t.w + Nd.ws l ∧ DL t.kids t'.kids ≤ DL r.kids l
  | 0, _, _, _, _, _, h, _, _ => by omega
  | n + 1, t, _, _, .nil, l, h, ht, hl => by
    have := w_kids t
    obtain ⟨a, b, c, d⟩ := t
    refine ⟨.mk 1 [] 0 l, rfl, ?_, Nat.le_refl _⟩
    simp only [Nd.w, Nd.kids, List.length_nil]; omega
  | n + 1, t, r, _, .cons (i := i) (j := j) (e := e) (f := f) (p := p) he hf hs, l, h, ht, hl => by
    obtain ⟨hi, he⟩ := List.getElem?_eq_some_iff.1 he
    obtain ⟨hj, hf⟩ := List.getElem?_eq_some_iff.1 hf
    have h1 := w_get hi
    have h2 := w_get hj
    rw [he] at h1
    rw [hf] at h2
    have w1 := w_kids t
    have w2 := w_kids e
    have l1 := Nd.ws_len t.kids
    have l2 := Nd.ws_len e.kids
    obtain ⟨f', p1, p2, p3⟩ := put_eq n hs l (by simp only [List.length_cons] at h; omega) (by omega) hl
    have q1 := Replaced_eq e j f' hj (by omega)
    have q2 := Replaced_eq t i (.mk e.kind e.text e.cols (e.kids.set j f')) hi (by omega)
    have s1 := ws_set hj f'
    have s2 := ws_set hi (.mk e.kind e.text e.cols (e.kids.set j f'))
    rw [hf] at s1
    rw [he] at s2
    have hal : alikeB t.kids[i] (.mk e.kind e.text e.cols (e.kids.set j f')) = true := by
      rw [he]; exact alike_iff.2 ⟨rfl, by simp [Nd.kids], rfl⟩
    have d1 := DL_set hi _ hal
    rw [he, D_eq] at d1
    have d2 : sumD DL e.kids (Nd.mk e.kind e.text e.cols (e.kids.set j f')).kids = DL f.kids f'.kids := by
      have := sum_set hj f'
      rw [hf] at this; exact this
    have d3 : txt e (Nd.mk e.kind e.text e.cols (e.kids.set j f')) = 0 := txt_zero.2 rfl
    have g1 := at_get hi
    have g2 := at_get hj
    rw [he] at g1
    rw [hf] at g2
    have e0 : at? ((i : Int) :: (j : Int) :: p) (0 : Int) = some (i : Int) := rfl
    have e1 : at? ((i : Int) :: (j : Int) :: p) (1 : Int) = some (j : Int) := rfl
    have e2 : ((((i : Int) :: (j : Int) :: p).take ((((i : Int) :: (j : Int) :: p).length : Int)).toNat).drop (2 : Int).toNat) = p := by
      rw [Int.toNat_natCast, List.take_length]; rfl
    have w3 : (Nd.mk e.kind e.text e.cols (e.kids.set j f')).w = e.text.length + Nd.ws (e.kids.set j f') + 1 := rfl
    refine ⟨.mk t.kind t.text t.cols (t.kids.set i (.mk e.kind e.text e.cols (e.kids.set j f'))), ?_, ?_, ?_⟩
    · obtain ⟨t1, t2, t3, t4⟩ := t
      obtain ⟨x1, x2, x3, x4⟩ := e
      obtain ⟨y1, y2, y3, y4⟩ := f
      obtain ⟨z1, z2, z3, z4⟩ := f'
      simp only [Nd.kids] at g1 g2
      unfold m_r12_put
      rw [ne_beq (show ((((i : Int) :: (j : Int) :: p).length : Nat) : Int) ≠ 0 by simp only [List.length_cons]; omega)]
      simp only [cond_false, e0, e1, Option.bind_some, g1, g2, e2]
      rw [req_t ⟨by omega, by simp only [List.length_cons]; omega, by omega⟩, p1]
      simp only [Option.bind_some]
      rw [q1]
      simp only [Option.bind_some, Nd.kind, Nd.text, Nd.cols, Nd.kids]
      simp only [Nd.kind, Nd.text, Nd.cols, Nd.kids] at q2
      rw [q2]
      rfl
    · show t.text.length + Nd.ws (t.kids.set i _) + 1 + _ ≤ _
      omega
    · show DL t.kids (t.kids.set i _) ≤ _
      omega

abbrev Big (n : Nat) : Prop := 500000000 < n
theorem Apply_eq (n : Nat) (t : Nd) (k : Int) (row : List Int) (at' m : Int) (nodes : List Nd) (slot : Int) (old text : List UInt8) (hn : Big n) (ht : t.w ≤ 50000000) (hb : Nd.ws nodes ≤ 1048576) (hx : text.length ≤ 1048576) (hr : row.length ≤ 1048576) :
    ∃ t' c, m_r12_Apply n t (k, row, at', m, nodes, slot, old, text) = some (t', c) ∧
      (c = 0 → validB t' = true ∧ t'.w ≤ t.w + 2097155 ∧ ((k = 1 ∨ k = 2) → DL t.kids t'.kids ≤ Nd.cnts nodes) ∧ (k = 5 → DL t.kids t'.kids ≤ 1)) := by
  have hn' : 500000000 < n := hn
  have v1 := r09_Valid_eq n t (by omega) (by omega)
  obtain ⟨b, f1, f2⟩ := Formed_eq n k row at' m nodes slot old text (by omega) (by omega)
  obtain ⟨r, ok, g1, g2⟩ := find_eq n t row (by omega)
  have hput : ∀ l : List Nd, l.length ≤ 1073741824 → Sub t row r → _ := fun l hl hs => put_eq n hs l (by omega) (by omega) hl
  have hsw : Sub t row r → _ := fun h => Sub_w h
  have wr := w_kids r
  have hch : ok = true → b = true → _ := fun h1 h2 => change_eq n r.kids k row at' m nodes slot old text (by have := hsw (g2 h1); omega) (by have := hsw (g2 h1); omega) (by omega) (f2 h2)
  obtain ⟨t1, t2, t3, t4⟩ := t
  have hrow : m_r09_Row n (.mk t1 t2 t3 t4) row = some (bif validB (.mk t1 t2 t3 t4) then (bif ok then (r, 0) else (.mk 0 [] 0 [], 8)) else (.mk 0 [] 0 [], 1)) := by
    obtain ⟨r1, r2, r3, r4⟩ := r
    unfold m_r09_Row
    simp only [v1, g1, Option.bind_some]
    cases validB (.mk t1 t2 t3 t4) <;> cases ok <;> rfl
  unfold m_r12_Apply
  simp only [v1, f1, hrow, Option.bind_some]
  cases validB (.mk t1 t2 t3 t4) with
  | false => exact ⟨_, 1, rfl, fun h => by cases h⟩
  | true =>
    cases b with
    | false => exact ⟨_, 4, rfl, fun h => by cases h⟩
    | true =>
      cases ok with
      | false => exact ⟨_, 8, rfl, fun h => by cases h⟩
      | true =>
        obtain ⟨l, c, c1, c2⟩ := hch rfl rfl
        have hs := g2 rfl
        have hsw' := hsw hs
        obtain ⟨r1, r2, r3, r4⟩ := r
        simp only [Nd.kids] at c1 c2 wr
        simp only [cond_true, Bool.not_true, cond_false, bne_self_eq_false, c1, Option.bind_some]
        by_cases h0 : c = 0
        · subst h0
          obtain ⟨x1, x2, x3⟩ := c2 rfl
          have ll := Nd.ws_len l
          obtain ⟨t', p1, p2, p3⟩ := hput l (by omega) hs
          simp only [Nd.kids] at p2 p3
          have v2 := r09_Valid_eq n t' (by omega) (by omega)
          obtain ⟨s1, s2, s3, s4⟩ := t'
          simp only [bne_self_eq_false, cond_false, p1, v2, Option.bind_some]
          cases hv : validB (.mk s1 s2 s3 s4) with
          | false => exact ⟨_, 6, rfl, fun h => by cases h⟩
          | true =>
            refine ⟨_, 0, rfl, fun _ => ⟨hv, by omega, fun h => ?_, fun h => ?_⟩⟩
            · simp only [Nd.kids]; exact Nat.le_trans p3 (x2 h)
            · simp only [Nd.kids]; exact Nat.le_trans p3 (x3 h)
        · have : (c != 0) = true := by unfold bne; rw [ne_beq h0]; rfl
          rw [this]
          exact ⟨_, c, rfl, fun h => absurd h h0⟩

/- weights -/
def wt1 (o : Op8) : Option Nat := if o.1 = 1 ∨ o.1 = 2 then some (Nd.cnts o.nodes) else if o.1 = 5 then some 1 else none
def wts : List Op8 → Option Nat
  | [] => some 0
  | o :: os => (wt1 o).bind fun w => (wts os).map fun v => w + v
theorem wts_drop {l : List Op8} {i : Nat} (h : i < l.length) : wts (l.drop i) = (wt1 l[i]).bind fun w => (wts (l.drop (i + 1))).map fun v => w + v := by
  rw [List.drop_eq_getElem_cons h]; rfl
def Small (o : Op8) : Prop := Nd.ws o.nodes ≤ 1048576 ∧ o.2.2.2.2.2.2.2.length ≤ 1048576 ∧ o.2.1.length ≤ 1048576
theorem weight2_val (n : Nat) {ops : List Op8} {p : Nat} {k1 : Int} {k2 : List Int} {k3 k4 : Int} {nodes : List Nd} {k5 : Int} {k6 k7 : List UInt8} (hp : at? ops (p : Int) = some (k1, k2, k3, k4, nodes, k5, k6, k7)) (hn : Nd.cnts nodes < n) (hb : Nd.cnts nodes ≤ 1048576) :
    ∀ (k i : Nat) (c : Nat), nodes.length - i < k → i ≤ nodes.length → c ≤ 100000000 - Nd.cnts (nodes.drop i) → Nd.cnts (nodes.drop i) ≤ 1048576 → m_r16_Weight_l2 n ops (p : Int) k (c : Int) (i : Int) = some ((c + Nd.cnts (nodes.drop i) : Nat) : Int)
  | 0, _, _, h, _, _, _ => by omega
  | k + 1, i, c, hk, hi, hc, hcc => by
    have hl := Nd.cnts_len nodes
    unfold m_r16_Weight_l2
    rw [hp]
    simp only [Option.bind_some]
    by_cases h : i < nodes.length
    · rw [dec_t (Int.ofNat_lt.2 h)]
      simp only [cond_true, at_get h, hp, Option.bind_some]
      have hm := Nd.cnts_mem (List.getElem_mem h)
      have hd := Nd.cnts_drop h
      rcases e : nodes[i] with ⟨a, b, c', d⟩
      rw [e] at hm hd
      simp only [r09_Count_eq n _ (show (Nd.mk a b c' d).cnt < n by omega) (by omega), Option.bind_some]
      rw [wi_succ (by omega), wrap64_in (by omega) (by omega), ← Int.natCast_add, weight2_val n hp hn hb k (i + 1) _ (by omega) (by omega) (by omega) (by omega)]
      congr 2; omega
    · rw [dec_f (by omega)]
      obtain rfl : i = nodes.length := by omega
      simp [Nd.cnts]
theorem weight1_val (n : Nat) {ops : List Op8} (hn : Big n) (hs : ∀ o ∈ ops, Small o) (hl : ops.length ≤ 12) :
    ∀ (k i : Nat) (c : Nat), ops.length - i < k → i ≤ ops.length → c ≤ 1048576 * i → m_r16_Weight_l1 n ops k (c : Int) (i : Int) = some (match wts (ops.drop i) with | some W => .go ((c + W : Nat) : Int) | none => .ret (0, 1))
  | 0, _, _, h, _, _ => by omega
  | k + 1, i, c, hk, hi, hc => by
    have hn' : 500000000 < n := hn
    unfold m_r16_Weight_l1
    by_cases h : i < ops.length
    · rw [dec_t (Int.ofNat_lt.2 h), wts_drop h]
      have hm := hs _ (List.getElem_mem h)
      have hp := at_get h
      rcases e : ops[i] with ⟨k1, k2, k3, k4, nodes, k5, k6, k7⟩
      rw [e] at hm hp
      have hns : Nd.ws nodes ≤ 1048576 := hm.1
      have hcn := Nd.cnts_ws nodes
      have hlen := Nd.cnts_len nodes
      have h2 := weight2_val n hp (by omega) (by omega) n 0 c (by omega) (by omega) (by simp only [List.drop_zero]; omega) (by simp only [List.drop_zero]; omega)
      rw [show ((0 : Nat) : Int) = 0 from rfl, List.drop_zero] at h2
      simp only [cond_true, hp, Option.bind_some]
      rw [wi_succ (i := i) (by omega)]
      by_cases hk12 : k1 = 1 ∨ k1 = 2
      · have hb : (bif (k1 == 1) then some (k1 == 1) else some (k1 == 2) : Option Bool) = some true := by rcases hk12 with rfl | rfl <;> rfl
        have hw : wt1 (k1, k2, k3, k4, nodes, k5, k6, k7) = some (Nd.cnts nodes) := if_pos hk12
        rw [hb, hw]
        simp only [Option.bind_some, cond_true, h2]
        rw [weight1_val n hn hs hl k (i + 1) _ (by omega) (by omega) (by omega)]
        cases wts (ops.drop (i + 1)) with
        | none => rfl
        | some W => simp only [Option.map_some]; congr 2; omega
      · have hb : (bif (k1 == 1) then some (k1 == 1) else some (k1 == 2) : Option Bool) = some false := by
          rw [ne_beq (fun h => hk12 (.inl h)), ne_beq (fun h => hk12 (.inr h))]; rfl
        rw [hb]
        simp only [Option.bind_some, cond_false]
        by_cases hk5 : k1 = 5
        · have hw : wt1 (k1, k2, k3, k4, nodes, k5, k6, k7) = some 1 := by unfold wt1; rw [if_neg hk12, if_pos hk5]
          subst hk5
          rw [hw]
          simp only [beq_self_eq_true, Option.bind_some, cond_true]
          rw [wi_succ (i := c) (by omega), weight1_val n hn hs hl k (i + 1) _ (by omega) (by omega) (by omega)]
          cases wts (ops.drop (i + 1)) with
          | none => rfl
          | some W => simp only [Option.map_some]; congr 2; omega
        · have hw : wt1 (k1, k2, k3, k4, nodes, k5, k6, k7) = none := by unfold wt1; rw [if_neg hk12, if_neg hk5]
          rw [hw, ne_beq hk5]
          rfl
    · rw [dec_f (by omega)]
      obtain rfl : i = ops.length := by omega
      rw [List.drop_length]; rfl
theorem Weight_val (n : Nat) {ops : List Op8} (hn : Big n) (hs : ∀ o ∈ ops, Small o) (hl : ops.length ≤ 12) : m_r16_Weight n ops = some (match wts ops with | some W => ((W : Int), 0) | none => (0, 1)) := by
  have hn' : 500000000 < n := hn
  have := weight1_val n hn hs hl n 0 0 (by omega) (by omega) (by omega)
  rw [show ((0 : Nat) : Int) = 0 from rfl, List.drop_zero] at this
  rw [m_r16_Weight, this]
  cases wts ops with
  | none => rfl
  | some W => simp

/- all of them -/
theorem all_loop (n : Nat) {ops : List Op8} (hn : Big n) (hs : ∀ o ∈ ops, Small o) (hl : ops.length ≤ 12) :
    ∀ (q i : Nat) (t : Nd), ops.length - i < q → i ≤ ops.length → validB t = true → t.w ≤ 2000000 + 2097155 * i →
      (∃ r z c, m_r12_ApplyAll_l1 n ops q t.kind t.text t.cols t.kids (i : Int) = some (.ret (r, z, c)) ∧ c ≠ 0) ∨
      ∃ t', m_r12_ApplyAll_l1 n ops q t.kind t.text t.cols t.kids (i : Int) = some (.go (t'.kind, t'.text, t'.cols, t'.kids)) ∧ validB t' = true ∧ t'.w ≤ 50000000 ∧ ∀ W, wts (ops.drop i) = some W → DL t.kids t'.kids ≤ W
  | 0, _, _, h, _, _, _ => by omega
  | q + 1, i, t, hq, hi, hv, hw => by
    unfold m_r12_ApplyAll_l1
    by_cases h : i < ops.length
    · rw [dec_t (Int.ofNat_lt.2 h), wts_drop h]
      have hm := hs _ (List.getElem_mem h)
      have hp := at_get h
      rcases e : ops[i] with ⟨k1, k2, k3, k4, nodes, k5, k6, k7⟩
      rw [e] at hm hp
      obtain ⟨t', c, a1, a2⟩ := Apply_eq n t k1 k2 k3 k4 nodes k5 k6 k7 hn (by omega) hm.1 hm.2.1 hm.2.2
      have ht : Nd.mk t.kind t.text t.cols t.kids = t := by cases t; rfl
      simp only [cond_true, hp, Option.bind_some, ht, a1]
      by_cases hc : c = 0
      · subst hc
        obtain ⟨b1, b2, b3, b4⟩ := a2 rfl
        rw [wi_succ (by omega)]
        have hw2 : t'.w ≤ 2000000 + 2097155 * (i + 1) := by
          rw [Nat.mul_add, Nat.mul_one, ← Nat.add_assoc]
          exact Nat.le_trans b2 (Nat.add_le_add_right hw _)
        have ih := all_loop n hn hs hl q (i + 1) t' (by omega) (by omega) b1 hw2
        obtain ⟨s1, s2, s3, s4⟩ := t'
        simp only [Nd.kind, Nd.text, Nd.cols, Nd.kids] at ih b3 b4
        simp only [bne_self_eq_false, cond_false]
        rcases ih with ih | ⟨t2, d1, d2, d3, d4⟩
        · exact .inl ih
        · obtain ⟨u1, u2, u3, u4⟩ := t2
          refine .inr ⟨.mk u1 u2 u3 u4, d1, d2, d3, fun W hW => ?_⟩
          obtain ⟨w, w1, hW⟩ := bind_out hW
          cases w2 : wts (ops.drop (i + 1)) with
          | none => rw [w2] at hW; cases hW
          | some v =>
            rw [w2] at hW
            simp only [Option.map_some, Option.some.injEq] at hW
            have hd : DL s4 u4 ≤ v := d4 v w2
            have htri := DL_tri t.kids s4 u4
            show DL t.kids u4 ≤ W
            have : DL t.kids s4 ≤ w := by
              unfold wt1 at w1
              split at w1
              · rename_i hk; cases w1; exact b3 hk
              · split at w1
                · rename_i hk; cases w1; exact b4 hk
                · cases w1
            omega
      · have hb : (c != 0) = true := by unfold bne; rw [ne_beq hc]; rfl
        obtain ⟨s1, s2, s3, s4⟩ := t'
        simp only [hb, cond_true]
        exact .inl ⟨_, _, c, rfl, hc⟩
    · rw [dec_f (by omega)]
      obtain rfl : i = ops.length := by omega
      refine .inr ⟨t, rfl, hv, by omega, fun W _ => ?_⟩
      rw [DL_self]; exact Nat.zero_le _
theorem ApplyAll_eq (n : Nat) {ops : List Op8} (hn : Big n) (hs : ∀ o ∈ ops, Small o) (hl : ops.length ≤ 12) (t : Nd) (ht : t.w ≤ 1048576) :
    ∃ t' z c, m_r12_ApplyAll n t ops = some (t', z, c) ∧ (c = 0 → validB t = true ∧ validB t' = true ∧ t'.w ≤ 50000000 ∧ ∀ W, wts ops = some W → DL t.kids t'.kids ≤ W) := by
  have hn' : 500000000 < n := hn
  have v1 := r09_Valid_eq n t (by omega) (by omega)
  have hall : validB t = true → _ := fun hv => all_loop n hn hs hl n 0 t (by omega) (by omega) hv (by omega)
  rw [show ((0 : Nat) : Int) = 0 from rfl, List.drop_zero] at hall
  obtain ⟨a, b, c, d⟩ := t
  unfold m_r12_ApplyAll
  simp only [v1, Option.bind_some]
  cases hv : validB (.mk a b c d) with
  | false => exact ⟨_, _, 1, rfl, fun h => by cases h⟩
  | true =>
    simp only [Nd.kind, Nd.text, Nd.cols, Nd.kids] at hall
    simp only [Bool.not_true, cond_false]
    rcases hall hv with ⟨r, z, c, h1, h2⟩ | ⟨t', h1, h2, h3, h4⟩
    · rw [h1]; exact ⟨_, _, c, rfl, fun h => absurd h h2⟩
    · rw [h1]
      obtain ⟨s1, s2, s3, s4⟩ := t'
      exact ⟨_, 0, 0, rfl, fun _ => ⟨trivial, h2, h3, h4⟩⟩
theorem least_loop (n : Nat) {ops : List Op8} (hn : Big n) (hl : ops.length ≤ 12) : ∀ (k i : Nat), ops.length - i < k → i ≤ ops.length → m_l16_DiffLeast_l1 n ops k (i : Int) = some (.ret true) ∨ m_l16_DiffLeast_l1 n ops k (i : Int) = some (.go ())
  | 0, _, h, _ => by omega
  | k + 1, i, hk, hi => by
    have hn' : 500000000 < n := hn
    unfold m_l16_DiffLeast_l1
    by_cases h : i < ops.length
    · rw [dec_t (Int.ofNat_lt.2 h), cond_true, at_get h]
      rcases e : ops[i] with ⟨k1, k2, k3, k4, nodes, k5, k6, k7⟩
      obtain ⟨b, h1, h2⟩ := Few_eq n (.mk 1 [] 0 nodes) 100 (by omega) (by omega)
      rw [show ((100 : Nat) : Int) = 100 from rfl] at h1
      simp only [Option.bind_some, m_r12_Few, m_r09_ToRow, h1]
      rw [wi_succ (by omega)]
      cases b with
      | false => exact .inl rfl
      | true =>
        simp only [cond_true, Option.bind_some]
        cases decide ((k2.length : Int) ≤ 60) with
        | false => exact .inl rfl
        | true => exact least_loop n hn hl k (i + 1) (by omega) (by omega)
    · rw [dec_f (by omega), cond_false]
      exact .inr rfl
theorem DiffLeast_eq (a : Nd) (ops : List Op8) (ha : a.w ≤ 1048576) (hs : ∀ o ∈ ops, Small o) : m_l16_DiffLeast (600000000 + 60) a ops = some true := by
  have hw := awake_ok 600000000
  obtain ⟨y, f1, f2⟩ := Few_eq (600000000 + 60) a 120 (by omega) (by omega)
  rw [show ((120 : Nat) : Int) = 120 from rfl] at f1
  have hn : Big (600000000 + 60) := by unfold Big; omega
  have hc := Nd.cnt_w a
  have hcost : ∀ t' : Nd, t'.w ≤ 50000000 → t'.cnt ≤ 120 → _ := fun t' h1 h2 => Cost_eq (600000000 + 60) a t' (by omega) (by omega) (by omega) (by omega) (by omega)
  have hfew : ∀ t' : Nd, _ := fun t' => Few_eq (600000000 + 60) t' 120 (by omega) (by omega)
  rw [show ((120 : Nat) : Int) = 120 from rfl] at hfew
  have hall := fun hl => ApplyAll_eq (600000000 + 60) hn hs hl a ha
  have hwt := fun hl => Weight_val (600000000 + 60) hn hs hl
  have hloop := fun hl => least_loop (600000000 + 60) hn (ops := ops) hl (600000000 + 60) 0
  generalize 600000000 + 60 = n at *
  have hn' : 500000000 < n := hn
  obtain ⟨a1, a2, a3, a4⟩ := a
  unfold m_l16_DiffLeast
  simp only [hw, f1, Option.bind_some, Bool.not_true, cond_false]
  cases y with
  | false => rfl
  | true =>
    simp only [Bool.not_true, cond_false, Option.bind_some]
    by_cases hl : 12 < (ops.length : Int)
    · rw [dec_t hl]; rfl
    · rw [dec_f hl, cond_false]
      have hl' : ops.length ≤ 12 := by omega
      rw [show ((0 : Nat) : Int) = 0 from rfl] at hloop
      rcases hloop hl' (by omega) (by omega) with h1 | h1
      · rw [h1]; rfl
      · rw [h1]
        obtain ⟨t', z, c, b1, b2⟩ := hall hl'
        have hwt' := hwt hl'
        obtain ⟨y2, c1, c2⟩ := hfew t'
        have hcost' := hcost t'
        obtain ⟨s1, s2, s3, s4⟩ := t'
        simp only [Option.bind_some, b1, hwt', c1]
        by_cases h0 : c = 0
        · subst h0
          obtain ⟨d1, d2, d3, d4⟩ := b2 rfl
          simp only [bne_self_eq_false, cond_false]
          cases hW : wts ops with
          | none => rfl
          | some W =>
            have := d4 W hW
            simp only [bne_self_eq_false, cond_false, Option.bind_some]
            cases y2 with
            | false => rfl
            | true =>
              simp only [Nd.kids] at hcost' this
              rw [d1, d2] at hcost'
              simp only [Bool.not_true, cond_false, Option.bind_some, hcost' d3 (c2 rfl), Bool.and_self, cond_true, beq_self_eq_true]
              rw [dec_t (by omega)]
        · have : (c != 0) = true := by unfold bne; rw [ne_beq h0]; rfl
          simp only [this, cond_true, Option.bind_some]
end Go.Proofs.Ytplekejomocalaa
