/-
  ONE OPERATION: what it costs and what it brings.
-/
import Derived.Test.YtplekejomocalaaPLeast
set_option linter.unusedVariables false
set_option linter.unusedSimpArgs false
namespace Go.Proofs.Ytplekejomocalaa
open Go.Abs

/-- What a change of the row a to l may be, by the operation's kind. -/
def Fits (k : Int) (nodes : List Nd) (text : List UInt8) (a l : List Nd) : Prop :=
  Nd.ws l ≤ Nd.ws a + Nd.ws nodes + text.length + 3 ∧ ((k = 1 ∨ k = 2) → DL a l ≤ Nd.cnts nodes) ∧ (k = 5 → DL a l ≤ 1)
theorem seg_ws (l : List Nd) {p q : Nat} (h : p ≤ q) : Nd.ws ((l.take q).drop p) ≤ Nd.ws l := by
  have := ws_splice l [] h
  simp only [Nd.ws] at this; omega
theorem seg_one (l : List Nd) {p : Nat} (h : p < l.length) : (l.take (p + 1)).drop p = [l[p]] := by
  rw [List.take_succ_eq_append_getElem h, List.drop_append_of_le_length (by simp; omega), List.drop_take]
  simp
theorem change_eq (n : Nat) (a : List Nd) (k : Int) (row : List Int) (at' m : Int) (nodes : List Nd) (slot : Int) (old text : List UInt8) (hn : 2 * Nd.ws a + 2 * Nd.ws nodes + 50 < n) (ha : Nd.ws a ≤ 60000000) (hb : Nd.ws nodes ≤ 2000000)
    (hk : (k = 1 ∨ k = 2 ∨ k = 5) ∨ ((k = 3 ∨ k = 4) ∧ 0 ≤ m ∧ ∃ v, nodes = [v] ∧ 0 ≤ slot ∧ slot < (v.kids.length : Int))) :
    ∃ l c, m_r12_change n a (k, row, at', m, nodes, slot, old, text) = some (l, c) ∧ (c = 0 → Fits k nodes text a l) := by
  have la := Nd.ws_len a
  have lb := Nd.ws_len nodes
  have cb := Nd.cnts_ws nodes
  have hx : ∃ x : Int, (bif (k == 1) then some 0 else bif (k == 2) then some (nodes.length : Int) else bif (k == 3) then some m else some 1 : Option Int) = some x ∧ 0 ≤ x ∧
      (k = 1 → x = 0) ∧ (k = 2 → x = (nodes.length : Int)) ∧ (k = 4 ∨ k = 5 → x = 1) := by
    rcases hk with (rfl | rfl | rfl) | ⟨rfl | rfl, hm, _⟩
    · exact ⟨0, rfl, by omega, by omega, by omega, by omega⟩
    · exact ⟨(nodes.length : Int), rfl, by omega, by omega, by omega, by omega⟩
    · exact ⟨1, rfl, by omega, by omega, by omega, by omega⟩
    · exact ⟨m, rfl, by omega, by omega, by omega, by omega⟩
    · exact ⟨1, rfl, by omega, by omega, by omega, by omega⟩
  obtain ⟨x, x1, x0, xk1, xk2, xk45⟩ := hx
  unfold m_r12_change
  dsimp only
  rw [x1]
  simp only [Option.bind_some]
  by_cases h1 : at' < 0
  · rw [dec_t h1]; exact ⟨[], 2, rfl, fun h => by cases h⟩
  rw [dec_f h1]
  by_cases h2 : (a.length : Int) < at'
  · rw [dec_t h2]; exact ⟨[], 2, rfl, fun h => by cases h⟩
  rw [dec_f h2, wrap64_in (n := (a.length : Int) - at') (by omega) (by omega)]
  by_cases h3 : (a.length : Int) - at' < x
  · rw [dec_t h3]; exact ⟨[], 2, rfl, fun h => by cases h⟩
  rw [dec_f h3]
  simp only [cond_false, Option.bind_some]
  obtain ⟨p, rfl⟩ := Int.eq_ofNat_of_zero_le (show 0 ≤ at' by omega)
  obtain ⟨y, rfl⟩ := Int.eq_ofNat_of_zero_le x0
  rw [wrap64_in (n := (p : Int) + (y : Int)) (by omega) (by omega), ← Int.natCast_add]
  have hpq : p ≤ p + y := Nat.le_add_right _ _
  have hseg := seg_ws a hpq
  have lseg := Nd.ws_len ((a.take (p + y)).drop p)
  have hsp : ∀ by' : List Nd, by'.length ≤ 1073741824 → m_r12_splice a (p : Int) ((p + y : Nat) : Int) by' = some ((a.take p ++ by') ++ a.drop (p + y)) := fun by' hby => splice_eq a by' p (p + y) (by omega) (by omega) (by omega) hby
  have hws : ∀ by' : List Nd, _ := fun by' => ws_splice a by' hpq
  have hdl : ∀ (by' : List Nd) (c : Nat), Al ((a.take (p + y)).drop p) by' c → DL a ((a.take p ++ by') ++ a.drop (p + y)) ≤ c := fun by' c => DL_splice a by' hpq
  by_cases k1 : k = 1
  · subst k1
    obtain rfl : y = 0 := by have := xk1 rfl; omega
    simp only [beq_self_eq_true, cond_true]
    rw [hsp nodes (by omega)]
    refine ⟨_, _, rfl, fun _ => ⟨by have := hws nodes; omega, fun _ => ?_, fun h => by cases h⟩⟩
    refine hdl nodes _ ?_
    rw [Nat.add_zero, List.drop_eq_nil_of_le (by rw [List.length_take]; exact Nat.min_le_left _ _)]
    exact Al_ins_all nodes
  rw [ne_beq k1, cond_false]
  by_cases k2 : k = 2
  · subst k2
    simp only [beq_self_eq_true, cond_true]
    rw [req_t ⟨by omega, by omega, by omega⟩, Int.toNat_natCast, Int.toNat_natCast]
    have cseg := Nd.cnts_ws ((a.take (p + y)).drop p)
    obtain ⟨r, r1, r2⟩ := (Equal_eq n).2 ((a.take (p + y)).drop p) nodes (by omega) (by omega)
    rw [r1]
    simp only [Option.bind_some]
    cases r with
    | false => exact ⟨[], 7, rfl, fun h => by cases h⟩
    | true =>
      simp only [Bool.not_true, cond_false]
      rw [hsp [] (by simp)]
      refine ⟨_, _, rfl, fun _ => ⟨by have := hws []; simp only [Nd.ws] at this; omega, fun _ => ?_, fun h => by cases h⟩⟩
      refine hdl [] _ ?_
      rw [r2.1 rfl]
      exact Al_del_all nodes
  rw [ne_beq k2, cond_false]
  have hk' : k = 5 ∨ ((k = 3 ∨ k = 4) ∧ 0 ≤ m ∧ ∃ v, nodes = [v] ∧ 0 ≤ slot ∧ slot < (v.kids.length : Int)) := by
    rcases hk with (h | h | h) | h
    · exact absurd h k1
    · exact absurd h k2
    · exact .inl h
    · exact .inr h
  by_cases k3 : k = 3
  · subst k3
    obtain ⟨_, _, v, rfl, s0, s1⟩ := hk'.resolve_left (by omega)
    obtain ⟨s, rfl⟩ := Int.eq_ofNat_of_zero_le s0
    have hs : s < v.kids.length := by omega
    have e0 : at? [v] (0 : Int) = some v := rfl
    have wv := w_kids v
    have lv := Nd.ws_len v.kids
    have hv2 : Nd.ws [v] = v.w + 1 := by simp [Nd.ws]
    have hf := filled_eq v s ((a.take (p + y)).drop p) hs (by omega) (by omega)
    have hset := ws_set hs (.mk 1 [] 0 ((a.take (p + y)).drop p))
    obtain ⟨v1, v2, v3, v4⟩ := v
    simp only [beq_self_eq_true, cond_true, e0, Option.bind_some]
    rw [req_t ⟨by omega, by omega, by omega⟩, Int.toNat_natCast, Int.toNat_natCast, hf]
    simp only [Option.bind_some]
    rw [hsp _ (by simp)]
    refine ⟨_, _, rfl, fun _ => ⟨?_, fun h => by omega, fun h => by cases h⟩⟩
    have h9 := hws [Nd.mk (Nd.mk v1 v2 v3 v4).kind (Nd.mk v1 v2 v3 v4).text (Nd.mk v1 v2 v3 v4).cols ((Nd.mk v1 v2 v3 v4).kids.set s (.mk 1 [] 0 ((a.take (p + y)).drop p)))]
    have hq : Nd.ws [Nd.mk (Nd.mk v1 v2 v3 v4).kind (Nd.mk v1 v2 v3 v4).text (Nd.mk v1 v2 v3 v4).cols ((Nd.mk v1 v2 v3 v4).kids.set s (.mk 1 [] 0 ((a.take (p + y)).drop p)))] = (Nd.mk v1 v2 v3 v4).text.length + Nd.ws ((Nd.mk v1 v2 v3 v4).kids.set s (.mk 1 [] 0 ((a.take (p + y)).drop p))) + 1 + 1 := by simp [Nd.ws, Nd.w]
    have hm : (Nd.mk 1 [] 0 ((a.take (p + y)).drop p)).w = Nd.ws ((a.take (p + y)).drop p) + 1 := by simp [Nd.w]
    rw [hq] at h9
    rw [hm] at hset
    omega
  rw [ne_beq k3, cond_false]
  obtain rfl : y = 1 := by
    have := xk45 (by rcases hk' with h | ⟨h | h, _⟩; · exact .inr h
                     · exact absurd h k3
                     · exact .inl h)
    omega
  have hp : p < a.length := by omega
  have hone := seg_one a hp
  rw [at_get hp]
  have hwp := w_get hp
  rw [hone] at hws hdl
  generalize a[p] = e at hws hdl hwp
  have we := w_kids e
  have le := Nd.ws_len e.kids
  by_cases k4 : k = 4
  · subst k4
    obtain ⟨_, _, v, rfl, s0, s1⟩ := hk'.resolve_left (by omega)
    obtain ⟨s, rfl⟩ := Int.eq_ofNat_of_zero_le s0
    have hs : s < v.kids.length := by omega
    have e0 : at? [v] (0 : Int) = some v := rfl
    have wv := w_kids v
    have lv := Nd.ws_len v.kids
    have hv2 : Nd.ws [v] = v.w + 1 := by simp [Nd.ws]
    have hce := Nd.cnt_w e
    by_cases h4 : (e.kids.length : Int) ≤ (s : Int)
    · obtain ⟨e1, e2, e3, e4⟩ := e
      simp only [Nd.kids] at h4
      simp only [beq_self_eq_true, cond_true, Option.bind_some, dec_t h4]
      exact ⟨[], 7, rfl, fun h => by cases h⟩
    · have hs2 : s < e.kids.length := by omega
      have hg := at_get hs2
      have hwu := w_get hs2
      generalize e.kids[s] = u at hg hwu
      have wu := w_kids u
      have lu := Nd.ws_len u.kids
      have hf := filled_eq v s u.kids hs (by omega) (by omega)
      obtain ⟨r, r1, r2⟩ := (Equal_eq n).1 e (Nd.mk v.kind v.text v.cols (v.kids.set s (.mk 1 [] 0 u.kids))) (by omega) (by omega)
      obtain ⟨e1, e2, e3, e4⟩ := e
      obtain ⟨v1, v2, v3, v4⟩ := v
      obtain ⟨u1, u2, u3, u4⟩ := u
      simp only [Nd.kids] at h4 hg
      simp only [Nd.kind, Nd.text, Nd.cols, Nd.kids] at hf r1
      simp only [beq_self_eq_true, cond_true, Option.bind_some, dec_f h4, cond_false, hg]
      cases ((u4.length : Int) != m) with
      | true => exact ⟨[], 7, rfl, fun h => by cases h⟩
      | false =>
        simp only [cond_false, e0, hf, r1, Option.bind_some]
        cases r with
        | false => exact ⟨[], 7, rfl, fun h => by cases h⟩
        | true =>
          simp only [Bool.not_true, cond_false]
          simp only [Nd.kids] at lu wu hwu we
          rw [hsp u4 (by omega)]
          refine ⟨_, _, rfl, fun _ => ⟨?_, fun h => by omega, fun h => by cases h⟩⟩
          have := hws u4
          simp only [Nd.ws] at this
          omega
  rw [ne_beq k4]
  obtain rfl : k = 5 := by
    rcases hk' with h | ⟨h | h, _⟩
    · exact h
    · exact absurd h k3
    · exact absurd h k4
  obtain ⟨e1, e2, e3, e4⟩ := e
  simp only [cond_false, Option.bind_some]
  have hkk : ∃ z : Bool, (bif (e1 == 2) then some (e1 == 2) else bif (e1 == 3) then some (e1 == 3) else bif (e1 == 4) then some (e1 == 4) else bif (e1 == 10) then some (e1 == 10) else some (e1 == 11) : Option Bool) = some z := by
    cases e1 == 2 <;> cases e1 == 3 <;> cases e1 == 4 <;> cases e1 == 10 <;> exact ⟨_, rfl⟩
  obtain ⟨z, hz⟩ := hkk
  rw [hz]
  simp only [Option.bind_some]
  cases z with
  | false => exact ⟨[], 7, rfl, fun h => by cases h⟩
  | true =>
    cases e2 == old with
    | false => exact ⟨[], 7, rfl, fun h => by cases h⟩
    | true =>
      simp only [cond_true]
      rw [hsp _ (by simp)]
      refine ⟨_, _, rfl, fun _ => ⟨?_, fun h => by omega, fun _ => ?_⟩⟩
      · have := hws [Nd.mk e1 text e3 e4]
        simp only [Nd.ws, Nd.w, Nd.text, Nd.kids] at this we
        omega
      · have hal : alikeB (Nd.mk e1 e2 e3 e4) (Nd.mk e1 text e3 e4) = true := alike_iff.2 ⟨rfl, rfl, rfl⟩
        have := hdl _ _ (Al.mat hal .nil)
        have hD := D_eq (Nd.mk e1 e2 e3 e4) (Nd.mk e1 text e3 e4)
        have hs := sum_self e4 fun u _ => DL_self u.kids
        have ht := txt_le (Nd.mk e1 e2 e3 e4) (Nd.mk e1 text e3 e4)
        simp only [Nd.kids] at hD
        omega
end Go.Proofs.Ytplekejomocalaa
