/-
  THE TWO WEIGHTS ARE THE SAME.
-/
import Derived.Test.YtplekejomocalaaPCnt
import Derived.Test.YtplekejomocalaaPAwk
set_option linter.unusedVariables false
namespace Go.Proofs.Ytplekejomocalaa
open Go.Abs

abbrev Op8 := Int × List Int × Int × Int × List Nd × Int × List UInt8 × List UInt8
def Op8.nodes (o : Op8) : List Nd := o.2.2.2.2.1

theorem weight2 (n : Nat) {ops : List Op8} {p : Nat} {k1 : Int} {k2 : List Int} {k3 k4 : Int} {nodes : List Nd} {k5 : Int} {k6 k7 : List UInt8} (hp : at? ops (p : Int) = some (k1, k2, k3, k4, nodes, k5, k6, k7)) (hn : Nd.cnts nodes < n) (hb : Nd.cnts nodes ≤ 1000) :
    ∀ (k i : Nat) (c : Int), nodes.length - i < k → i ≤ nodes.length → ∃ r, m_diff_Weight_l2 n nodes k (i : Int) c = some r ∧ m_r16_Weight_l2 n ops (p : Int) k c (i : Int) = some r
  | 0, _, _, h, _ => by omega
  | k + 1, i, c, hk, hi => by
    have hl := Nd.cnts_len nodes
    unfold m_diff_Weight_l2 m_r16_Weight_l2
    rw [hp]
    simp only [Option.bind_some]
    by_cases h : i < nodes.length
    · rw [dec_t (Int.ofNat_lt.2 h)]
      simp only [cond_true, at_get h, Option.bind_some]
      have hm := Nd.cnts_mem (List.getElem_mem h)
      rcases e : nodes[i] with ⟨a, b, c', d⟩
      rw [e] at hm
      simp only [node_Count_eq n _ (show (Nd.mk a b c' d).cnt < n by omega) (by omega), r09_Count_eq n _ (show (Nd.mk a b c' d).cnt < n by omega) (by omega), Option.bind_some]
      rw [wi_succ (by omega)]
      exact weight2 n hp hn hb k (i + 1) _ (by omega) (by omega)
    · rw [dec_f (by omega)]
      exact ⟨c, rfl, rfl⟩
theorem weight1 (n : Nat) {ops : List Op8} (hn : ∀ o ∈ ops, Nd.cnts o.nodes < n ∧ Nd.cnts o.nodes ≤ 1000) (hl : ops.length ≤ 1000) :
    ∀ (k i : Nat) (c : Int), ops.length - i < k → i ≤ ops.length → ∃ r, m_diff_Weight_l1 n ops k (i : Int) c = some r ∧ m_r16_Weight_l1 n ops k c (i : Int) = some r
  | 0, _, _, h, _ => by omega
  | k + 1, i, c, hk, hi => by
    unfold m_diff_Weight_l1 m_r16_Weight_l1
    by_cases h : i < ops.length
    · rw [dec_t (Int.ofNat_lt.2 h)]
      have hm := hn _ (List.getElem_mem h)
      have hp := at_get h
      rcases e : ops[i] with ⟨k1, k2, k3, k4, nodes, k5, k6, k7⟩
      rw [e] at hm hp
      simp only [cond_true, hp, Option.bind_some]
      rw [wi_succ (by omega)]
      have hlen := Nd.cnts_len nodes
      cases k1 == 1 with
      | true =>
        simp only [cond_true, Option.bind_some]
        obtain ⟨r, h1, h2⟩ := weight2 n hp hm.1 hm.2 n 0 c (by have := hm.1; simp only [Op8.nodes] at this; omega) (by omega)
        rw [show ((0 : Nat) : Int) = 0 from rfl] at h1 h2
        simp only [h1, h2, Option.bind_some]
        exact weight1 n hn hl k (i + 1) _ (by omega) (by omega)
      | false =>
        simp only [cond_false, Option.bind_some]
        cases k1 == 2 with
        | true =>
          simp only [cond_true]
          obtain ⟨r, h1, h2⟩ := weight2 n hp hm.1 hm.2 n 0 c (by have := hm.1; simp only [Op8.nodes] at this; omega) (by omega)
          rw [show ((0 : Nat) : Int) = 0 from rfl] at h1 h2
          simp only [h1, h2, Option.bind_some]
          exact weight1 n hn hl k (i + 1) _ (by omega) (by omega)
        | false =>
          simp only [cond_false]
          cases k1 == 5 with
          | true =>
            simp only [cond_true, Option.bind_some]
            exact weight1 n hn hl k (i + 1) _ (by omega) (by omega)
          | false =>
            simp only [cond_false, Option.bind_some]
            exact ⟨_, rfl, rfl⟩
    · rw [dec_f (by omega)]
      exact ⟨_, rfl, rfl⟩
theorem weights (n : Nat) {ops : List Op8} (hn : ∀ o ∈ ops, Nd.cnts o.nodes < n ∧ Nd.cnts o.nodes ≤ 1000) (hl : ops.length ≤ 1000) (hl2 : ops.length < n) : ∃ r, m_diff_Weight n ops = some r ∧ m_r16_Weight n ops = some r := by
  obtain ⟨r, h1, h2⟩ := weight1 n hn hl n 0 0 (by omega) (by omega)
  rw [show ((0 : Nat) : Int) = 0 from rfl] at h1 h2
  simp only [m_diff_Weight, m_r16_Weight, h1, h2, Option.bind_some]
  cases r with
  | ret r => exact ⟨_, rfl, rfl⟩
  | go r => exact ⟨_, rfl, rfl⟩
theorem dw_loop (n : Nat) (hn : 202 < n) {ops : List Op8} (hl : ops.length ≤ 1000) : ∀ (k i : Nat), ops.length - i < k → i ≤ ops.length → (∀ (j : Nat) (o : Op8), j < i → ops[j]? = some o → Nd.cnts o.nodes ≤ 200) →
    m_l16_DiffWeight_l1 n ops k (i : Int) = some (.ret true) ∨ (m_l16_DiffWeight_l1 n ops k (i : Int) = some (.go ()) ∧ ∀ o ∈ ops, Nd.cnts o.nodes ≤ 200)
  | 0, _, h, _, _ => by omega
  | k + 1, i, hk, hi, hI => by
    unfold m_l16_DiffWeight_l1
    by_cases h : i < ops.length
    · rw [dec_t (Int.ofNat_lt.2 h), cond_true, at_get h]
      rcases e : ops[i] with ⟨k1, k2, k3, k4, nodes, k5, k6, k7⟩
      obtain ⟨b, h1, h2⟩ := Few_eq n (.mk 1 [] 0 nodes) 200 (by omega) (by omega)
      rw [show ((200 : Nat) : Int) = 200 from rfl] at h1
      simp only [Option.bind_some, m_r09_ToRow, h1]
      cases b with
      | false => exact .inl rfl
      | true =>
        simp only [Bool.not_true, cond_false]
        rw [wi_succ (by omega)]
        refine dw_loop n hn hl k (i + 1) (by omega) (by omega) fun j o hj ho => ?_
        by_cases hji : j = i
        · subst hji
          rw [List.getElem?_eq_getElem h, e] at ho
          cases ho
          have := h2 rfl
          simp only [Nd.cnt] at this
          show Nd.cnts nodes ≤ 200
          omega
        · exact hI j o (by omega) ho
    · rw [dec_f (by omega), cond_false]
      refine .inr ⟨rfl, fun o ho => ?_⟩
      obtain ⟨j, hj, rfl⟩ := List.mem_iff_getElem.1 ho
      exact hI j _ (by omega) (List.getElem?_eq_getElem hj)
theorem DiffWeight_eq (ops : List Op8) : m_l16_DiffWeight (ops.length + 1000) ops = some true := by
  have ha := awake_ok (ops.length + 940)
  rw [show ops.length + 940 + 60 = ops.length + 1000 by omega] at ha
  simp only [m_l16_DiffWeight, ha, Option.bind_some, Bool.not_true, cond_false]
  by_cases h : 30 < (ops.length : Int)
  · rw [dec_t h, cond_true]
  · rw [dec_f h, cond_false]
    rcases dw_loop (ops.length + 1000) (by omega) (ops := ops) (by omega) (ops.length + 1000) 0 (by omega) (by omega) (fun j o hj => by omega) with h1 | ⟨h1, h2⟩
    · rw [show ((0 : Nat) : Int) = 0 from rfl] at h1
      rw [h1]; rfl
    · rw [show ((0 : Nat) : Int) = 0 from rfl] at h1
      obtain ⟨⟨r1, r2⟩, g1, g2⟩ := weights (ops.length + 1000) (ops := ops) (fun o ho => by have := h2 o ho; omega) (by omega) (by omega)
      simp only [h1, g1, g2, Option.bind_some, beq_self_eq_true, cond_true]
end Go.Proofs.Ytplekejomocalaa
