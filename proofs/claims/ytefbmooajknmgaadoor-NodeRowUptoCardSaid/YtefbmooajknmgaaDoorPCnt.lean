/-
  NODES COUNTED: the two counts and the budget.
-/
import Derived.Test.YtefbmooajknmgaaDoorMCnt
set_option linter.unusedVariables false
namespace Go.Proofs.YtefbmooajknmgaaDoor
open Go.Abs

theorem dec_t {φ : Prop} [Decidable φ] (h : φ) : decide φ = true := decide_eq_true h
theorem dec_f {φ : Prop} [Decidable φ] (h : ¬ φ) : decide φ = false := decide_eq_false h

/- ref09.Count -/
theorem r09_Count_loop {F : Nd → Option Int} {ks : List Nd} (hF : ∀ v ∈ ks, F v = some (v.cnt : Int)) :
    ∀ (k i : Nat) (o : Nat), ks.length - i < k → i ≤ ks.length → o + Nd.cnts (ks.drop i) ≤ 1073741824 → ks.length ≤ 1073741824 → m_r09_Count_l1 F ks k (o : Int) (i : Int) = some ((o + Nd.cnts (ks.drop i) : Nat) : Int)
  | 0, _, _, h, _, _, _ => by omega
  | k + 1, i, o, hk, hi, ho, hl => by
    unfold m_r09_Count_l1
    by_cases h : i < ks.length
    · rw [dec_t (Int.ofNat_lt.2 h), cond_true, at_get h]
      have hd := Nd.cnts_drop h
      have hf := hF _ (List.getElem_mem h)
      rcases e : ks[i] with ⟨a, b, c, d⟩
      rw [e] at hd hf
      simp only [Option.bind_some, hf]
      rw [wrap64_in (by omega) (by omega), wi_succ (by omega), ← Int.natCast_add, r09_Count_loop hF k (i + 1) _ (by omega) (by omega) (by omega) hl, hd]
      congr 2; omega
    · rw [dec_f (by omega), cond_false]
      obtain rfl : i = ks.length := by omega
      simp [Nd.cnts]
theorem r09_Count_eq : ∀ (n : Nat) (t : Nd), t.cnt < n → t.cnt ≤ 67108864 → m_r09_Count n t = some (t.cnt : Int)
  | 0, _, h, _ => by omega
  | n + 1, .mk a b c ks, h, hb => by
    simp only [Nd.cnt] at h hb
    have hl := Nd.cnts_len ks
    unfold m_r09_Count
    have := r09_Count_loop (F := m_r09_Count n) (ks := ks) (fun v hv => r09_Count_eq n v (by have := Nd.cnts_mem hv; omega) (by have := Nd.cnts_mem hv; omega)) n 0 1 (by omega) (by omega) (by simp; omega) (by omega)
    rw [show ((0 : Nat) : Int) = 0 from rfl, show ((1 : Nat) : Int) = 1 from rfl] at this
    rw [this]
    simp only [Option.bind_some, List.drop_zero, Nd.cnt]
    congr 2; omega

/- node.Count -/
def scnt : List (Nd × Int) → Nat
  | [] => 0
  | p :: l => p.1.cnt + scnt l
theorem scnt_append : ∀ a b : List (Nd × Int), scnt (a ++ b) = scnt a + scnt b
  | [], b => by simp [scnt]
  | v :: a, b => by simp only [List.cons_append, scnt, scnt_append a b]; omega
theorem scnt_len : ∀ a : List (Nd × Int), a.length ≤ scnt a
  | [] => Nat.le_refl _
  | v :: a => by have := scnt_len a; have := v.1.cnt_pos; simp only [scnt, List.length_cons]; omega
theorem each_loop2 {ks : List Nd} {d : Int} : ∀ (k i : Nat) (l : List (Nd × Int)), ks.length - i < k → i ≤ ks.length → scnt l + Nd.cnts (ks.drop i) ≤ 1073741824 → ks.length ≤ 1073741824 →
    ∃ l', m_node_each_l2 ks d k (i : Int) l = some l' ∧ scnt l' = scnt l + Nd.cnts (ks.drop i)
  | 0, _, _, h, _, _, _ => by omega
  | k + 1, i, l, hk, hi, ho, hl => by
    unfold m_node_each_l2
    by_cases h : i < ks.length
    · rw [dec_t (Int.ofNat_lt.2 h), cond_true, at_get h]
      have hd := Nd.cnts_drop h
      rcases e : ks[i] with ⟨a, b, c, e4⟩
      rw [e] at hd
      have hp := (Nd.mk a b c e4).cnt_pos
      have hll := scnt_len l
      simp only [Option.bind_some]
      rw [req_t (by simp only [List.length_singleton]; omega), wi_succ (by omega)]
      have hs : scnt (l ++ [(Nd.mk a b c e4, IntKind.i64.wrap (d + 1))]) = scnt l + (Nd.mk a b c e4).cnt := by rw [scnt_append]; simp [scnt]
      obtain ⟨l', h1, h2⟩ := each_loop2 (ks := ks) (d := d) k (i + 1) (l ++ [(Nd.mk a b c e4, IntKind.i64.wrap (d + 1))]) (by omega) (by omega) (by omega) hl
      exact ⟨l', h1, by omega⟩
    · rw [dec_f (by omega), cond_false]
      obtain rfl : i = ks.length := by omega
      exact ⟨l, rfl, by simp [Nd.cnts]⟩
theorem each_loop1 (n : Nat) : ∀ (k : Nat) (x : Nat) (l : List (Nd × Int)), scnt l < k → scnt l < n → x + scnt l ≤ 67108864 → m_node_each_l1 n k (x : Int) l = some ((x + scnt l : Nat) : Int)
  | 0, _, _, h, _, _ => by omega
  | k + 1, x, l, hk, hn, hx => by
    unfold m_node_each_l1
    rcases List.eq_nil_or_concat l with rfl | ⟨l, p, rfl⟩
    · simp [scnt]
    · rw [List.concat_eq_append] at *
      obtain ⟨⟨a, b, c, ks⟩, d⟩ := p
      have hs : scnt (l ++ [(Nd.mk a b c ks, d)]) = scnt l + (Nd.cnts ks + 1) := by rw [scnt_append]; simp [scnt, Nd.cnt]
      have hll := scnt_len l
      have hlk := Nd.cnts_len ks
      have hlen : ((l ++ [(Nd.mk a b c ks, d)]).length : Int) = (l.length : Int) + 1 := by simp
      have hw : IntKind.i64.wrap (((l ++ [(Nd.mk a b c ks, d)]).length : Int) - 1) = (l.length : Int) := by rw [hlen, wrap64_in (by omega) (by omega)]; omega
      rw [dec_t (by omega), cond_true, hw, at_get (by simp)]
      simp only [List.getElem_concat_length, Option.bind_some]
      rw [req_t (by omega)]
      simp only [m_node_Count_1, Option.bind_some, Int.toNat_natCast, List.take_left]
      obtain ⟨l', h1, h2⟩ := each_loop2 (ks := ks) (d := d) n 0 l (by omega) (by omega) (by simp; omega) (by omega)
      rw [List.drop_zero] at h2
      rw [show ((0 : Nat) : Int) = 0 from rfl] at h1
      rw [h1, Option.bind_some, wi_succ (by omega), each_loop1 n k (x + 1) l' (by omega) (by omega) (by omega)]
      congr 2; omega
theorem node_Count_eq (n : Nat) (t : Nd) (h : t.cnt < n) (hb : t.cnt ≤ 67108864) : m_node_Count n t = some (t.cnt : Int) := by
  obtain ⟨a, b, c, ks⟩ := t
  have := each_loop1 n n 0 [(.mk a b c ks, 1)] (by simpa [scnt] using h) (by simpa [scnt] using h) (by simp only [scnt]; omega)
  rw [show ((0 : Nat) : Int) = 0 from rfl] at this
  simp only [m_node_Count, m_node_each, this, Option.bind_some, scnt]
  congr 2; omega

/- The budget. -/
theorem left_loop {F : Nd → Int → Option Int} {ks : List Nd} {b : Nat} (hF : ∀ (v : Nd) (m : Nat), m ≤ b → ∃ r, F v (m : Int) = some r ∧ -1 ≤ r ∧ r < m ∧ (0 ≤ r → r + v.cnt = m)) :
    ∀ (k i : Nat) (m : Int), m + 1 < k → -1 ≤ m → m ≤ b → i ≤ ks.length → (i : Int) + m < 4611686018427387904 → ∃ r, m_r09_left_l1 F ks k m (i : Int) = some r ∧ -1 ≤ r ∧ r ≤ m ∧ (0 ≤ r → r + Nd.cnts (ks.drop i) = m)
  | 0, _, _, h, _, _, _, _ => by omega
  | k + 1, i, m, hk, hm, hb, hi, hx => by
    unfold m_r09_left_l1
    by_cases h : i < ks.length
    · rw [dec_t (Int.ofNat_lt.2 h), cond_true]
      simp only [Option.bind_some]
      by_cases h0 : 0 ≤ m
      · rw [dec_t h0, cond_true, at_get h]
        have hd := Nd.cnts_drop h
        rcases e : ks[i] with ⟨e1, e2, e3, e4⟩
        rw [e] at hd
        simp only [Option.bind_some]
        obtain ⟨m', rfl⟩ := Int.eq_ofNat_of_zero_le h0
        obtain ⟨r, h1, h2, h3, h4⟩ := hF (.mk e1 e2 e3 e4) m' (by omega)
        rw [h1, Option.bind_some, wi_succ (by omega)]
        obtain ⟨r', g1, g2, g3, g4⟩ := left_loop (ks := ks) hF k (i + 1) r (by omega) h2 (by omega) (by omega) (by omega)
        exact ⟨r', g1, g2, by omega, fun g => by have := g4 g; have := h4 (by omega); omega⟩
      · rw [dec_f h0, cond_false]
        exact ⟨m, rfl, hm, Int.le_refl _, fun g => by omega⟩
    · rw [dec_f (by omega), cond_false]
      simp only [Option.bind_some, cond_false]
      obtain rfl : i = ks.length := by omega
      exact ⟨m, rfl, hm, Int.le_refl _, fun _ => by simp [Nd.cnts]⟩
theorem left_eq : ∀ (n : Nat) (t : Nd) (m : Nat), m + 1 < n → m ≤ 67108864 → ∃ r, m_r09_left n t (m : Int) = some r ∧ -1 ≤ r ∧ r < m ∧ (0 ≤ r → r + t.cnt = m)
  | 0, _, _, h, _ => by omega
  | n + 1, .mk a b c ks, m, h, hm => by
    unfold m_r09_left
    rw [wrap64_in (by omega) (by omega)]
    cases m with
    | zero =>
      cases n with
      | zero => omega
      | succ n =>
        refine ⟨-1, ?_, by omega, by omega, fun h => by omega⟩
        unfold m_r09_left_l1
        cases decide (((0 : Nat) : Int) < (ks.length : Int)) <;> simp <;> rfl
    | succ m =>
      obtain ⟨r, h1, h2, h3, h4⟩ := left_loop (F := m_r09_left n) (ks := ks) (b := m) (fun v q hq => left_eq n v q (by omega) (by omega)) n 0 (m : Int) (by omega) (by omega) (by omega) (by omega) (by omega)
      rw [show ((0 : Nat) : Int) = 0 from rfl] at h1
      rw [show ((m + 1 : Nat) : Int) - 1 = (m : Int) by omega, h1]
      exact ⟨r, rfl, h2, by omega, fun g => by have := h4 g; rw [List.drop_zero] at this; simp only [Nd.cnt]; omega⟩
theorem Few_eq (n : Nat) (t : Nd) (m : Nat) (h : m + 1 < n) (hm : m ≤ 67108864) : ∃ b, m_r09_Few n t (m : Int) = some b ∧ (b = true → t.cnt ≤ m) := by
  obtain ⟨a, b, c, ks⟩ := t
  obtain ⟨r, h1, h2, h3, h4⟩ := left_eq n (.mk a b c ks) m h hm
  refine ⟨decide (0 ≤ r), by simp [m_r09_Few, h1], fun g => by have g0 := of_decide_eq_true g; have := h4 g0; omega⟩
end Go.Proofs.YtefbmooajknmgaaDoor
