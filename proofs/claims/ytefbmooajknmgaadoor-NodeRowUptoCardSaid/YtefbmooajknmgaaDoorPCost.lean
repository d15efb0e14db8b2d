/-
  THE COST IS THE DISTANCE.
-/
import Derived.Test.YtefbmooajknmgaaDoorPFill
import Derived.Test.YtefbmooajknmgaaDoorPAwk
set_option linter.unusedVariables false
set_option linter.unusedSimpArgs false
namespace Go.Proofs.YtefbmooajknmgaaDoor
open Go.Abs

theorem few_eq (n : Nat) (a b : Nd) (h : 130 < n) : ∃ y, m_l16_few n a b = some y ∧ (y = true → a.cnt ≤ 120 ∧ b.cnt ≤ 120) := by
  obtain ⟨y1, h1, h2⟩ := Few_eq n a 120 (by omega) (by omega)
  obtain ⟨y2, g1, g2⟩ := Few_eq n b 120 (by omega) (by omega)
  rw [show ((120 : Nat) : Int) = 120 from rfl] at h1 g1
  obtain ⟨a1, a2, a3, a4⟩ := a
  obtain ⟨b1, b2, b3, b4⟩ := b
  unfold m_l16_few
  simp only [h1, g1, Option.bind_some]
  cases y1 with
  | false => exact ⟨false, rfl, fun h => by cases h⟩
  | true => exact ⟨y2, rfl, fun h => ⟨h2 rfl, g2 h⟩⟩
theorem DiffCost_eq (a b : Nd) (ha : a.w ≤ 1048576) (hb : b.w ≤ 1048576) : m_l16_DiffCost (6000000 + 60) a b = some true := by
  have hw := awake_ok 6000000
  obtain ⟨y, f1, f2⟩ := few_eq (6000000 + 60) a b (by omega)
  have e1 := r09_Valid_eq (6000000 + 60) a (by omega) (by omega)
  have e2 := r09_Valid_eq (6000000 + 60) b (by omega) (by omega)
  have e3 := Cost_eq (6000000 + 60) a b (by omega) (by omega) (by omega) (Nat.le_trans (Nd.cnt_w a) ha) (Nat.le_trans (Nd.cnt_w b) hb)
  have c1 := Nd.cnt_w a
  have c2 := Nd.cnt_w b
  have k1 := a.cnt_kids
  have k2 := b.cnt_kids
  have e4 := r16_Distance_eq (6000000 + 60) a.kids b.kids (by omega) (by omega) (by omega)
  generalize 6000000 + 60 = n at *
  obtain ⟨a1, a2, a3, a4⟩ := a
  obtain ⟨b1, b2, b3, b4⟩ := b
  simp only [Nd.kids] at e3 e4
  unfold m_l16_DiffCost
  simp only [hw, f1, e1, e2, e3, e4, Option.bind_some, Bool.not_true, cond_false]
  cases y with
  | false => rfl
  | true =>
    simp only [Bool.not_true, cond_false]
    cases validB (.mk a1 a2 a3 a4) with
    | false => rfl
    | true =>
      cases validB (.mk b1 b2 b3 b4) with
      | false => rfl
      | true => simp only [Bool.and_self, Bool.not_true, cond_true, cond_false, Option.bind_some, beq_self_eq_true]
end Go.Proofs.YtefbmooajknmgaaDoor
