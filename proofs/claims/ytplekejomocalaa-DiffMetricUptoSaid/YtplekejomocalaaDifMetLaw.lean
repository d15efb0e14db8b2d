/-
  DiffMetric: for all arguments whose readings are of bulk at most 1048576, the law returns true and its arguments read as before.
-/
import Derived.Test.YtplekejomocalaaDifWJ
import Derived.Test.YtplekejomocalaaPTyp
import Derived.Test.YtplekejomocalaaPMet
import Derived.Test.YtplekejomocalaaAbsP
set_option linter.unusedVariables false
namespace Go.Proofs.Ytplekejomocalaa.diffMetric
open Go.Abs Go.ChangeShapes Go.WideShapes Go.RowKit

theorem own : ownKnob Try.prog.godebug = none := by kernel_rfl

set_option maxRecDepth 100000 in
theorem lifted (os : Os) (started : os.Started) (H : Type) (enc : TypeId × Value → H) (F : Stop.Interp) :
    ReturnsInHanded {} Try.checked os 5 .any ((Rows.OpenSpec.upto Rows.diffMetricSpec).pre6 enc Try.prog Try.f5 Rows.diffMetricUptoRow.domain false) (((Rows.OpenSpec.upto Rows.diffMetricSpec).at F).post enc Try.prog Try.f5 false true false false) := by
  refine returnsInHanded_of_cond (C := Try.checked) (s := Rows.OpenSpec.upto Rows.diffMetricSpec) (k := Rows.uptoSmall) rfl own started (by kernel_rfl) Try.func5
    (OpenSpec.witness (enc := enc) (C := Try.checked) (s := Rows.OpenSpec.upto Rows.diffMetricSpec) (k := Rows.uptoSmall) rfl false ⟨#[], #[.agg #[.int .i64 0, .string .empty, .int .i64 0, .slice none 0 0], .agg #[.int .i64 0, .string .empty, .int .i64 0, .slice none 0 0], .agg #[.int .i64 0, .string .empty, .int .i64 0, .slice none 0 0]], []⟩ 8 (by kernel_rfl) (by kernel_rfl) (by kernel_rfl)
      (x := ([.agg [.lit (.int .i64 0), .lit (.string []), .lit (.int .i64 0), .nil], .agg [.lit (.int .i64 0), .lit (.string []), .lit (.int .i64 0), .nil], .agg [.lit (.int .i64 0), .lit (.string []), .lit (.int .i64 0), .nil]], [], [])) (by kernel_rfl) rfl (by kernel_rfl)) ?_
  intro W base args' ds gs before hval hW _ hk _
  refine law_contract (s := Rows.diffMetricSpec) (fn := Try.f5) tok tcl (by kernel_rfl) ok_l16_DiffMetric rfl ?_ rfl Try.underlying4 ?_ ?_ W base args' ds gs before hval hW hk (F := F)
  · intro t ht
    have : t = 24 ∨ t = 24 ∨ t = 24 := by simpa [Try.params5] using ht
    rcases this with rfl | rfl | rfl
    · exact ⟨rfl, by kernel_rfl, of_decide_eq_true (by kernel_rfl)⟩
    · exact ⟨rfl, by kernel_rfl, of_decide_eq_true (by kernel_rfl)⟩
    · exact ⟨rfl, by kernel_rfl, of_decide_eq_true (by kernel_rfl)⟩
  · intro ds hds
    match ds, hds with
    | [d0, d1, d2], _ => rfl
  · intro sss hs hbk
    obtain ⟨s1, r1, rfl, ⟨n1, t1⟩, s2, r2, rfl, ⟨n2, t2⟩, s3, r3, rfl, ⟨n3, t3⟩, rfl⟩ := (hs : ArgsT T [24, 24, 24] sss)
    obtain ⟨a, rfl, _⟩ := typed_nd t1
    obtain ⟨b, rfl, _⟩ := typed_nd t2
    obtain ⟨c, rfl, _⟩ := typed_nd t3
    simp only [bulkLL] at hbk
    have ha := Nd.w_bulk a
    have hb := Nd.w_bulk b
    have hc := Nd.w_bulk c
    exact ⟨_, a, b, c, true, DiffMetric_eq a b c (by omega) (by omega) (by omega), rfl, rfl⟩

theorem over : Rows.diffMetricUptoRow.holds Try.pinned (Rows.OpenSpec.upto Rows.diffMetricSpec) :=
  OpenClaim.holds_of_cond 5 Try.f5 rfl rfl rfl rfl rfl rfl rfl ⟨rfl, rfl, rfl, rfl, rfl⟩ rfl rfl rfl rfl rfl (by kernel_rfl) Try.func5 (by kernel_rfl)
    (of_decide_eq_true (by kernel_rfl)) (by unfold Func.isWrapper; first | (rw [if_pos (by decide +kernel)]; kernel_rfl) | (rw [if_neg (by decide +kernel)]; exact ⟨rfl, rfl⟩))
    (fun os started H enc _ F => lifted os started H enc F)

theorem proved : Rows.DiffMetricUptoSaid :=
  over
end Go.Proofs.Ytplekejomocalaa.diffMetric
