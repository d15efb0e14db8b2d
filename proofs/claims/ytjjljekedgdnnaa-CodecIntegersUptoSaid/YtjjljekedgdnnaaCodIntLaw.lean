/-
  CodecIntegers: for all arguments whose readings are of bulk at most 1048576, the law returns true and its arguments read as before.
-/
import Derived.Test.YtjjljekedgdnnaaCodJ
import Derived.Test.YtjjljekedgdnnaaAbsP
set_option linter.unusedVariables false
namespace Go.Proofs.Ytjjljekedgdnnaa.codecIntegers
open Go.Abs Go.ChangeShapes Go.WideShapes Go.RowKit

theorem own : ownKnob Try.prog.godebug = none := by kernel_rfl

set_option maxRecDepth 100000 in
theorem lifted (os : Os) (started : os.Started) (H : Type) (enc : TypeId × Value → H) (F : Stop.Interp) :
    ReturnsInHanded {} Try.checked os 7 .any ((Rows.OpenSpec.upto Rows.codecIntegersSpec).pre6 enc Try.prog Try.f7 Rows.codecIntegersUptoRow.domain false) (((Rows.OpenSpec.upto Rows.codecIntegersSpec).at F).post enc Try.prog Try.f7 false true false false) := by
  refine returnsInHanded_of_cond (C := Try.checked) (s := Rows.OpenSpec.upto Rows.codecIntegersSpec) (k := Rows.uptoSmall) rfl own started (by kernel_rfl) Try.func7
    (OpenSpec.witness (enc := enc) (C := Try.checked) (s := Rows.OpenSpec.upto Rows.codecIntegersSpec) (k := Rows.uptoSmall) rfl false ⟨#[], #[.int .i64 0, .int .i64 0], []⟩ 8 (by kernel_rfl) (by kernel_rfl) (by kernel_rfl)
      (x := ([.lit (.int .i64 0), .lit (.int .i64 0)], [], [])) (by kernel_rfl) rfl (by kernel_rfl)) ?_
  intro W base args' ds gs before hval hW _ hk _
  refine law_contract (s := Rows.codecIntegersSpec) (fn := Try.f7) tok tcl (by kernel_rfl) ok7 rfl ?_ rfl Try.underlying4 ?_ ?_ W base args' ds gs before hval hW hk (F := F)
  · intro t ht
    have : t = 3 ∨ t = 3 := by simpa [Try.params7] using ht
    rcases this with rfl | rfl
    · exact ⟨rfl, by kernel_rfl, of_decide_eq_true (by kernel_rfl)⟩
    · exact ⟨rfl, by kernel_rfl, of_decide_eq_true (by kernel_rfl)⟩
  · intro ds hds
    match ds, hds with
    | [d0, d1], _ => rfl
  · intro sss hs hbk
    obtain ⟨s1, r1, rfl, ⟨n1, t1⟩, s2, r2, rfl, ⟨n2, t2⟩, rfl⟩ := (hs : ArgsT T [3, 3] sss)
    obtain ⟨x, rfl, x1, x2⟩ := typed_int (T := T) (k := .i64) rfl rfl t1
    obtain ⟨y, rfl, y1, y2⟩ := typed_int (T := T) (k := .i64) rfl rfl t2
    have e : IntKind.i64.min = -9223372036854775808 ∧ IntKind.i64.max = 9223372036854775807 := by decide
    rw [e.1] at x1 y1; rw [e.2] at x2 y2
    exact ⟨_, x, y, true, m7_eq x y ⟨x1, x2⟩ ⟨y1, y2⟩, rfl, rfl⟩

theorem over : Rows.codecIntegersUptoRow.holds Try.pinned (Rows.OpenSpec.upto Rows.codecIntegersSpec) :=
  OpenClaim.holds_of_cond 7 Try.f7 rfl rfl rfl rfl rfl rfl rfl ⟨rfl, rfl, rfl, rfl, rfl⟩ rfl rfl rfl rfl rfl (by kernel_rfl) Try.func7 (by kernel_rfl)
    (of_decide_eq_true (by kernel_rfl)) (by unfold Func.isWrapper; first | (rw [if_pos (by decide +kernel)]; kernel_rfl) | (rw [if_neg (by decide +kernel)]; exact ⟨rfl, rfl⟩))
    (fun os started H enc _ F => lifted os started H enc F)

theorem proved : Rows.CodecIntegersUptoSaid :=
  over
end Go.Proofs.Ytjjljekedgdnnaa.codecIntegers
