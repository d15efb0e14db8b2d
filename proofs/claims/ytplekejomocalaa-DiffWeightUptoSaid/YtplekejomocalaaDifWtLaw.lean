/-
  DiffWeight: for all arguments whose readings are of bulk at most 1048576, the law returns true and its arguments read as before.
-/
import Derived.Test.YtplekejomocalaaDifWJ
import Derived.Test.YtplekejomocalaaPTyp
import Derived.Test.YtplekejomocalaaPWt
import Derived.Test.YtplekejomocalaaAbsP
set_option linter.unusedVariables false
namespace Go.Proofs.Ytplekejomocalaa.diffWeight
open Go.Abs Go.ChangeShapes Go.WideShapes Go.RowKit

theorem own : ownKnob Try.prog.godebug = none := by kernel_rfl

set_option maxRecDepth 100000 in
theorem lifted (os : Os) (started : os.Started) (H : Type) (enc : TypeId × Value → H) (F : Stop.Interp) :
    ReturnsInHanded {} Try.checked os 6 .any ((Rows.OpenSpec.upto Rows.diffWeightSpec).pre6 enc Try.prog Try.f6 Rows.diffWeightUptoRow.domain false) (((Rows.OpenSpec.upto Rows.diffWeightSpec).at F).post enc Try.prog Try.f6 false true false false) := by
  refine returnsInHanded_of_cond (C := Try.checked) (s := Rows.OpenSpec.upto Rows.diffWeightSpec) (k := Rows.uptoSmall) rfl own started (by kernel_rfl) Try.func6
    (OpenSpec.witness (enc := enc) (C := Try.checked) (s := Rows.OpenSpec.upto Rows.diffWeightSpec) (k := Rows.uptoSmall) rfl false ⟨#[], #[.slice none 0 0], []⟩ 8 (by kernel_rfl) (by kernel_rfl) (by kernel_rfl)
      (x := ([.nil], [], [])) (by kernel_rfl) rfl (by kernel_rfl)) ?_
  intro W base args' ds gs before hval hW _ hk _
  refine law_contract (s := Rows.diffWeightSpec) (fn := Try.f6) tok tcl (by kernel_rfl) ok_l16_DiffWeight rfl ?_ rfl Try.underlying4 ?_ ?_ W base args' ds gs before hval hW hk (F := F)
  · intro t ht
    have : t = 32 := by simpa [Try.params6] using ht
    subst this
    · exact ⟨rfl, by kernel_rfl, of_decide_eq_true (by kernel_rfl)⟩
  · intro ds hds
    match ds, hds with
    | [d0], _ => rfl
  · intro sss hs hbk
    obtain ⟨s1, r1, rfl, ⟨n1, t1⟩, rfl⟩ := (hs : ArgsT T [32] sss)
    obtain ⟨ops, rfl⟩ := typed_ops t1
    exact ⟨_, ops, true, DiffWeight_eq ops, rfl, rfl⟩

theorem over : Rows.diffWeightUptoRow.holds Try.pinned (Rows.OpenSpec.upto Rows.diffWeightSpec) :=
  OpenClaim.holds_of_cond 6 Try.f6 rfl rfl rfl rfl rfl rfl rfl ⟨rfl, rfl, rfl, rfl, rfl⟩ rfl rfl rfl rfl rfl (by kernel_rfl) Try.func6 (by kernel_rfl)
    (of_decide_eq_true (by kernel_rfl)) (by unfold Func.isWrapper; first | (rw [if_pos (by decide +kernel)]; kernel_rfl) | (rw [if_neg (by decide +kernel)]; exact ⟨rfl, rfl⟩))
    (fun os started H enc _ F => lifted os started H enc F)

theorem proved : Rows.DiffWeightUptoSaid :=
  over
end Go.Proofs.Ytplekejomocalaa.diffWeight
