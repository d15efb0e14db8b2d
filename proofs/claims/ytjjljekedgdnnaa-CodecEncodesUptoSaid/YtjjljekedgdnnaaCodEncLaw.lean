/-
  CodecEncodes: for all arguments whose readings are of bulk at most 1048576, the law returns true and its arguments read as before.
-/
import Derived.Test.YtjjljekedgdnnaaCodF
import Derived.Test.YtjjljekedgdnnaaAbsP
set_option linter.unusedVariables false
namespace Go.Proofs.Ytjjljekedgdnnaa.codecEncodes
open Go.Abs Go.ChangeShapes Go.WideShapes Go.RowKit

theorem own : ownKnob Try.prog.godebug = none := by kernel_rfl

set_option maxRecDepth 100000 in
theorem lifted (os : Os) (started : os.Started) (H : Type) (enc : TypeId × Value → H) (F : Stop.Interp) :
    ReturnsInHanded {} Try.checked os 4 .any ((Rows.OpenSpec.upto Rows.codecEncodesSpec).pre6 enc Try.prog Try.f4 Rows.codecEncodesUptoRow.domain false) (((Rows.OpenSpec.upto Rows.codecEncodesSpec).at F).post enc Try.prog Try.f4 false true false false) := by
  refine returnsInHanded_of_cond (C := Try.checked) (s := Rows.OpenSpec.upto Rows.codecEncodesSpec) (k := Rows.uptoSmall) rfl own started (by kernel_rfl) Try.func4
    (OpenSpec.witness (enc := enc) (C := Try.checked) (s := Rows.OpenSpec.upto Rows.codecEncodesSpec) (k := Rows.uptoSmall) rfl false ⟨#[], #[.agg #[.int .i64 0, .int .i64 0, .string .empty, .slice none 0 0]], []⟩ 8 (by kernel_rfl) (by kernel_rfl) (by kernel_rfl)
      (x := ([.agg [.lit (.int .i64 0), .lit (.int .i64 0), .lit (.string []), .nil]], [], [])) (by kernel_rfl) rfl (by kernel_rfl)) ?_
  intro W base args' ds gs before hval hW _ hk _
  refine law_contract (s := Rows.codecEncodesSpec) (fn := Try.f4) tok tcl (by kernel_rfl) ok4 rfl ?_ rfl Try.underlying4 ?_ ?_ W base args' ds gs before hval hW hk (F := F)
  · intro t ht
    have : t = 24 := by simpa [Try.params4] using ht
    subst this
    · exact ⟨rfl, by kernel_rfl, of_decide_eq_true (by kernel_rfl)⟩
  · intro ds hds
    match ds, hds with
    | [d0], _ => rfl
  · intro sss hs hbk
    obtain ⟨s1, r1, rfl, ⟨n1, t1⟩, rfl⟩ := (hs : ArgsT T [24] sss)
    obtain ⟨a, rfl, ha⟩ := typed_value (s := 22) rfl rfl rfl rfl rfl n1 t1
    simp only [bulkLL] at hbk
    have hw := CV.w_bulk a
    exact ⟨_, a, true, m4_eq a (by omega) ha, rfl, rfl⟩

theorem over : Rows.codecEncodesUptoRow.holds Try.pinned (Rows.OpenSpec.upto Rows.codecEncodesSpec) :=
  OpenClaim.holds_of_cond 4 Try.f4 rfl rfl rfl rfl rfl rfl rfl ⟨rfl, rfl, rfl, rfl, rfl⟩ rfl rfl rfl rfl rfl (by kernel_rfl) Try.func4 (by kernel_rfl)
    (of_decide_eq_true (by kernel_rfl)) (by unfold Func.isWrapper; first | (rw [if_pos (by decide +kernel)]; kernel_rfl) | (rw [if_neg (by decide +kernel)]; exact ⟨rfl, rfl⟩))
    (fun os started H enc _ F => lifted os started H enc F)

theorem proved : Rows.CodecEncodesUptoSaid :=
  over
end Go.Proofs.Ytjjljekedgdnnaa.codecEncodes
