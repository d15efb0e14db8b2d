/-
  CodecNext: for all arguments whose readings are of bulk at most 1048576, the law returns true and its arguments read as before.
-/
import Derived.Test.YtjjljekedgdnnaaCodJ
import Derived.Test.YtjjljekedgdnnaaAbsP
set_option linter.unusedVariables false
namespace Go.Proofs.Ytjjljekedgdnnaa.codecNext
open Go.Abs Go.ChangeShapes Go.WideShapes Go.RowKit

theorem own : ownKnob Try.prog.godebug = none := by kernel_rfl

set_option maxRecDepth 100000 in
theorem lifted (os : Os) (started : os.Started) (H : Type) (enc : TypeId × Value → H) (F : Stop.Interp) :
    ReturnsInHanded {} Try.checked os 8 .any ((Rows.OpenSpec.upto Rows.codecNextSpec).pre6 enc Try.prog Try.f8 Rows.codecNextUptoRow.domain false) (((Rows.OpenSpec.upto Rows.codecNextSpec).at F).post enc Try.prog Try.f8 false true false false) := by
  refine returnsInHanded_of_cond (C := Try.checked) (s := Rows.OpenSpec.upto Rows.codecNextSpec) (k := Rows.uptoSmall) rfl own started (by kernel_rfl) Try.func8
    (OpenSpec.witness (enc := enc) (C := Try.checked) (s := Rows.OpenSpec.upto Rows.codecNextSpec) (k := Rows.uptoSmall) rfl false ⟨#[], #[.slice none 0 0], []⟩ 8 (by kernel_rfl) (by kernel_rfl) (by kernel_rfl)
      (x := ([.nil], [], [])) (by kernel_rfl) rfl (by kernel_rfl)) ?_
  intro W base args' ds gs before hval hW _ hk _
  refine law_contract (s := Rows.codecNextSpec) (fn := Try.f8) tok tcl (by kernel_rfl) ok8 rfl ?_ rfl Try.underlying4 ?_ ?_ W base args' ds gs before hval hW hk (F := F)
  · intro t ht
    have : t = 33 := by simpa [Try.params8] using ht
    subst this
    · exact ⟨rfl, by kernel_rfl, of_decide_eq_true (by kernel_rfl)⟩
  · intro ds hds
    match ds, hds with
    | [d0], _ => rfl
  · intro sss hs hbk
    obtain ⟨s1, r1, rfl, ⟨n1, t1⟩, rfl⟩ := (hs : ArgsT T [33] sss)
    obtain ⟨b, rfl, _⟩ := typed_bytes (T := T) rfl rfl rfl rfl t1
    exact ⟨_, b, true, m8_eq b, rfl, rfl⟩

theorem over : Rows.codecNextUptoRow.holds Try.pinned (Rows.OpenSpec.upto Rows.codecNextSpec) :=
  OpenClaim.holds_of_cond 8 Try.f8 rfl rfl rfl rfl rfl rfl rfl ⟨rfl, rfl, rfl, rfl, rfl⟩ rfl rfl rfl rfl rfl (by kernel_rfl) Try.func8 (by kernel_rfl)
    (of_decide_eq_true (by kernel_rfl)) (by unfold Func.isWrapper; first | (rw [if_pos (by decide +kernel)]; kernel_rfl) | (rw [if_neg (by decide +kernel)]; exact ⟨rfl, rfl⟩))
    (fun os started H enc _ F => lifted os started H enc F)

theorem proved : Rows.CodecNextUptoSaid :=
  over
end Go.Proofs.Ytjjljekedgdnnaa.codecNext
