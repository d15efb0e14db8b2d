/-
  EditInvert: for all arguments whose readings are of bulk at most 1048576, the law returns true and its arguments read as before.
-/
import Derived.Test.YtfbggpmdmhgpfaaZf
set_option linter.unusedVariables false
namespace Go.Proofs.Ytfbggpmdmhgpfaa.editInvert
open Go.Abs Go.ChangeShapes Go.WideShapes Go.RowKit
theorem own : ownKnob Try.prog.godebug = none := by kernel_rfl
set_option maxRecDepth 100000 in
theorem lifted (os : Os) (started : os.Started) (H : Type) (enc : TypeId × Value → H) (F : Stop.Interp) :
    ReturnsInHanded {} Try.checked os 9 .any ((Rows.OpenSpec.upto Rows.editInvertSpec).pre6 enc Try.prog Try.f9 Rows.editInvertUptoRow.domain false) (((Rows.OpenSpec.upto Rows.editInvertSpec).at F).post enc Try.prog Try.f9 false true false false) := by
  refine returnsInHanded_of_cond (C := Try.checked) (s := Rows.OpenSpec.upto Rows.editInvertSpec) (k := Rows.uptoSmall) rfl own started (by kernel_rfl) Try.func9
    (OpenSpec.witness (enc := enc) (C := Try.checked) (s := Rows.OpenSpec.upto Rows.editInvertSpec) (k := Rows.uptoSmall) rfl false ⟨#[], #[.slice none 0 0], []⟩ 8 (by kernel_rfl) (by kernel_rfl) (by kernel_rfl)
      (x := ([.nil], [], [])) (by kernel_rfl) rfl (by kernel_rfl)) ?_
  intro W base args' ds gs before hval hW _ hk _
  refine law_contract (s := Rows.editInvertSpec) (fn := Try.f9) tok tcl (by kernel_rfl) ok_l12_EditInvert rfl ?_ rfl Try.underlying4 ?_ ?_ W base args' ds gs before hval hW hk (F := F)
  · intro t ht
    have : t = 42 := by simpa [Try.params9] using ht
    subst this
    · exact ⟨rfl, by kernel_rfl, of_decide_eq_true (by kernel_rfl)⟩
  · intro ds hds
    match ds, hds with
    | [d0], _ => rfl
  · intro sss hs hbk
    obtain ⟨s1, r1, rfl, ⟨n1, t1⟩, rfl⟩ := (hs : ArgsT T [42] sss)
    obtain ⟨ops, rfl⟩ := typed_ops t1
    simp only [bulkLL, bulkL, S.bulk] at hbk
    have hl := ops_len (l := ops)
    refine ⟨_, ops, true, EditInvert_eq ops (by omega) (fun o ho => ?_), rfl, rfl⟩
    have h1 := bulk_mem (f := enc_api_Op) ho
    have h2 := op_bulk o
    exact (show Nd.ws o.2.2.2.2.1 + o.2.2.2.2.2.2.2.length + o.2.1.length ≤ 1048576 by omega)
theorem over : Rows.editInvertUptoRow.holds Try.pinned (Rows.OpenSpec.upto Rows.editInvertSpec) :=
  OpenClaim.holds_of_cond 9 Try.f9 rfl rfl rfl rfl rfl rfl rfl ⟨rfl, rfl, rfl, rfl, rfl⟩ rfl rfl rfl rfl rfl (by kernel_rfl) Try.func9 (by kernel_rfl)
    (of_decide_eq_true (by kernel_rfl)) (by unfold Func.isWrapper; first | (rw [if_pos (by decide +kernel)]; kernel_rfl) | (rw [if_neg (by decide +kernel)]; exact ⟨rfl, rfl⟩))
    (fun os started H enc _ F => lifted os started H enc F)
theorem proved : Rows.EditInvertUptoSaid :=
  over
end Go.Proofs.Ytfbggpmdmhgpfaa.editInvert
