/-
  EditUndoAll: for all arguments whose readings are of bulk at most 1048576, the law returns true and its arguments read as before.
-/
import Derived.Test.YtfbggpmdmhgpfaaZf
set_option linter.unusedVariables false
namespace Go.Proofs.Ytfbggpmdmhgpfaa.editUndoAll
open Go.Abs Go.ChangeShapes Go.WideShapes Go.RowKit
theorem own : ownKnob Try.prog.godebug = none := by kernel_rfl
set_option maxRecDepth 100000 in
theorem lifted (os : Os) (started : os.Started) (H : Type) (enc : TypeId × Value → H) (F : Stop.Interp) :
    ReturnsInHanded {} Try.checked os 10 .any ((Rows.OpenSpec.upto Rows.editUndoAllSpec).pre6 enc Try.prog Try.f10 Rows.editUndoAllUptoRow.domain false) (((Rows.OpenSpec.upto Rows.editUndoAllSpec).at F).post enc Try.prog Try.f10 false true false false) := by
  refine returnsInHanded_of_cond (C := Try.checked) (s := Rows.OpenSpec.upto Rows.editUndoAllSpec) (k := Rows.uptoSmall) rfl own started (by kernel_rfl) Try.func10
    (OpenSpec.witness (enc := enc) (C := Try.checked) (s := Rows.OpenSpec.upto Rows.editUndoAllSpec) (k := Rows.uptoSmall) rfl false ⟨#[], #[.agg #[.int .i64 0, .string .empty, .int .i64 0, .slice none 0 0], .slice none 0 0], []⟩ 8 (by kernel_rfl) (by kernel_rfl) (by kernel_rfl)
      (x := ([.agg [.lit (.int .i64 0), .lit (.string []), .lit (.int .i64 0), .nil], .nil], [], [])) (by kernel_rfl) rfl (by kernel_rfl)) ?_
  intro W base args' ds gs before hval hW _ hk _
  refine law_contract (s := Rows.editUndoAllSpec) (fn := Try.f10) tok tcl (by kernel_rfl) ok_l12_EditUndoAll rfl ?_ rfl Try.underlying4 ?_ ?_ W base args' ds gs before hval hW hk (F := F)
  · intro t ht
    have : t = 24 ∨ t = 42 := by simpa [Try.params10] using ht
    rcases this with rfl | rfl
    · exact ⟨rfl, by kernel_rfl, of_decide_eq_true (by kernel_rfl)⟩
    · exact ⟨rfl, by kernel_rfl, of_decide_eq_true (by kernel_rfl)⟩
  · intro ds hds
    match ds, hds with
    | [d0, d1], _ => rfl
  · intro sss hs hbk
    obtain ⟨s1, r1, rfl, ⟨n1, t1⟩, s2, r2, rfl, ⟨n2, t2⟩, rfl⟩ := (hs : ArgsT T [24, 42] sss)
    obtain ⟨t, rfl, rt⟩ := typed_nd t1
    obtain ⟨ops, rfl⟩ := typed_ops t2
    simp only [bulkLL, bulkL, S.bulk] at hbk
    have ha := Nd.w_bulk t
    have hl := ops_len (l := ops)
    refine ⟨_, t, ops, true, EditUndoAll_eq t ops (by omega) (by omega) (fun o ho => ?_) (fun o ho => ?_), rfl, rfl⟩
    · have h1 := bulk_mem (f := enc_api_Op) ho
      have h2 := op_bulk o
      exact (show Nd.ws o.2.2.2.2.1 + o.2.2.2.2.2.2.2.length + o.2.1.length ≤ 1048576 by omega)
    · have h1 := bulk_mem (f := enc_api_Op) ho
      have h2 := op_bulk o
      have h3 := op_bulk3 o
      obtain ⟨k, row, a, m, nodes, slot, old, text⟩ := o
      dsimp only at h2 h3
      show Nd.ws nodes + (if k = 5 then old else text).length + row.length ≤ 1048576
      split <;> omega
theorem over : Rows.editUndoAllUptoRow.holds Try.pinned (Rows.OpenSpec.upto Rows.editUndoAllSpec) :=
  OpenClaim.holds_of_cond 10 Try.f10 rfl rfl rfl rfl rfl rfl rfl ⟨rfl, rfl, rfl, rfl, rfl⟩ rfl rfl rfl rfl rfl (by kernel_rfl) Try.func10 (by kernel_rfl)
    (of_decide_eq_true (by kernel_rfl)) (by unfold Func.isWrapper; first | (rw [if_pos (by decide +kernel)]; kernel_rfl) | (rw [if_neg (by decide +kernel)]; exact ⟨rfl, rfl⟩))
    (fun os started H enc _ F => lifted os started H enc F)
theorem proved : Rows.EditUndoAllUptoSaid :=
  over
end Go.Proofs.Ytfbggpmdmhgpfaa.editUndoAll
