/-
  EditCommutes: for all arguments whose readings are of bulk at most 1048576, the law returns true and its arguments read as before.
-/
import Derived.Test.YtfbggpmdmhgpfaaZh
set_option linter.unusedVariables false
namespace Go.Proofs.Ytfbggpmdmhgpfaa.editCommutes
open Go.Abs Go.ChangeShapes Go.WideShapes Go.RowKit
theorem own : ownKnob Try.prog.godebug = none := by kernel_rfl
set_option maxRecDepth 100000 in
theorem lifted (os : Os) (started : os.Started) (H : Type) (enc : TypeId × Value → H) (F : Stop.Interp) :
    ReturnsInHanded {} Try.checked os 7 .any ((Rows.OpenSpec.upto Rows.editCommutesSpec).pre6 enc Try.prog Try.f7 Rows.editCommutesUptoRow.domain false) (((Rows.OpenSpec.upto Rows.editCommutesSpec).at F).post enc Try.prog Try.f7 false true false false) := by
  refine returnsInHanded_of_cond (C := Try.checked) (s := Rows.OpenSpec.upto Rows.editCommutesSpec) (k := Rows.uptoSmall) rfl own started (by kernel_rfl) Try.func7
    (OpenSpec.witness (enc := enc) (C := Try.checked) (s := Rows.OpenSpec.upto Rows.editCommutesSpec) (k := Rows.uptoSmall) rfl false ⟨#[], #[.agg #[.int .i64 0, .string .empty, .int .i64 0, .slice none 0 0], .agg #[.int .i64 0, .slice none 0 0, .int .i64 0, .int .i64 0, .slice none 0 0, .int .i64 0, .string .empty, .string .empty], .agg #[.int .i64 0, .slice none 0 0, .int .i64 0, .int .i64 0, .slice none 0 0, .int .i64 0, .string .empty, .string .empty]], []⟩ 8 (by kernel_rfl) (by kernel_rfl) (by kernel_rfl)
      (x := ([.agg [.lit (.int .i64 0), .lit (.string []), .lit (.int .i64 0), .nil], .agg [.lit (.int .i64 0), .nil, .lit (.int .i64 0), .lit (.int .i64 0), .nil, .lit (.int .i64 0), .lit (.string []), .lit (.string [])], .agg [.lit (.int .i64 0), .nil, .lit (.int .i64 0), .lit (.int .i64 0), .nil, .lit (.int .i64 0), .lit (.string []), .lit (.string [])]], [], [])) (by kernel_rfl) rfl (by kernel_rfl)) ?_
  intro W base args' ds gs before hval hW _ hk _
  refine law_contract (s := Rows.editCommutesSpec) (fn := Try.f7) tok tcl (by kernel_rfl) ok_l12_EditCommutes rfl ?_ rfl Try.underlying4 ?_ ?_ W base args' ds gs before hval hW hk (F := F)
  · intro t ht
    have : t = 24 ∨ t = 27 ∨ t = 27 := by simpa [Try.params7] using ht
    rcases this with rfl | rfl | rfl
    · exact ⟨rfl, by kernel_rfl, of_decide_eq_true (by kernel_rfl)⟩
    · exact ⟨rfl, by kernel_rfl, of_decide_eq_true (by kernel_rfl)⟩
    · exact ⟨rfl, by kernel_rfl, of_decide_eq_true (by kernel_rfl)⟩
  · intro ds hds
    match ds, hds with
    | [d0, d1, d2], _ => rfl
  · intro sss hs hbk
    obtain ⟨s1, r1, rfl, ⟨n1, t1⟩, s2, r2, rfl, ⟨n2, t2⟩, s3, r3, rfl, ⟨n3, t3⟩, rfl⟩ := (hs : ArgsT T [24, 27, 27] sss)
    obtain ⟨t, rfl, rt⟩ := typed_nd t1
    obtain ⟨o, rfl, _⟩ := typed_op t2
    obtain ⟨q, rfl, _⟩ := typed_op t3
    simp only [bulkLL] at hbk
    have ha := Nd.w_bulk t
    have hb := op_bulk o
    have hc := op_bulk q
    exact ⟨_, t, o, q, true, EditCommutes_eq t o q (by omega) (show Nd.ws o.2.2.2.2.1 + o.2.2.2.2.2.2.2.length + o.2.1.length ≤ 1048576 by omega) (show Nd.ws q.2.2.2.2.1 + q.2.2.2.2.2.2.2.length + q.2.1.length ≤ 1048576 by omega), rfl, rfl⟩
theorem over : Rows.editCommutesUptoRow.holds Try.pinned (Rows.OpenSpec.upto Rows.editCommutesSpec) :=
  OpenClaim.holds_of_cond 7 Try.f7 rfl rfl rfl rfl rfl rfl rfl ⟨rfl, rfl, rfl, rfl, rfl⟩ rfl rfl rfl rfl rfl (by kernel_rfl) Try.func7 (by kernel_rfl)
    (of_decide_eq_true (by kernel_rfl)) (by unfold Func.isWrapper; first | (rw [if_pos (by decide +kernel)]; kernel_rfl) | (rw [if_neg (by decide +kernel)]; exact ⟨rfl, rfl⟩))
    (fun os started H enc _ F => lifted os started H enc F)
theorem proved : Rows.EditCommutesUptoSaid :=
  over
end Go.Proofs.Ytfbggpmdmhgpfaa.editCommutes
