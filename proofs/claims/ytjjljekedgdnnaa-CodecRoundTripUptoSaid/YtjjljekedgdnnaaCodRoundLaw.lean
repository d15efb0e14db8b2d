/-
  CodecRoundTrip: for all arguments whose readings are of bulk at most 1048576, the law returns true and its arguments read as before.
-/
import Derived.Test.YtjjljekedgdnnaaCodJ
import Derived.Test.YtjjljekedgdnnaaAbsP
set_option linter.unusedVariables false
namespace Go.Proofs.Ytjjljekedgdnnaa.codecRoundTrip
open Go.Abs Go.ChangeShapes Go.WideShapes Go.RowKit

theorem own : ownKnob Try.prog.godebug = none := by kernel_rfl

set_option maxRecDepth 100000 in
theorem lifted (os : Os) (started : os.Started) (H : Type) (enc : TypeId × Value → H) (F : Stop.Interp) :
    ReturnsInHanded {} Try.checked os 10 .any ((Rows.OpenSpec.upto Rows.codecRoundTripSpec).pre6 enc Try.prog Try.f10 Rows.codecRoundTripUptoRow.domain false) (((Rows.OpenSpec.upto Rows.codecRoundTripSpec).at F).post enc Try.prog Try.f10 false true false false) := by
  refine returnsInHanded_of_cond (C := Try.checked) (s := Rows.OpenSpec.upto Rows.codecRoundTripSpec) (k := Rows.uptoSmall) rfl own started (by kernel_rfl) Try.func10
    (OpenSpec.witness (enc := enc) (C := Try.checked) (s := Rows.OpenSpec.upto Rows.codecRoundTripSpec) (k := Rows.uptoSmall) rfl false ⟨#[], #[.agg #[.int .i64 0, .int .i64 0, .string .empty, .slice none 0 0], .slice none 0 0], []⟩ 8 (by kernel_rfl) (by kernel_rfl) (by kernel_rfl)
      (x := ([.agg [.lit (.int .i64 0), .lit (.int .i64 0), .lit (.string []), .nil], .nil], [], [])) (by kernel_rfl) rfl (by kernel_rfl)) ?_
  intro W base args' ds gs before hval hW _ hk _
  refine law_contract (s := Rows.codecRoundTripSpec) (fn := Try.f10) tok tcl (by kernel_rfl) ok10 rfl ?_ rfl Try.underlying4 ?_ ?_ W base args' ds gs before hval hW hk (F := F)
  · intro t ht
    have : t = 24 ∨ t = 33 := by simpa [Try.params10] using ht
    rcases this with rfl | rfl
    · exact ⟨rfl, by kernel_rfl, of_decide_eq_true (by kernel_rfl)⟩
    · exact ⟨rfl, by kernel_rfl, of_decide_eq_true (by kernel_rfl)⟩
  · intro ds hds
    match ds, hds with
    | [d0, d1], _ => rfl
  · intro sss hs hbk
    obtain ⟨s1, r1, rfl, ⟨n1, t1⟩, s3, r3, rfl, ⟨n3, t3⟩, rfl⟩ := (hs : ArgsT T [24, 33] sss)
    obtain ⟨v, rfl, hr⟩ := typed_value (s := 22) rfl rfl rfl rfl rfl n1 t1
    obtain ⟨b, rfl, _⟩ := typed_bytes (T := T) rfl rfl rfl rfl t3
    simp only [bulkLL] at hbk
    have hw := CV.w_bulk v
    exact ⟨_, v, b, true, m10_eq v b (by omega) hr, rfl, rfl⟩

theorem over : Rows.codecRoundTripUptoRow.holds Try.pinned (Rows.OpenSpec.upto Rows.codecRoundTripSpec) :=
  OpenClaim.holds_of_cond 10 Try.f10 rfl rfl rfl rfl rfl rfl rfl ⟨rfl, rfl, rfl, rfl, rfl⟩ rfl rfl rfl rfl rfl (by kernel_rfl) Try.func10 (by kernel_rfl)
    (of_decide_eq_true (by kernel_rfl)) (by unfold Func.isWrapper; first | (rw [if_pos (by decide +kernel)]; kernel_rfl) | (rw [if_neg (by decide +kernel)]; exact ⟨rfl, rfl⟩))
    (fun os started H enc _ F => lifted os started H enc F)

theorem proved : Rows.CodecRoundTripUptoSaid :=
  over
end Go.Proofs.Ytjjljekedgdnnaa.codecRoundTrip
