/-
  DigestJoin: for all arguments whose readings are of bulk at most 1048576, the law returns true and its arguments read as before.
-/
import Derived.Test.YtpahhoappfbleaaDigH
import Derived.Test.YtpahhoappfbleaaAbsP
set_option linter.unusedVariables false
namespace Go.Proofs.Ytpahhoappfbleaa.digestJoin
open Go.Abs Go.ChangeShapes Go.WideShapes Go.RowKit

theorem own : ownKnob Try.prog.godebug = none := by kernel_rfl

set_option maxRecDepth 100000 in
theorem lifted (os : Os) (started : os.Started) (H : Type) (enc : TypeId × Value → H) (F : Stop.Interp) :
    ReturnsInHanded {} Try.checked os 6 .any ((Rows.OpenSpec.upto Rows.digestJoinSpec).pre6 enc Try.prog Try.f6 Rows.digestJoinUptoRow.domain false) (((Rows.OpenSpec.upto Rows.digestJoinSpec).at F).post enc Try.prog Try.f6 false true false false) := by
  refine returnsInHanded_of_cond (C := Try.checked) (s := Rows.OpenSpec.upto Rows.digestJoinSpec) (k := Rows.uptoSmall) rfl own started (by kernel_rfl) Try.func6
    (OpenSpec.witness (enc := enc) (C := Try.checked) (s := Rows.OpenSpec.upto Rows.digestJoinSpec) (k := Rows.uptoSmall) rfl false ⟨#[], #[.agg #[.int .i64 0, .int .i64 0], .string .empty, .slice none 0 0], []⟩ 8 (by kernel_rfl) (by kernel_rfl) (by kernel_rfl)
      (x := ([.agg [.lit (.int .i64 0), .lit (.int .i64 0)], .lit (.string []), .nil], [], [])) (by kernel_rfl) rfl (by kernel_rfl)) ?_
  intro W base args' ds gs before hval hW _ hk _
  refine law_contract (s := Rows.digestJoinSpec) (fn := Try.f6) tok tcl (by kernel_rfl) lawJoin_ok rfl ?_ rfl Try.underlying4 ?_ ?_ W base args' ds gs before hval hW hk (F := F)
  · intro t ht
    have : t = 32 ∨ t = 9 ∨ t = 33 := by simpa [Try.params6] using ht
    rcases this with rfl | rfl | rfl
    · exact ⟨rfl, by kernel_rfl, of_decide_eq_true (by kernel_rfl)⟩
    · exact ⟨rfl, by kernel_rfl, of_decide_eq_true (by kernel_rfl)⟩
    · exact ⟨rfl, by kernel_rfl, of_decide_eq_true (by kernel_rfl)⟩
  · intro ds hds
    match ds, hds with
    | [d0, d1, d2], _ => rfl
  · intro sss hs hbk
    obtain ⟨s1, r1, rfl, ⟨n1, t1⟩, s2, r2, rfl, ⟨n2, t2⟩, s3, r3, rfl, ⟨n3, t3⟩, rfl⟩ := (hs : ArgsT T [32, 9, 33] sss)
    obtain ⟨m1, _, a0, q0, rfl, u0, a1, q1, rfl, u1, rfl⟩ := typed_arr (T := T) (len := 2) (e := 3) rfl rfl t1
    obtain ⟨k, rfl, _⟩ := typed_int (T := T) (k := .i64) rfl rfl u0
    obtain ⟨c, rfl, _⟩ := typed_int (T := T) (k := .i64) rfl rfl u1
    obtain ⟨text, rfl, _⟩ := typed_str (T := T) rfl rfl t2
    obtain ⟨kids, rfl, _⟩ := typed_ints (T := T) (k := .u64) rfl rfl rfl rfl t3
    have hb := bulk_ints .u64 kids
    simp only [bulkLL, bulkL, S.bulk] at hbk
    exact ⟨k, text, c, kids, by omega, by omega, rfl, rfl⟩

theorem over : Rows.digestJoinUptoRow.holds Try.pinned (Rows.OpenSpec.upto Rows.digestJoinSpec) :=
  OpenClaim.holds_of_cond 6 Try.f6 rfl rfl rfl rfl rfl rfl rfl ⟨rfl, rfl, rfl, rfl, rfl⟩ rfl rfl rfl rfl rfl (by kernel_rfl) Try.func6 (by kernel_rfl)
    (of_decide_eq_true (by kernel_rfl)) (by unfold Func.isWrapper; first | (rw [if_pos (by decide +kernel)]; kernel_rfl) | (rw [if_neg (by decide +kernel)]; exact ⟨rfl, rfl⟩))
    (fun os started H enc _ F => lifted os started H enc F)

theorem proved : Rows.DigestJoinUptoSaid :=
  over
end Go.Proofs.Ytpahhoappfbleaa.digestJoin
