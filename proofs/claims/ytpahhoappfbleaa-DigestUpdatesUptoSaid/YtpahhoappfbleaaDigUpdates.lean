/-
  DigestUpdates: for all arguments whose readings are of bulk at most 1048576, the law returns true and its arguments read as before.
-/
import Derived.Test.YtpahhoappfbleaaDigC
import Derived.Test.YtpahhoappfbleaaAbsP
set_option linter.unusedVariables false
namespace Go.Proofs.Ytpahhoappfbleaa.digestUpdates
open Go.Abs Go.ChangeShapes Go.WideShapes Go.RowKit

theorem own : ownKnob Try.prog.godebug = none := by kernel_rfl

set_option maxRecDepth 100000 in
theorem lifted (os : Os) (started : os.Started) (H : Type) (enc : TypeId × Value → H) (F : Stop.Interp) :
    ReturnsInHanded {} Try.checked os 4 .any ((Rows.OpenSpec.upto Rows.digestUpdatesSpec).pre6 enc Try.prog Try.f4 Rows.digestUpdatesUptoRow.domain false) (((Rows.OpenSpec.upto Rows.digestUpdatesSpec).at F).post enc Try.prog Try.f4 false true false false) := by
  refine returnsInHanded_of_cond (C := Try.checked) (s := Rows.OpenSpec.upto Rows.digestUpdatesSpec) (k := Rows.uptoSmall) rfl own started (by kernel_rfl) Try.func4
    (OpenSpec.witness (enc := enc) (C := Try.checked) (s := Rows.OpenSpec.upto Rows.digestUpdatesSpec) (k := Rows.uptoSmall) rfl false ⟨#[], #[.slice none 0 0, .slice none 0 0], []⟩ 8 (by kernel_rfl) (by kernel_rfl) (by kernel_rfl)
      (x := ([.nil, .nil], [], [])) (by kernel_rfl) rfl (by kernel_rfl)) ?_
  intro W base args' ds gs before hval hW _ hk _
  refine law_contract (s := Rows.digestUpdatesSpec) (fn := Try.f4) tok tcl (by kernel_rfl) lawUpdates_ok rfl ?_ rfl Try.underlying4 ?_ ?_ W base args' ds gs before hval hW hk (F := F)
  · intro t ht
    have : t = 23 ∨ t = 23 := by simpa [Try.params4] using ht
    rcases this with rfl | rfl
    · exact ⟨rfl, by kernel_rfl, of_decide_eq_true (by kernel_rfl)⟩
    · exact ⟨rfl, by kernel_rfl, of_decide_eq_true (by kernel_rfl)⟩
  · intro ds hds
    match ds, hds with
    | [d0, d1], _ => rfl
  · intro sss hs hbk
    obtain ⟨s1, r1, rfl, ⟨n1, t1⟩, s2, r2, rfl, ⟨n2, t2⟩, rfl⟩ := (hs : ArgsT T [23, 23] sss)
    obtain ⟨a, rfl, _⟩ := typed_bytes (T := T) rfl rfl rfl rfl t1
    obtain ⟨b, rfl, _⟩ := typed_bytes (T := T) rfl rfl rfl rfl t2
    have ha := bulk_bytes a
    have hb := bulk_bytes b
    simp only [bulkLL, bulkL, S.bulk] at hbk
    exact ⟨a, b, by omega, by omega, rfl, rfl⟩

theorem over : Rows.digestUpdatesUptoRow.holds Try.pinned (Rows.OpenSpec.upto Rows.digestUpdatesSpec) :=
  OpenClaim.holds_of_cond 4 Try.f4 rfl rfl rfl rfl rfl rfl rfl ⟨rfl, rfl, rfl, rfl, rfl⟩ rfl rfl rfl rfl rfl (by kernel_rfl) Try.func4 (by kernel_rfl)
    (of_decide_eq_true (by kernel_rfl)) (by unfold Func.isWrapper; first | (rw [if_pos (by decide +kernel)]; kernel_rfl) | (rw [if_neg (by decide +kernel)]; exact ⟨rfl, rfl⟩))
    (fun os started H enc _ F => lifted os started H enc F)

theorem proved : Rows.DigestUpdatesUptoSaid :=
  over
end Go.Proofs.Ytpahhoappfbleaa.digestUpdates
