/-
  DigestBytes: for all arguments whose readings are of bulk at most 1048576, the law returns true and its arguments read as before.
-/
import Derived.Test.YtpahhoappfbleaaDigB
import Derived.Test.YtpahhoappfbleaaAbsP
set_option linter.unusedVariables false
namespace Go.Proofs.Ytpahhoappfbleaa.digestBytes
open Go.Abs Go.ChangeShapes Go.WideShapes Go.RowKit

theorem own : ownKnob Try.prog.godebug = none := by kernel_rfl

theorem args {sss : List (List S)} (h : ArgsT T [22, 23] sss) : ∃ (h : Int) (bs : List UInt8), bs.length ≤ maxLen ∧ sss = [[.int .u64 h], [.sl 1 (bs.map brow)]] := by
  obtain ⟨s1, r1, rfl, ⟨n1, t1⟩, s2, r2, rfl, ⟨n2, t2⟩, rfl⟩ := h
  obtain ⟨x, rfl, _⟩ := typed_int (T := T) rfl rfl t1
  obtain ⟨bs, rfl, hb⟩ := typed_bytes (T := T) rfl rfl rfl rfl t2
  exact ⟨x, bs, hb, rfl⟩

set_option maxRecDepth 100000 in
theorem lifted (os : Os) (started : os.Started) (H : Type) (enc : TypeId × Value → H) (F : Stop.Interp) :
    ReturnsInHanded {} Try.checked os 3 .any ((Rows.OpenSpec.upto Rows.digestBytesSpec).pre6 enc Try.prog Try.f3 Rows.digestBytesUptoRow.domain false) (((Rows.OpenSpec.upto Rows.digestBytesSpec).at F).post enc Try.prog Try.f3 false true false false) := by
  refine returnsInHanded_of_cond (C := Try.checked) (s := Rows.OpenSpec.upto Rows.digestBytesSpec) (k := Rows.uptoSmall) rfl own started (by kernel_rfl) Try.func3
    (OpenSpec.witness (enc := enc) (C := Try.checked) (s := Rows.OpenSpec.upto Rows.digestBytesSpec) (k := Rows.uptoSmall) rfl false ⟨#[], #[.int .u64 0, .slice none 0 0], []⟩ 8 (by kernel_rfl) (by kernel_rfl) (by kernel_rfl)
      (x := ([.lit (.int .u64 0), .nil], [], [])) (by kernel_rfl) rfl (by kernel_rfl)) ?_
  intro W base args' ds gs before hval hW _ hk _
  refine law_contract (s := Rows.digestBytesSpec) (fn := Try.f3) tok tcl (by kernel_rfl) lawBytes_ok rfl ?_ rfl Try.underlying4 ?_ ?_ W base args' ds gs before hval hW hk (F := F)
  · intro t ht
    have : t = 22 ∨ t = 23 := by simpa [Try.params3] using ht
    rcases this with rfl | rfl
    · exact ⟨rfl, by kernel_rfl, of_decide_eq_true (by kernel_rfl)⟩
    · exact ⟨rfl, by kernel_rfl, of_decide_eq_true (by kernel_rfl)⟩
  · intro ds hds
    match ds, hds with
    | [d1, d2], _ => rfl
  · intro sss hs hbk
    obtain ⟨h, bs, hb, rfl⟩ := args hs
    have := bulk_bytes bs
    simp only [bulkLL, bulkL, S.bulk] at hbk
    exact ⟨h, bs, by omega, rfl, rfl⟩

theorem over : Rows.digestBytesUptoRow.holds Try.pinned (Rows.OpenSpec.upto Rows.digestBytesSpec) :=
  OpenClaim.holds_of_cond 3 Try.f3 rfl rfl rfl rfl rfl rfl rfl ⟨rfl, rfl, rfl, rfl, rfl⟩ rfl rfl rfl rfl rfl (by kernel_rfl) Try.func3 (by kernel_rfl)
    (of_decide_eq_true (by kernel_rfl)) (by unfold Func.isWrapper; first | (rw [if_pos (by decide +kernel)]; kernel_rfl) | (rw [if_neg (by decide +kernel)]; exact ⟨rfl, rfl⟩))
    (fun os started H enc _ F => lifted os started H enc F)

theorem proved : Rows.DigestBytesUptoSaid :=
  over
end Go.Proofs.Ytpahhoappfbleaa.digestBytes
