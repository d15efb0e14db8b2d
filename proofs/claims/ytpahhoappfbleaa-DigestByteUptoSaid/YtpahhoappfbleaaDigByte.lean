/-
  DigestByte: for all arguments whose readings are of bulk at most 1048576, the law returns true and its arguments read as before.
-/
import Derived.Test.YtpahhoappfbleaaDigE
import Derived.Test.YtpahhoappfbleaaAbsP
set_option linter.unusedVariables false
namespace Go.Proofs.Ytpahhoappfbleaa.digestByte
open Go.Abs Go.ChangeShapes Go.WideShapes Go.RowKit

theorem own : ownKnob Try.prog.godebug = none := by kernel_rfl

set_option maxRecDepth 100000 in
theorem lifted (os : Os) (started : os.Started) (H : Type) (enc : TypeId × Value → H) (F : Stop.Interp) :
    ReturnsInHanded {} Try.checked os 5 .any ((Rows.OpenSpec.upto Rows.digestByteSpec).pre6 enc Try.prog Try.f5 Rows.digestByteUptoRow.domain false) (((Rows.OpenSpec.upto Rows.digestByteSpec).at F).post enc Try.prog Try.f5 false true false false) := by
  refine returnsInHanded_of_cond (C := Try.checked) (s := Rows.OpenSpec.upto Rows.digestByteSpec) (k := Rows.uptoSmall) rfl own started (by kernel_rfl) Try.func5
    (OpenSpec.witness (enc := enc) (C := Try.checked) (s := Rows.OpenSpec.upto Rows.digestByteSpec) (k := Rows.uptoSmall) rfl false ⟨#[], #[.slice none 0 0, .agg #[.int .u8 0, .int .u8 0], .agg #[.int .u64 0, .int .u64 0]], []⟩ 8 (by kernel_rfl) (by kernel_rfl) (by kernel_rfl)
      (x := ([.nil, .agg [.lit (.int .u8 0), .lit (.int .u8 0)], .agg [.lit (.int .u64 0), .lit (.int .u64 0)]], [], [])) (by kernel_rfl) rfl (by kernel_rfl)) ?_
  intro W base args' ds gs before hval hW _ hk _
  refine law_contract (s := Rows.digestByteSpec) (fn := Try.f5) tok tcl (by kernel_rfl) lawByte_ok rfl ?_ rfl Try.underlying4 ?_ ?_ W base args' ds gs before hval hW hk (F := F)
  · intro t ht
    have : t = 23 ∨ t = 29 ∨ t = 30 := by simpa [Try.params5] using ht
    rcases this with rfl | rfl | rfl
    · exact ⟨rfl, by kernel_rfl, of_decide_eq_true (by kernel_rfl)⟩
    · exact ⟨rfl, by kernel_rfl, of_decide_eq_true (by kernel_rfl)⟩
    · exact ⟨rfl, by kernel_rfl, of_decide_eq_true (by kernel_rfl)⟩
  · intro ds hds
    match ds, hds with
    | [d0, d1, d2], _ => rfl
  · intro sss hs hbk
    obtain ⟨s1, r1, rfl, ⟨n1, t1⟩, s2, r2, rfl, ⟨n2, t2⟩, s3, r3, rfl, ⟨n3, t3⟩, rfl⟩ := (hs : ArgsT T [23, 29, 30] sss)
    obtain ⟨bs, rfl, _⟩ := typed_bytes (T := T) rfl rfl rfl rfl t1
    obtain ⟨m2, _, a0, q0, rfl, u0, a1, q1, rfl, u1, rfl⟩ := typed_arr (T := T) (len := 2) (e := 5) rfl rfl t2
    obtain ⟨m3, _, b0, p0, rfl, v0, b1, p1, rfl, v1, rfl⟩ := typed_arr (T := T) (len := 2) (e := 22) rfl rfl t3
    obtain ⟨c0, rfl, c1, c2⟩ := typed_int (T := T) (k := .u8) rfl rfl u0
    obtain ⟨x, rfl, x1, x2⟩ := typed_int (T := T) (k := .u8) rfl rfl u1
    obtain ⟨h0, rfl, h1, h2⟩ := typed_int (T := T) (k := .u64) rfl rfl v0
    obtain ⟨g0, rfl, g1, g2⟩ := typed_int (T := T) (k := .u64) rfl rfl v1
    obtain ⟨c, hc⟩ := brow_of x1 x2
    have hx : S.int .u8 x = S.int .u8 (c.toNat : Int) := by simpa [irow, brow] using hc
    rw [hx]
    have hb := bulk_bytes bs
    simp only [bulkLL, bulkL, S.bulk] at hbk
    have e64 : ∀ {y : Int}, IntKind.u64.min ≤ y → y ≤ IntKind.u64.max → in64 y := fun {y} a b => by
      have e1 : IntKind.u64.min = 0 := by decide
      have e2 : IntKind.u64.max = 18446744073709551615 := by decide
      rw [e1] at a; rw [e2] at b
      exact ⟨a, by omega⟩
    have e8 : IntKind.u8.min = 0 ∧ IntKind.u8.max = 255 := by decide
    exact ⟨bs, c0, c, h0, g0, by omega, by rw [← e8.1]; exact c1, by rw [← e8.2]; exact c2, e64 h1 h2, e64 g1 g2, rfl, rfl⟩

theorem over : Rows.digestByteUptoRow.holds Try.pinned (Rows.OpenSpec.upto Rows.digestByteSpec) :=
  OpenClaim.holds_of_cond 5 Try.f5 rfl rfl rfl rfl rfl rfl rfl ⟨rfl, rfl, rfl, rfl, rfl⟩ rfl rfl rfl rfl rfl (by kernel_rfl) Try.func5 (by kernel_rfl)
    (of_decide_eq_true (by kernel_rfl)) (by unfold Func.isWrapper; first | (rw [if_pos (by decide +kernel)]; kernel_rfl) | (rw [if_neg (by decide +kernel)]; exact ⟨rfl, rfl⟩))
    (fun os started H enc _ F => lifted os started H enc F)

theorem proved : Rows.DigestByteUptoSaid :=
  over
end Go.Proofs.Ytpahhoappfbleaa.digestByte
