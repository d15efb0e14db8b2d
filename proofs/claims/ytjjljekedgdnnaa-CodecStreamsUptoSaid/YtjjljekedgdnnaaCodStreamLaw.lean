/-
  CodecStreams: for all arguments whose readings are of bulk at most 1048576, the law returns true and its arguments read as before.
-/
import Derived.Test.YtjjljekedgdnnaaCodJ
import Derived.Test.YtjjljekedgdnnaaAbsP
set_option linter.unusedVariables false
namespace Go.Proofs.Ytjjljekedgdnnaa.codecStreams
open Go.Abs Go.ChangeShapes Go.WideShapes Go.RowKit

theorem own : ownKnob Try.prog.godebug = none := by kernel_rfl

set_option maxRecDepth 100000 in
theorem lifted (os : Os) (started : os.Started) (H : Type) (enc : TypeId × Value → H) (F : Stop.Interp) :
    ReturnsInHanded {} Try.checked os 9 .any ((Rows.OpenSpec.upto Rows.codecStreamsSpec).pre6 enc Try.prog Try.f9 Rows.codecStreamsUptoRow.domain false) (((Rows.OpenSpec.upto Rows.codecStreamsSpec).at F).post enc Try.prog Try.f9 false true false false) := by
  refine returnsInHanded_of_cond (C := Try.checked) (s := Rows.OpenSpec.upto Rows.codecStreamsSpec) (k := Rows.uptoSmall) rfl own started (by kernel_rfl) Try.func9
    (OpenSpec.witness (enc := enc) (C := Try.checked) (s := Rows.OpenSpec.upto Rows.codecStreamsSpec) (k := Rows.uptoSmall) rfl false ⟨#[], #[.slice none 0 0], []⟩ 8 (by kernel_rfl) (by kernel_rfl) (by kernel_rfl)
      (x := ([.nil], [], [])) (by kernel_rfl) rfl (by kernel_rfl)) ?_
  intro W base args' ds gs before hval hW _ hk _
  refine law_contract (s := Rows.codecStreamsSpec) (fn := Try.f9) tok tcl (by kernel_rfl) ok9 rfl ?_ rfl Try.underlying4 ?_ ?_ W base args' ds gs before hval hW hk (F := F)
  · intro t ht
    have : t = 22 := by simpa [Try.params9] using ht
    subst this
    · exact ⟨rfl, by kernel_rfl, of_decide_eq_true (by kernel_rfl)⟩
  · intro ds hds
    match ds, hds with
    | [d0], _ => rfl
  · intro sss hs hbk
    obtain ⟨s1, r1, rfl, ⟨n1, t1⟩, rfl⟩ := (hs : ArgsT T [22] sss)
    obtain ⟨m, rows, rfl, rfl, _, h3⟩ := typed_slice (T := T) (e := 24) rfl rfl t1
    obtain ⟨l, rfl, hl⟩ := all_map (f := CV.enc) (q := CV.rng) (l := rows) fun r hr => typed_value (s := 22) rfl rfl rfl rfl rfl m (h3 r hr)
    have hw := CV.ws_bulk l
    rw [CV.encs_eq] at hw
    simp only [bulkLL, bulkL, S.bulk] at hbk
    refine ⟨_, l, true, m9_eq l (by omega) (CV.rngAll hl), ?_, rfl⟩
    rw [CV.encs_eq]
    rfl

theorem over : Rows.codecStreamsUptoRow.holds Try.pinned (Rows.OpenSpec.upto Rows.codecStreamsSpec) :=
  OpenClaim.holds_of_cond 9 Try.f9 rfl rfl rfl rfl rfl rfl rfl ⟨rfl, rfl, rfl, rfl, rfl⟩ rfl rfl rfl rfl rfl (by kernel_rfl) Try.func9 (by kernel_rfl)
    (of_decide_eq_true (by kernel_rfl)) (by unfold Func.isWrapper; first | (rw [if_pos (by decide +kernel)]; kernel_rfl) | (rw [if_neg (by decide +kernel)]; exact ⟨rfl, rfl⟩))
    (fun os started H enc _ F => lifted os started H enc F)

theorem proved : Rows.CodecStreamsUptoSaid :=
  over
end Go.Proofs.Ytjjljekedgdnnaa.codecStreams
