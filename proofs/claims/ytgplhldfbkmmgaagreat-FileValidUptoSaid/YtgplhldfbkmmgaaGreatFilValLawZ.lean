/-
  FileValid: for all arguments whose readings are of bulk at most 1048576, the law returns true and its arguments read as before.
-/
import Derived.Test.YtgplhldfbkmmgaaGreatZf
set_option linter.unusedVariables false
namespace Go.Proofs.YtgplhldfbkmmgaaGreat.fileValid
open Go.Abs Go.ChangeShapes Go.WideShapes Go.RowKit
theorem own:ownKnob Tryz.prog.godebug=none:=by kernel_rfl
set_option maxRecDepth 100000 in
theorem lifted (os:Os) (started:os.Started) (H:Type) (enc:TypeId×Value->H) (F:Stop.Interp) :
  ReturnsInHanded {} Tryz.checked os 3 .any ((Rows.OpenSpec.upto Rows.fileValidSpec).pre6 enc Tryz.prog Tryz.f3 Rows.fileValidUptoRow.domain false) (((Rows.OpenSpec.upto Rows.fileValidSpec).at F).post enc Tryz.prog Tryz.f3 false true false false):=by
 refine returnsInHanded_of_cond (C:=Tryz.checked) (s:=Rows.OpenSpec.upto Rows.fileValidSpec) (k:=Rows.uptoSmall) rfl own started (by kernel_rfl) Tryz.func3
  (OpenSpec.witness (enc:=enc) (C:=Tryz.checked) (s:=Rows.OpenSpec.upto Rows.fileValidSpec) (k:=Rows.uptoSmall) rfl false ⟨#[],#[.agg #[.string .empty,.int .i64 0,.string .empty,.int .i64 0,.slice none 0 0,.slice none 0 0,.int .i64 0]],[]⟩ 8 (by kernel_rfl) (by kernel_rfl) (by kernel_rfl)
   (x:=([.agg [.lit (.string []),.agg [.lit (.int .i64 0),.lit (.string []),.lit (.int .i64 0),.nil],.nil,.lit (.int .i64 0)]],[],[])) (by kernel_rfl) rfl (by kernel_rfl)) ?_
 intro W base args' ds gs before hval hW _ hk _;refine zQ7 (s:=Rows.fileValidSpec) (fn:=Tryz.f3) tok tcl (by kernel_rfl) zLx rfl ?_ rfl Tryz.underlying4 ?_ ?_ W base args' ds gs before hval hW hk (F:=F)
 ·intro t ht;have:t=27 :=(by simpa [Tryz.params3] using ht);subst this
  ·exact⟨rfl,by kernel_rfl,of_decide_eq_true (by kernel_rfl)⟩
 ·intro ds hds
  match ds,hds with
  | [d0],_=>rfl
 ·intro sss hs hbk;obtain⟨s1,r1,rfl,⟨n1,t1⟩,rfl⟩:=(hs:zVI T [27] sss)
  obtain⟨d,rfl,hr⟩:=zNl t1;simp only[zDf]at hbk;exact⟨_,d,true,zQb 200000100 (by decide) (zTS 200000000) d (zW5 d (by omega)) (zW6 d hr (by omega)),rfl,rfl⟩
theorem over:Rows.fileValidUptoRow.holds Tryz.pinned (Rows.OpenSpec.upto Rows.fileValidSpec) :=
 OpenClaim.holds_of_cond 3 Tryz.f3 rfl rfl rfl rfl rfl rfl rfl ⟨rfl,rfl,rfl,rfl,rfl⟩ rfl rfl rfl rfl rfl (by kernel_rfl) Tryz.func3 (by kernel_rfl)
  (of_decide_eq_true (by kernel_rfl)) (by unfold Func.isWrapper; first | (rw[if_pos (by decide +kernel)]; kernel_rfl) | (rw[if_neg (by decide +kernel)]; exact⟨rfl,rfl⟩))
  (fun os started H enc _ F=>lifted os started H enc F)
theorem proved:Rows.FileValidUptoSaid :=
 over
end Go.Proofs.YtgplhldfbkmmgaaGreat.fileValid
