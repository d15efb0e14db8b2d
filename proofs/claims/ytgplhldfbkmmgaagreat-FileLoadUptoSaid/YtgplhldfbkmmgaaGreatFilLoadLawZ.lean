/-
  FileLoad: for all arguments whose readings are of bulk at most 1048576, the law returns true and its arguments read as before.
-/
import Derived.Test.YtgplhldfbkmmgaaGreatZg
set_option linter.unusedVariables false
namespace Go.Proofs.YtgplhldfbkmmgaaGreat.fileLoad
open Go.Abs Go.ChangeShapes Go.WideShapes Go.RowKit
theorem own:ownKnob Tryz.prog.godebug=none:=by kernel_rfl
set_option maxRecDepth 100000 in
theorem lifted (os:Os) (started:os.Started) (H:Type) (enc:TypeId×Value->H) (F:Stop.Interp) :
  ReturnsInHanded {} Tryz.checked os 5 .any ((Rows.OpenSpec.upto Rows.fileLoadSpec).pre6 enc Tryz.prog Tryz.f5 Rows.fileLoadUptoRow.domain false) (((Rows.OpenSpec.upto Rows.fileLoadSpec).at F).post enc Tryz.prog Tryz.f5 false true false false):=by
 refine returnsInHanded_of_cond (C:=Tryz.checked) (s:=Rows.OpenSpec.upto Rows.fileLoadSpec) (k:=Rows.uptoSmall) rfl own started (by kernel_rfl) Tryz.func5
  (OpenSpec.witness (enc:=enc) (C:=Tryz.checked) (s:=Rows.OpenSpec.upto Rows.fileLoadSpec) (k:=Rows.uptoSmall) rfl false ⟨#[],#[.slice none 0 0],[]⟩ 8 (by kernel_rfl) (by kernel_rfl) (by kernel_rfl)
   (x:=([.nil],[],[])) (by kernel_rfl) rfl (by kernel_rfl)) ?_
 intro W base args' ds gs before hval hW _ hk _;refine zTv (s:=Rows.fileLoadSpec) (fn:=Tryz.f5) tok tcl (by kernel_rfl) zO5 rfl ?_ rfl Tryz.underlying4 ?_ ?_ W base args' ds gs before hval hW hk (F:=F)
 ·intro t ht;have:t=30 :=(by simpa [Tryz.params5] using ht);subst this
  ·exact⟨rfl,by kernel_rfl,of_decide_eq_true (by kernel_rfl)⟩
 ·intro ds hds
  match ds,hds with
  | [d0],_=>rfl
 ·intro sss hs hbk;obtain⟨s1,r1,rfl,⟨n1,t1⟩,rfl⟩:=(hs:zYt T [30] sss)
  obtain⟨b,rfl,_⟩:=zVx (T:=T) rfl rfl rfl rfl t1;exact⟨_,b,true,zUs 200000100 (by decide) (zWA 200000000) b,rfl,rfl⟩
theorem over:Rows.fileLoadUptoRow.holds Tryz.pinned (Rows.OpenSpec.upto Rows.fileLoadSpec) :=
 OpenClaim.holds_of_cond 5 Tryz.f5 rfl rfl rfl rfl rfl rfl rfl ⟨rfl,rfl,rfl,rfl,rfl⟩ rfl rfl rfl rfl rfl (by kernel_rfl) Tryz.func5 (by kernel_rfl)
  (of_decide_eq_true (by kernel_rfl)) (by unfold Func.isWrapper; first | (rw[if_pos (by decide +kernel)]; kernel_rfl) | (rw[if_neg (by decide +kernel)]; exact⟨rfl,rfl⟩))
  (fun os started H enc _ F=>lifted os started H enc F)
theorem proved:Rows.FileLoadUptoSaid :=
 over
end Go.Proofs.YtgplhldfbkmmgaaGreat.fileLoad
