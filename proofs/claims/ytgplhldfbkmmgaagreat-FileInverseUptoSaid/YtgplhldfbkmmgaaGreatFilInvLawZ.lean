/-
  FileInverse: for all arguments whose readings are of bulk at most 1048576, the law returns true and its arguments read as before.
-/
import Derived.Test.YtgplhldfbkmmgaaGreatZg
set_option linter.unusedVariables false
namespace Go.Proofs.YtgplhldfbkmmgaaGreat.fileInverse
open Go.Abs Go.ChangeShapes Go.WideShapes Go.RowKit
theorem own:ownKnob Tryz.prog.godebug=none:=by kernel_rfl
set_option maxRecDepth 100000 in
theorem lifted (os:Os) (started:os.Started) (H:Type) (enc:TypeId×Value->H) (F:Stop.Interp) :
  ReturnsInHanded {} Tryz.checked os 6 .any ((Rows.OpenSpec.upto Rows.fileInverseSpec).pre6 enc Tryz.prog Tryz.f6 Rows.fileInverseUptoRow.domain false) (((Rows.OpenSpec.upto Rows.fileInverseSpec).at F).post enc Tryz.prog Tryz.f6 false true false false):=by
 refine returnsInHanded_of_cond (C:=Tryz.checked) (s:=Rows.OpenSpec.upto Rows.fileInverseSpec) (k:=Rows.uptoSmall) rfl own started (by kernel_rfl) Tryz.func6
  (OpenSpec.witness (enc:=enc) (C:=Tryz.checked) (s:=Rows.OpenSpec.upto Rows.fileInverseSpec) (k:=Rows.uptoSmall) rfl false ⟨#[],#[.agg #[.string .empty,.int .i64 0,.string .empty,.int .i64 0,.slice none 0 0,.slice none 0 0,.int .i64 0],.slice none 0 0],[]⟩ 8 (by kernel_rfl) (by kernel_rfl) (by kernel_rfl)
   (x:=([.agg [.lit (.string []),.agg [.lit (.int .i64 0),.lit (.string []),.lit (.int .i64 0),.nil],.nil,.lit (.int .i64 0)],.nil],[],[])) (by kernel_rfl) rfl (by kernel_rfl)) ?_
 intro W base args' ds gs before hval hW _ hk _;refine zSy (s:=Rows.fileInverseSpec) (fn:=Tryz.f6) tok tcl (by kernel_rfl) zL5 rfl ?_ rfl Tryz.underlying4 ?_ ?_ W base args' ds gs before hval hW hk (F:=F)
 ·intro t ht;have:t=27∨t=30 :=(by simpa [Tryz.params6] using ht);rcases this with rfl | rfl
  ·exact⟨rfl,by kernel_rfl,of_decide_eq_true (by kernel_rfl)⟩
  ·exact⟨rfl,by kernel_rfl,of_decide_eq_true (by kernel_rfl)⟩
 ·intro ds hds
  match ds,hds with
  | [d0,d1],_=>rfl
 ·intro sss hs hbk;obtain⟨s1,r1,rfl,⟨n1,t1⟩,s2,r2,rfl,⟨n2,t2⟩,rfl⟩:=(hs:zW2 T [27,30] sss)
  obtain⟨d,rfl,hr⟩:=zPi t1;obtain⟨b,rfl,_⟩:=zUa (T:=T) rfl rfl rfl rfl t2;simp only[zD1]at hbk;exact⟨_,d,b,true,zPm 200000100 (by decide) (zU3 200000000) d (zYr d (by omega)) (zYs d hr (by omega)) b,rfl,rfl⟩
theorem over:Rows.fileInverseUptoRow.holds Tryz.pinned (Rows.OpenSpec.upto Rows.fileInverseSpec) :=
 OpenClaim.holds_of_cond 6 Tryz.f6 rfl rfl rfl rfl rfl rfl rfl ⟨rfl,rfl,rfl,rfl,rfl⟩ rfl rfl rfl rfl rfl (by kernel_rfl) Tryz.func6 (by kernel_rfl)
  (of_decide_eq_true (by kernel_rfl)) (by unfold Func.isWrapper; first | (rw[if_pos (by decide +kernel)]; kernel_rfl) | (rw[if_neg (by decide +kernel)]; exact⟨rfl,rfl⟩))
  (fun os started H enc _ F=>lifted os started H enc F)
theorem proved:Rows.FileInverseUptoSaid :=
 over
end Go.Proofs.YtgplhldfbkmmgaaGreat.fileInverse
