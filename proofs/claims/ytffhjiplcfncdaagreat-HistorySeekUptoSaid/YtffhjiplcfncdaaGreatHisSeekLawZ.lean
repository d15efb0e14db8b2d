/-
  HistorySeek: for all arguments whose readings are of bulk at most 1048576, the law returns true and its arguments read as before.
-/
import Derived.Test.YtffhjiplcfncdaaGreatZg
set_option linter.unusedVariables false
namespace Go.Proofs.YtffhjiplcfncdaaGreat.historySeek
open Go.Abs Go.ChangeShapes Go.WideShapes Go.RowKit
theorem own:ownKnob Tryz.prog.godebug=none:=by kernel_rfl
set_option maxRecDepth 100000 in
theorem lifted (os:Os) (started:os.Started) (H:Type) (enc:TypeId×Value->H) (F:Stop.Interp) :
  ReturnsInHanded {} Tryz.checked os 4 .any ((Rows.OpenSpec.upto Rows.historySeekSpec).pre6 enc Tryz.prog Tryz.f4 Rows.historySeekUptoRow.domain false) (((Rows.OpenSpec.upto Rows.historySeekSpec).at F).post enc Tryz.prog Tryz.f4 false true false false):=by
 refine returnsInHanded_of_cond (C:=Tryz.checked) (s:=Rows.OpenSpec.upto Rows.historySeekSpec) (k:=Rows.uptoSmall) rfl own started (by kernel_rfl) Tryz.func4
  (OpenSpec.witness (enc:=enc) (C:=Tryz.checked) (s:=Rows.OpenSpec.upto Rows.historySeekSpec) (k:=Rows.uptoSmall) rfl false ⟨#[],#[.agg #[.int .i64 0,.string .empty,.int .i64 0,.slice none 0 0],.slice none 0 0,.int .u8 0],[]⟩ 8 (by kernel_rfl) (by kernel_rfl) (by kernel_rfl)
   (x:=([.agg [.lit (.int .i64 0),.lit (.string []),.lit (.int .i64 0),.nil],.nil,.lit (.int .u8 0)],[],[])) (by kernel_rfl) rfl (by kernel_rfl)) ?_
 intro W base args' ds gs before hval hW _ hk _;refine zQf (s:=Rows.historySeekSpec) (fn:=Tryz.f4) tok tcl (by kernel_rfl) zJC rfl ?_ rfl Tryz.underlying4 ?_ ?_ W base args' ds gs before hval hW hk (F:=F)
 ·intro t ht;have:t=24∨t=25∨t=5 :=(by simpa [Tryz.params4] using ht);rcases this with rfl | rfl | rfl
  ·exact⟨rfl,by kernel_rfl,of_decide_eq_true (by kernel_rfl)⟩
  ·exact⟨rfl,by kernel_rfl,of_decide_eq_true (by kernel_rfl)⟩
  ·exact⟨rfl,by kernel_rfl,of_decide_eq_true (by kernel_rfl)⟩
 ·intro ds hds
  match ds,hds with
  | [d0,d1,d2],_=>rfl
 ·intro sss hs hbk;obtain⟨s1,r1,rfl,⟨n1,t1⟩,s2,r2,rfl,⟨n2,t2⟩,s3,r3,rfl,⟨n3,t3⟩,rfl⟩:=(hs:zVa T [24,25,5] sss)
  obtain⟨a,rfl,ra⟩:=zWe t1;obtain⟨l,rfl⟩:=zSa t2;obtain⟨x,rfl,hx0,hx1⟩:=zC3 (T:=T) (k:=.u8) rfl rfl t3;have hx2:(0:Int)<=x:=hx0;have hx3:x<=255:=hx1;simp only[zEq]at hbk;have ha:=Nd.w_bulk a;obtain⟨b1,b2⟩:=zU5 l (by omega)
  exact⟨_,a,l,x,true,zMC 200000100 (by decide) (zS8 200000040) a (by omega) l b1 b2 x hx2 hx3,rfl,rfl⟩
theorem over:Rows.historySeekUptoRow.holds Tryz.pinned (Rows.OpenSpec.upto Rows.historySeekSpec) :=
 OpenClaim.holds_of_cond 4 Tryz.f4 rfl rfl rfl rfl rfl rfl rfl ⟨rfl,rfl,rfl,rfl,rfl⟩ rfl rfl rfl rfl rfl (by kernel_rfl) Tryz.func4 (by kernel_rfl)
  (of_decide_eq_true (by kernel_rfl)) (by unfold Func.isWrapper; first | (rw[if_pos (by decide +kernel)]; kernel_rfl) | (rw[if_neg (by decide +kernel)]; exact⟨rfl,rfl⟩))
  (fun os started H enc _ F=>lifted os started H enc F)
theorem proved:Rows.HistorySeekUptoSaid :=
 over
end Go.Proofs.YtffhjiplcfncdaaGreat.historySeek
