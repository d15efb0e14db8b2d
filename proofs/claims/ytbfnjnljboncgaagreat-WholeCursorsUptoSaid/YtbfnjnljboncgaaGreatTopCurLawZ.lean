/-
  WholeCursors: for all arguments whose readings are of bulk at most 1048576, the law returns true and its arguments read as before.
-/
import Derived.Test.YtbfnjnljboncgaaGreatZh
set_option linter.unusedVariables false
namespace Go.Proofs.YtbfnjnljboncgaaGreat.wholeCursors
open Go.Abs Go.ChangeShapes Go.WideShapes Go.RowKit
theorem own:ownKnob Tryz.prog.godebug=none:=by kernel_rfl
set_option maxRecDepth 100000 in
theorem lifted (os:Os) (started:os.Started) (H:Type) (enc:TypeId×Value->H) (F:Stop.Interp) :
  ReturnsInHanded {} Tryz.checked os 3 .any ((Rows.OpenSpec.upto Rows.wholeCursorsSpec).pre6 enc Tryz.prog Tryz.f3 Rows.wholeCursorsUptoRow.domain false) (((Rows.OpenSpec.upto Rows.wholeCursorsSpec).at F).post enc Tryz.prog Tryz.f3 false true false false):=by
 refine returnsInHanded_of_cond (C:=Tryz.checked) (s:=Rows.OpenSpec.upto Rows.wholeCursorsSpec) (k:=Rows.uptoSmall) rfl own started (by kernel_rfl) Tryz.func3
  (OpenSpec.witness (enc:=enc) (C:=Tryz.checked) (s:=Rows.OpenSpec.upto Rows.wholeCursorsSpec) (k:=Rows.uptoSmall) rfl false ⟨#[],#[.agg #[.int .i64 0,.string .empty,.int .i64 0,.slice none 0 0],.slice none 0 0,.bool false],[]⟩ 8 (by kernel_rfl) (by kernel_rfl) (by kernel_rfl)
   (x:=([.agg [.lit (.int .i64 0),.lit (.string []),.lit (.int .i64 0),.nil],.nil,.lit (.bool false)],[],[])) (by kernel_rfl) rfl (by kernel_rfl)) ?_
 intro W base args' ds gs before hval hW _ hk _;refine zSZ (s:=Rows.wholeCursorsSpec) (fn:=Tryz.f3) tok tcl (by kernel_rfl) zKf rfl ?_ rfl Tryz.underlying4 ?_ ?_ W base args' ds gs before hval hW hk (F:=F)
 ·intro t ht;have:t=24∨t=25∨t=4 :=(by simpa [Tryz.params3] using ht);rcases this with rfl | rfl | rfl
  ·exact⟨rfl,by kernel_rfl,of_decide_eq_true (by kernel_rfl)⟩
  ·exact⟨rfl,by kernel_rfl,of_decide_eq_true (by kernel_rfl)⟩
  ·exact⟨rfl,by kernel_rfl,of_decide_eq_true (by kernel_rfl)⟩
 ·intro ds hds
  match ds,hds with
  | [d0,d1,d2],_=>rfl
 ·intro sss hs hbk;obtain⟨s1,r1,rfl,⟨n1,t1⟩,s2,r2,rfl,⟨n2,t2⟩,s3,r3,rfl,⟨n3,t3⟩,rfl⟩:=(hs:zY2 T [24,25,4] sss)
  obtain⟨a,rfl,ra⟩:=zZ8 t1;obtain⟨l,rfl,hp⟩:=zW3 t2;obtain⟨x,rfl⟩:=zP4 (T:=T) rfl rfl t3;simp only[zE8]at hbk;have ha:=Nd.w_bulk a;obtain⟨b1,b2⟩:=zZ4 l (by omega)
  exact⟨_,a,l,x,true,zNo 300000000 (by decide) a l x (by omega) b1 (fun c hc=>⟨b2 c hc,hp c hc⟩),rfl,rfl⟩
theorem over:Rows.wholeCursorsUptoRow.holds Tryz.pinned (Rows.OpenSpec.upto Rows.wholeCursorsSpec) :=
 OpenClaim.holds_of_cond 3 Tryz.f3 rfl rfl rfl rfl rfl rfl rfl ⟨rfl,rfl,rfl,rfl,rfl⟩ rfl rfl rfl rfl rfl (by kernel_rfl) Tryz.func3 (by kernel_rfl)
  (of_decide_eq_true (by kernel_rfl)) (by unfold Func.isWrapper; first | (rw[if_pos (by decide +kernel)]; kernel_rfl) | (rw[if_neg (by decide +kernel)]; exact⟨rfl,rfl⟩))
  (fun os started H enc _ F=>lifted os started H enc F)
theorem proved:Rows.WholeCursorsUptoSaid :=
 over
end Go.Proofs.YtbfnjnljboncgaaGreat.wholeCursors
