/-
  HistoryCopies: for all arguments whose readings are of bulk at most 1048576, the law returns true and its arguments read as before.
-/
import Derived.Test.YtffhjiplcfncdaaZf
set_option linter.unusedVariables false
namespace Go.Proofs.Ytffhjiplcfncdaa.historyCopies
open Go.Abs Go.ChangeShapes Go.WideShapes Go.RowKit
theorem own:ownKnob Try.prog.godebug=none:=by kernel_rfl
set_option maxRecDepth 100000 in
theorem lifted (os:Os) (started:os.Started) (H:Type) (enc:TypeId×Value->H) (F:Stop.Interp) :
  ReturnsInHanded {} Try.checked os 3 .any ((Rows.OpenSpec.upto Rows.historyCopiesSpec).pre6 enc Try.prog Try.f3 Rows.historyCopiesUptoRow.domain false) (((Rows.OpenSpec.upto Rows.historyCopiesSpec).at F).post enc Try.prog Try.f3 false true false false):=by
 refine returnsInHanded_of_cond (C:=Try.checked) (s:=Rows.OpenSpec.upto Rows.historyCopiesSpec) (k:=Rows.uptoSmall) rfl own started (by kernel_rfl) Try.func3
  (OpenSpec.witness (enc:=enc) (C:=Try.checked) (s:=Rows.OpenSpec.upto Rows.historyCopiesSpec) (k:=Rows.uptoSmall) rfl false ⟨#[],#[.agg #[.int .i64 0,.string .empty,.int .i64 0,.slice none 0 0],.string .empty],[]⟩ 8 (by kernel_rfl) (by kernel_rfl) (by kernel_rfl)
   (x:=([.agg [.lit (.int .i64 0),.lit (.string []),.lit (.int .i64 0),.nil],.lit (.string [])],[],[])) (by kernel_rfl) rfl (by kernel_rfl)) ?_
 intro W base args' ds gs before hval hW _ hk _;refine zNo (s:=Rows.historyCopiesSpec) (fn:=Try.f3) tok tcl (by kernel_rfl) zGG rfl ?_ rfl Try.underlying4 ?_ ?_ W base args' ds gs before hval hW hk (F:=F)
 ·intro t ht;have:t=24∨t=9 :=(by simpa [Try.params3] using ht);rcases this with rfl | rfl
  ·exact⟨rfl,by kernel_rfl,of_decide_eq_true (by kernel_rfl)⟩
  ·exact⟨rfl,by kernel_rfl,of_decide_eq_true (by kernel_rfl)⟩
 ·intro ds hds
  match ds,hds with
  | [d0,d1],_=>rfl
 ·intro sss hs hbk;obtain⟨s1,r1,rfl,⟨n1,t1⟩,s2,r2,rfl,⟨n2,t2⟩,rfl⟩:=(hs:zQR T [24,9] sss)
  obtain⟨a,rfl,ra⟩:=zRz t1;obtain⟨x,rfl,_⟩:=zN2 (T:=T) rfl rfl t2;simp only[zEv]at hbk;have ha:=Nd.w_bulk a;obtain⟨h1,h2⟩:=zSm a (by omega) ra;exact⟨200000100,a,x,h1,h2,rfl,rfl⟩
theorem over:Rows.historyCopiesUptoRow.holds Try.pinned (Rows.OpenSpec.upto Rows.historyCopiesSpec) :=
 OpenClaim.holds_of_cond 3 Try.f3 rfl rfl rfl rfl rfl rfl rfl ⟨rfl,rfl,rfl,rfl,rfl⟩ rfl rfl rfl rfl rfl (by kernel_rfl) Try.func3 (by kernel_rfl)
  (of_decide_eq_true (by kernel_rfl)) (by unfold Func.isWrapper; first | (rw[if_pos (by decide +kernel)]; kernel_rfl) | (rw[if_neg (by decide +kernel)]; exact⟨rfl,rfl⟩))
  (fun os started H enc _ F=>lifted os started H enc F)
theorem proved:Rows.HistoryCopiesUptoSaid :=
 over
end Go.Proofs.Ytffhjiplcfncdaa.historyCopies
