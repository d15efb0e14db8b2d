/-
  HistoryScript: for all arguments whose readings are of bulk at most 1048576, the law returns true and its arguments read as before.
-/
import Derived.Test.YtffhjiplcfncdaaGreatZg
set_option linter.unusedVariables false
namespace Go.Proofs.YtffhjiplcfncdaaGreat.historyScript
open Go.Abs Go.ChangeShapes Go.WideShapes Go.RowKit
theorem own:ownKnob Tryz.prog.godebug=none:=by kernel_rfl
set_option maxRecDepth 100000 in
theorem lifted (os:Os) (started:os.Started) (H:Type) (enc:TypeId×Value->H) (F:Stop.Interp) :
  ReturnsInHanded {} Tryz.checked os 5 .any ((Rows.OpenSpec.upto Rows.historyScriptSpec).pre6 enc Tryz.prog Tryz.f5 Rows.historyScriptUptoRow.domain false) (((Rows.OpenSpec.upto Rows.historyScriptSpec).at F).post enc Tryz.prog Tryz.f5 false true false false):=by
 refine returnsInHanded_of_cond (C:=Tryz.checked) (s:=Rows.OpenSpec.upto Rows.historyScriptSpec) (k:=Rows.uptoSmall) rfl own started (by kernel_rfl) Tryz.func5
  (OpenSpec.witness (enc:=enc) (C:=Tryz.checked) (s:=Rows.OpenSpec.upto Rows.historyScriptSpec) (k:=Rows.uptoSmall) rfl false ⟨#[],#[.agg #[.int .i64 0,.string .empty,.int .i64 0,.slice none 0 0],.slice none 0 0],[]⟩ 8 (by kernel_rfl) (by kernel_rfl) (by kernel_rfl)
   (x:=([.agg [.lit (.int .i64 0),.lit (.string []),.lit (.int .i64 0),.nil],.nil],[],[])) (by kernel_rfl) rfl (by kernel_rfl)) ?_
 intro W base args' ds gs before hval hW _ hk _;refine zQ1 (s:=Rows.historyScriptSpec) (fn:=Tryz.f5) tok tcl (by kernel_rfl) zIP rfl ?_ rfl Tryz.underlying4 ?_ ?_ W base args' ds gs before hval hW hk (F:=F)
 ·intro t ht;have:t=24∨t=25 :=(by simpa [Tryz.params5] using ht);rcases this with rfl | rfl
  ·exact⟨rfl,by kernel_rfl,of_decide_eq_true (by kernel_rfl)⟩
  ·exact⟨rfl,by kernel_rfl,of_decide_eq_true (by kernel_rfl)⟩
 ·intro ds hds
  match ds,hds with
  | [d0,d1],_=>rfl
 ·intro sss hs hbk;obtain⟨s1,r1,rfl,⟨n1,t1⟩,s2,r2,rfl,⟨n2,t2⟩,rfl⟩:=(hs:zWj T [24,25] sss)
  obtain⟨a,rfl,ra⟩:=zXn t1;obtain⟨l,rfl⟩:=zS2 t2;simp only[zEx]at hbk;have ha:=Nd.w_bulk a;obtain⟨b1,b2⟩:=zWe l (by omega)
  exact⟨_,a,l,true,zLv 200000100 (by decide) (zT9 200000040) a (by omega) l b1 b2,rfl,rfl⟩
theorem over:Rows.historyScriptUptoRow.holds Tryz.pinned (Rows.OpenSpec.upto Rows.historyScriptSpec) :=
 OpenClaim.holds_of_cond 5 Tryz.f5 rfl rfl rfl rfl rfl rfl rfl ⟨rfl,rfl,rfl,rfl,rfl⟩ rfl rfl rfl rfl rfl (by kernel_rfl) Tryz.func5 (by kernel_rfl)
  (of_decide_eq_true (by kernel_rfl)) (by unfold Func.isWrapper; first | (rw[if_pos (by decide +kernel)]; kernel_rfl) | (rw[if_neg (by decide +kernel)]; exact⟨rfl,rfl⟩))
  (fun os started H enc _ F=>lifted os started H enc F)
theorem proved:Rows.HistoryScriptUptoSaid :=
 over
end Go.Proofs.YtffhjiplcfncdaaGreat.historyScript
