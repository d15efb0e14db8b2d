/-
  WholeDifference: for all arguments whose readings are of bulk at most 1048576, the law returns true and its arguments read as before (a tied card: tables of the library hold what the program text lays).
-/
import Derived.Test.YtbfnjnljboncgaaGreatDoorCards
import Derived.Test.YtbfnjnljboncgaaGreatDoorTie
import Derived.Deep.DeepHandedRow
import Derived.Lib.LaidTab
import Derived.Test.YtbfnjnljboncgaaGreatDoorZg
set_option linter.unusedVariables false
namespace Go.Proofs.YtbfnjnljboncgaaGreatDoor.wholeDifference
open Go.Abs Go.ChangeShapes Go.WideShapes Go.RowKit
theorem own:ownKnob Tryz.prog.godebug=none:=by kernel_rfl
theorem gTab:Tryz.prog.globalNamed "internal/strconv.uint64pow10" = some 1:=by kernel_rfl
theorem zXi:(Tryz.prog.globals[1]?).map (·.type)=some 244:=by kernel_rfl
theorem tables {W:World} (h:laidMetH Tryz.prog Rows.wholeDifferenceUptoRow.laid W):GlobOk (old W) W:=by
 have h':laidMet Tryz.prog Rows.wholeDifferenceUptoRow.laid W:=h;obtain⟨ps,⟨_,_,_,_,_,_,_,_,_,_,⟨_,_,_,_,_,_,_,_,_,_,⟨g',t',cs,fuel,p,q,hg',ht',hvar,hd,_⟩,_⟩,_⟩,_⟩:=h';obtain rfl:=Option.some.inj (gTab.symm.trans hg')
 obtain rfl:=Option.some.inj (zXi.symm.trans ht')
 have hcs:=Lib.cells_of_tab (k:=.u64) (zs:=Lib.pow10Tab) Tryz.underlying244 Tryz.underlying42 (by kernel_rfl) (by kernel_rfl) hd;refine⟨fun g row hg=>(by cases hg),fun g cs' hg=>?_⟩
 unfold zZ2 at hg;cases hb:Nat.beq g 1 with
 | false=>rw[hb]at hg; cases hg
 | true =>
  obtain rfl:g=1:=Nat.eq_of_beq_eq_true hb;rw[hb]at hg;have hg2:=Option.some.inj hg;subst hg2;unfold World.var? at hvar;rw[gTab]at hvar;simp only[Option.bind_some]at hvar;split at hvar
  ·rename_i c e fz hh
   have hc:c=(Lib.pow10Tab.map fun z=>Value.int .u64 z).toArray:=by
    have:=Option.some.inj hvar;rw[this,← hcs]
   rw[hc]at hh;exact⟨(Array.getElem?_eq_some_iff.1 hh).1,e,fz,hh⟩
  ·cases hvar
noncomputable def laidWorld (os:Os):World :=
 { World.holding Tryz.prog os ⟨#[],#[],[]⟩ with heap:=((((World.holding Tryz.prog os ⟨#[],#[],[]⟩).heap.modify 2 fun
   | .cells _ t frozen=>.cells #[.int .u8 0,.int .u8 1,.int .u8 28,.int .u8 2,.int .u8 29,.int .u8 14,.int .u8 24,.int .u8 3,.int .u8 30,.int .u8 22,.int .u8 20,.int .u8 15,.int .u8 25,.int .u8 17,.int .u8 4,.int .u8 8,.int .u8 31,.int .u8 27,.int .u8 13,.int .u8 23,.int .u8 21,.int .u8 19,.int .u8 16,.int .u8 7,.int .u8 26,.int .u8 12,.int .u8 18,.int .u8 6,.int .u8 11,.int .u8 5,.int .u8 10,.int .u8 9] t frozen
   | o=>o).modify 3 fun
   | .cells _ t frozen=>.cells #[.int .u8 0,.int .u8 1,.int .u8 56,.int .u8 2,.int .u8 57,.int .u8 49,.int .u8 28,.int .u8 3,.int .u8 61,.int .u8 58,.int .u8 42,.int .u8 50,.int .u8 38,.int .u8 29,.int .u8 17,.int .u8 4,.int .u8 62,.int .u8 47,.int .u8 59,.int .u8 36,.int .u8 45,.int .u8 43,.int .u8 51,.int .u8 22,.int .u8 53,.int .u8 39,.int .u8 33,.int .u8 30,.int .u8 24,.int .u8 18,.int .u8 12,.int .u8 5,.int .u8 63,.int .u8 55,.int .u8 48,.int .u8 27,.int .u8 60,.int .u8 41,.int .u8 37,.int .u8 16,.int .u8 46,.int .u8 35,.int .u8 44,.int .u8 21,.int .u8 52,.int .u8 32,.int .u8 23,.int .u8 11,.int .u8 54,.int .u8 26,.int .u8 40,.int .u8 15,.int .u8 34,.int .u8 20,.int .u8 31,.int .u8 10,.int .u8 25,.int .u8 14,.int .u8 19,.int .u8 9,.int .u8 13,.int .u8 8,.int .u8 7,.int .u8 6] t frozen
   | o=>o).modify 1 fun
   | .cells _ t frozen=>.cells #[.int .u64 1,.int .u64 10,.int .u64 100,.int .u64 1000,.int .u64 10000,.int .u64 100000,.int .u64 1000000,.int .u64 10000000,.int .u64 100000000,.int .u64 1000000000,.int .u64 10000000000,.int .u64 100000000000,.int .u64 1000000000000,.int .u64 10000000000000,.int .u64 100000000000000,.int .u64 1000000000000000,.int .u64 10000000000000000,.int .u64 100000000000000000,.int .u64 1000000000000000000,.int .u64 10000000000000000000] t frozen
   | o=>o) }
theorem laid_met (os:Os):laidMet Tryz.prog Rows.wholeDifferenceUptoRow.laid ((laidWorld os).forCall (fun _ _=>0) ⟨#[],#[.agg #[.int .i64 0,.string .empty,.int .i64 0,.slice none 0 0],.slice none 0 0],[]⟩).memory :=
 laidMet_of_run' 8 (by kernel_rfl) (by kernel_rfl)
theorem reads (os:Os){H:Type} (enc:TypeId×Value->H):∃ places,DataW.whole enc Tryz.prog ((laidWorld os).forCall (fun _ _=>0) ⟨#[],#[.agg #[.int .i64 0,.string .empty,.int .i64 0,.slice none 0 0],.slice none 0 0],[]⟩).memory Tryz.f3.params.toList Rows.wholeDifferenceSpec.vars false (#[.agg #[.int .i64 0,.string .empty,.int .i64 0,.slice none 0 0],.slice none 0 0]:Array Value).toList 8=some ([.agg [.lit (.int .i64 0),.lit (.string []),.lit (.int .i64 0),.nil],.nil],[],places) :=
 ⟨[],by kernel_rfl⟩
set_option maxRecDepth 100000 in
theorem lifted (os:Os) (started:os.Started) (H:Type) (enc:TypeId×Value->H) (F:Stop.Interp) :
  ReturnsInHanded {} Tryz.checked os 3 .any ((Rows.OpenSpec.upto Rows.wholeDifferenceSpec).preRow enc Tryz.prog Tryz.f3 Rows.wholeDifferenceUptoRow.domain false Rows.wholeDifferenceUptoRow.laid) (((Rows.OpenSpec.upto Rows.wholeDifferenceSpec).at F).post enc Tryz.prog Tryz.f3 false true false false):=by
 obtain⟨places,hx⟩:=reads os enc;refine returnsInHanded_of_row (C:=Tryz.checked) (s:=Rows.OpenSpec.upto Rows.wholeDifferenceSpec) own started (by kernel_rfl) Tryz.func3
  (witness_row_at (enc:=enc) (C:=Tryz.checked) false (laidWorld os) #[.agg #[.int .i64 0,.string .empty,.int .i64 0,.slice none 0 0],.slice none 0 0] rfl (by kernel_rfl) (by kernel_rfl) (by kernel_rfl)
   (OpenSpec.preRow_of_cond 8 hx (by kernel_rfl) (fun k hk=>by cases hk; kernel_rfl) (by kernel_rfl) (laid_met os))) ?_
 intro W base args' ds gs before hval hW _ hcond _ hL _ _;refine zRl (s:=Rows.wholeDifferenceSpec) (fn:=Tryz.f3) tok tcl (by kernel_rfl) zHe rfl ?_ rfl Tryz.underlying4 ?_ ?_ W base args' ds gs before hval hW (hcond _ rfl) (tables hL) (F:=F)
 ·intro t ht;have:t=24∨t=25 :=(by simpa [Tryz.params3] using ht);rcases this with rfl | rfl
  ·exact⟨rfl,by kernel_rfl,of_decide_eq_true (by kernel_rfl)⟩
  ·exact⟨rfl,by kernel_rfl,of_decide_eq_true (by kernel_rfl)⟩
 ·intro ds hds
  match ds,hds with
  | [d0,d1],_=>rfl
 ·intro sss hs hbk;obtain⟨s1,r1,rfl,⟨n1,t1⟩,s2,r2,rfl,⟨n2,t2⟩,rfl⟩:=(hs:zWY T [24,25] sss)
  obtain⟨a,rfl,ra⟩:=zYc t1;obtain⟨ops,rfl⟩:=zWK t2;simp only[zEe,zDR,S.bulk]at hbk;have ha:=Nd.w_bulk a;refine⟨_,a,ops,true,zJq a ops (by omega) (fun o ho=>?_),rfl,rfl⟩
  have h1:=zS8 (f:=zAk) ho;have h2:=zZe o;show Nd.ws o.2.2.2.2.1+o.2.2.2.2.2.2.2.length+4<=1048580
  omega
theorem said:Rows.WholeDifferenceUptoSaid :=
 OpenClaim.holds_of_cond 3 Tryz.f3 rfl rfl rfl rfl rfl rfl rfl ⟨rfl,rfl,rfl,rfl,rfl⟩ rfl rfl rfl rfl rfl (by kernel_rfl) Tryz.func3 (by kernel_rfl)
  (of_decide_eq_true (by kernel_rfl)) (by unfold Func.isWrapper; first | (rw[if_pos (by decide +kernel)]; kernel_rfl) | (rw[if_neg (by decide +kernel)]; exact⟨rfl,rfl⟩))
  (fun os started H enc _ F=>by rw[OpenClaim.pre_eq_preRow]; exact lifted os started H enc F)
theorem plain (f:FuncId) (fn:Func) (hf:Tryz.pinned.checked.prog.funcNamed "vinculum/vinculumtop.WholeDifference" = some f) (hfn:Tryz.pinned.checked.prog.funcs[f]? = some fn) :
  false=Tryz.pinned.checked.prog.looks []/\∀ (j:Nat) t,fn.params[j]? = some t->Tryz.pinned.checked.prog.wantsStandIn t=false:=by
 obtain rfl:f=3:=Option.some.inj ((show Tryz.prog.funcNamed "vinculum/vinculumtop.WholeDifference" = some 3 by kernel_rfl).symm.trans hf) |>.symm
 obtain rfl:fn=Tryz.f3:=(Option.some.inj (Tryz.func3.symm.trans hfn)).symm;refine⟨by kernel_rfl,fun j t ht=>?_⟩
 rw[Tryz.params3]at ht;have hm:t=24∨t=25 :=(by simpa using Array.mem_of_getElem? ht);rcases hm with rfl | rfl
 ·exact(show Tryz.prog.wantsStandIn 24=false by kernel_rfl)
 ·exact(show Tryz.prog.wantsStandIn 25=false by kernel_rfl)
theorem proved:Rows.WholeDifferenceUptoCardSaid :=
 Claim7.holds_tied_plain_at .later [] _ _ _ _ said (fun _ h=>by cases h) (by kernel_rfl) (fun _ h=>by cases h) wholeDifferenceUpto_row_tie rfl ⟨rfl,rfl⟩ (by kernel_rfl) rfl plain (by kernel_rfl)
end Go.Proofs.YtbfnjnljboncgaaGreatDoor.wholeDifference
