/-
  Joined out of: HnVA, HnVB, LibG, LibH, LibW, AbsY, LibO, LibR, HnE, LibE, HnF, RfA, RfB.
-/
import Derived.WalkKit
import Derived.Lib.Walk
import Derived.Lib.SliceRun
import Derived.Lib.AppendZerosOnto
import Derived.Shelf.RegionOpenPlain
import Derived.RangeFuncNested
import Derived.RangeFuncLeaves
import Derived.RangeFuncRecord
import Derived.Test.YtffhjiplcfncdaaZc
set_option linter.unusedVariables false
set_option linter.unusedSimpArgs false
set_option maxHeartbeats 2000000
set_option maxRecDepth 100000
namespace Go.Proofs.Ytffhjiplcfncdaa
open Go.Abs
def zMP (xs:List AV) (r:Ret):Prop:=∃ (a0:List UInt8) (y0:Bool),zBk a0=some y0/\xs=[.s (.str a0)]/\r = .val (.s (.bool y0))
def zID:zAp:=zAr fun xs r=>zMP xs r
theorem zMf:PSound Try.prog 49 zID:=by
 have gok:=@gok0 Try.prog;refine zAw tokW Try.call49 Try.func49 rfl (fun xs r h=>by obtain⟨_,_,_,rfl,_⟩:=h; show 1<=5; decide) 5 rfl ?_;rintro xs r w0 G0 ⟨s1,y0,h,rfl,rfl⟩ _;rw[zBk]at h;refine zSV ?_;refine zSV ?_;refine zAg ?_;have hy:=osi h;subst hy;exact fin0 rfl rfl
def zKz (n:Nat) (xs:List AV) (r:Ret):Prop:=∃ (a0:List UInt8) (y0:Bool),zB9 n a0=some y0/\xs=[.s (.str a0)]/\r = .val (.s (.bool y0))
def zGR:zAp:=zAr fun xs r=>∃ n,zKz n xs r
theorem zJ6:PSound Try.prog 67 zGR:=by
 have gok:=@gok0 Try.prog;refine zAw tokW Try.call67 Try.func67 rfl (fun xs r h=>by obtain⟨n,_,_,_,rfl,_⟩:=h; show 1<=21; decide) 21 rfl ?_;rintro xs r w0 G0 ⟨n,s1,y0,h,rfl,rfl⟩ _;rw[zB9]at h;refine zSV ?_;refine zAa ?_;refine zSV ?_;show Tri ..;obtain⟨fl,hl,ho1⟩:=zAc h;refine zDf (fl:=fl) (fun z=>match z with | _=>⟨ofL [],fun _=>none,0⟩) ?_ (fun z σ' hz hle=>?_)
 ·refine zAi (zAz (X:=Nat×Int) (fun y=>match y with | (k,i2)=>⟨ofL [(0,.s (.str s1)),(3,.s (.int .i64 i2))],fun _=>none,0⟩) (fun y=>zAS s1 y.1 y.2=some fl) (fun y=>y.1) (n,0) hl ?_ ?_)
  ·exact(Le.forget _ ⟨rfl,rfl,trivial⟩)
  ·rintro⟨k,i2⟩ h;cases k with
   | zero=>cases h
   | succ k =>
    replace h:zAS s1 (k+1) i2=some fl:=h;rw[zAS]at h;refine zAa ?_;refine zSV ?_;refine zAj rfl h (fun hb h=>?_) (fun hb h=>?_)
    ·refine zAe ?_;refine zAa ?_;refine zAi ?_;refine zSg [] [13] rfl ?_;obtain⟨c3,hc3,h⟩:=zAc h;refine And.intro (zA3 hc3).1 ?_;intro v4 hv4;obtain rfl:(c3.toNat:Int)=v4:=(hv4.trans (zA3 hc3).2).symm;refine zAa ?_;obtain⟨x5,hj,h⟩:=zAc h;refine zAo ⟨ofL [(0,.s (.str s1)),(3,.s (.int .i64 i2)),(20,.s (.bool x5))],fun _=>none,0⟩ ?_ (fun σ' hle=>?_)
     ·replace h:=hj;refine zAb [] [17] rfl ?_;intro b hb;cases b with
      | true =>
       replace h:=zAu hb.symm h;cases h;exact(Le.forget _ ⟨rfl,rfl,rfl,trivial⟩)
      | false =>
       replace h:=zAt hb.symm h;cases h;exact(Le.forget _ ⟨rfl,rfl,rfl,trivial⟩)
     ·refine zAk hle ?_;refine zAj rfl h (fun hb h=>?_) (fun hb h=>?_)
      ·refine zSV ?_;refine zAg ?_;cases h;replace h:some _=some _:=ho1;have hy:=osi h;subst hy;exact fin0 rfl rfl
      ·refine zAe ?_;refine zSU ?_;refine⟨(k,IntKind.i64.wrap (i2+1)),h,(Le.forget _ ⟨rfl,rfl,trivial⟩),Nat.lt_succ_self k⟩
    ·refine zAx ?_;cases h;exact⟨_,rfl,(Le.forget _ trivial)⟩
 ·subst hz;obtain _:=z;replace h:=ho1;refine zAk hle ?_;refine zSV ?_;refine zAg ?_;have hy:=osi h;subst hy;exact fin0 rfl rfl
def zKy (xs:List AV) (r:Ret):Prop:=∃ (a0:List UInt8) (y0:Bool),zCN a0=some y0/\xs=[.s (.str a0)]/\r = .val (.s (.bool y0))
def zGQ:zAp:=zAr fun xs r=>zKy xs r
theorem zJ5:PSound Try.prog 69 zGQ:=by
 have gok:=@gok0 Try.prog;refine zAw tokW Try.call69 Try.func69 rfl (fun xs r h=>by obtain⟨_,_,_,rfl,_⟩:=h; show 1<=9; decide) 9 rfl ?_;rintro xs r w0 G0 ⟨s1,y0,h,rfl,rfl⟩ _;rw[zCN]at h;refine zSV ?_;refine zAa ?_;refine zSV ?_;show Tri ..;obtain⟨fl,hj,ho1⟩:=zAc h;refine zDf (fl:=fl) (fun z=>match z with | _=>⟨ofL [],fun _=>none,0⟩) ?_ (fun z σ' hz hle=>?_)
 ·replace h:=hj;refine zAi ?_;refine zAa ?_;refine zSV ?_;show Tri ..;obtain⟨x2,hj,h⟩:=zAc h;refine zAo ⟨ofL [(4,.s (.bool x2))],fun _=>none,0⟩ ?_ (fun σ' hle=>?_)
  ·replace h:=hj;refine zAj rfl h (fun hb h=>?_) (fun hb h=>?_)
   ·refine zAe ?_;cases h;exact(Le.forget _ ⟨rfl,trivial⟩)
   ·refine zSV ?_;refine zAj rfl h (fun hb h=>?_) (fun hb h=>?_)
    ·refine zAe ?_;cases h;exact(Le.forget _ ⟨rfl,trivial⟩)
    ·refine zSV ?_;refine zAj rfl h (fun hb h=>?_) (fun hb h=>?_)
     ·refine zAe ?_;cases h;exact(Le.forget _ ⟨rfl,trivial⟩)
     ·refine zSU ?_;cases h;exact(Le.forget _ ⟨rfl,trivial⟩)
  ·refine zAk hle ?_;refine zAj rfl h (fun hb h=>?_) (fun hb h=>?_)
   ·refine zSV ?_;refine zAg ?_;cases h;replace h:some _=some _:=ho1;have hy:=osi h;subst hy;exact fin0 rfl rfl
   ·refine zAe ?_;cases h;exact⟨_,rfl,(Le.forget _ trivial)⟩
 ·subst hz;obtain _:=z;replace h:=ho1;refine zAk hle ?_;refine zSV ?_;refine zAg ?_;have hy:=osi h;subst hy;exact fin0 rfl rfl
def zLL (xs:List AV) (r:Ret):Prop:=∃ (a0:List UInt8) (y0:Bool),zCv a0=some y0/\xs=[.s (.str a0)]/\r = .val (.s (.bool y0))
def zFx:zAp:=zAr fun xs r=>zLL xs r
theorem zG1:PSound Try.prog 53 zFx:=by
 have gok:=@gok0 Try.prog;refine zAw tokW Try.call53 Try.func53 rfl (fun xs r h=>by obtain⟨_,_,_,rfl,_⟩:=h; show 1<=11; decide) 11 rfl ?_;rintro xs r w0 G0 ⟨s1,y0,h,rfl,rfl⟩ _;rw[zCv]at h;refine zSV ?_;refine zAa ?_;refine zSV ?_;show Tri ..;obtain⟨fl,hj,ho1⟩:=zAc h;refine zDf (fl:=fl) (fun z=>match z with | _=>⟨ofL [],fun _=>none,0⟩) ?_ (fun z σ' hz hle=>?_)
 ·replace h:=hj;refine zAi ?_;refine zAa ?_;refine zSV ?_;show Tri ..;obtain⟨x2,hj,h⟩:=zAc h;refine zAo ⟨ofL [(4,.s (.bool x2))],fun _=>none,0⟩ ?_ (fun σ' hle=>?_)
  ·replace h:=hj;refine zAj rfl h (fun hb h=>?_) (fun hb h=>?_)
   ·refine zAe ?_;cases h;exact(Le.forget _ ⟨rfl,trivial⟩)
   ·refine zSV ?_;refine zAj rfl h (fun hb h=>?_) (fun hb h=>?_)
    ·refine zAe ?_;cases h;exact(Le.forget _ ⟨rfl,trivial⟩)
    ·refine zSV ?_;refine zAj rfl h (fun hb h=>?_) (fun hb h=>?_)
     ·refine zAe ?_;cases h;exact(Le.forget _ ⟨rfl,trivial⟩)
     ·refine zSV ?_;refine zAj rfl h (fun hb h=>?_) (fun hb h=>?_)
      ·refine zAe ?_;cases h;exact(Le.forget _ ⟨rfl,trivial⟩)
      ·refine zSV ?_;refine zAj rfl h (fun hb h=>?_) (fun hb h=>?_)
       ·refine zAe ?_;cases h;exact(Le.forget _ ⟨rfl,trivial⟩)
       ·refine zSU ?_;cases h;exact(Le.forget _ ⟨rfl,trivial⟩)
  ·refine zAk hle ?_;refine zAj rfl h (fun hb h=>?_) (fun hb h=>?_)
   ·refine zSV ?_;refine zAg ?_;cases h;replace h:some _=some _:=ho1;have hy:=osi h;subst hy;exact fin0 rfl rfl
   ·refine zAe ?_;cases h;exact⟨_,rfl,(Le.forget _ trivial)⟩
 ·subst hz;obtain _:=z;replace h:=ho1;refine zAk hle ?_;refine zSV ?_;refine zAg ?_;have hy:=osi h;subst hy;exact fin0 rfl rfl
def zLK (n:Nat) (xs:List AV) (r:Ret):Prop:=∃ (a0:List UInt8) (y0:Bool),zDa n a0=some y0/\xs=[.s (.str a0)]/\r = .val (.s (.bool y0))
def zHG:zAp:=zAr fun xs r=>∃ n,zLK n xs r
theorem zKK:PSound Try.prog 50 zHG:=by
 have gok:∀ f s,look? f [(67,zGR),(68,zEV),(69,zGQ),(53,zFx)]=some s->PSound Try.prog f s:=zAm (by
  simp only[List.forall_mem_cons]
  exact⟨zJ6,zHp,zJ5,zG1,by simp⟩)
 refine zAw tokW Try.call50 Try.func50 rfl (fun xs r h=>by obtain⟨n,_,_,_,rfl,_⟩:=h; show 1<=34; decide) 34 rfl ?_;rintro xs r w0 G0 ⟨n,s1,y0,h,rfl,rfl⟩ _;rw[zDa]at h;refine zSV ?_;refine zAa ?_;refine zSV ?_;refine zAj rfl h (fun hb h=>?_) (fun hb h=>?_)
 ·refine zAa ?_;obtain⟨x2,hj,h⟩:=zAc h;refine zAo ⟨ofL [(2,.s (.bool x2))],fun _=>none,0⟩ ?_ (fun σ' hle=>?_)
  ·replace h:=hj;refine zAb [] [8] rfl ?_;obtain⟨y3,hy3,h⟩:=zAc h;refine⟨_,⟨_,_,_,hy3,rfl,rfl⟩,?_⟩
   intro b hb;cases b with
   | true =>
    replace h:=zAu hb.symm h;cases h;exact(Le.forget _ ⟨rfl,trivial⟩)
   | false =>
    replace h:=zAt hb.symm h;obtain⟨y4,hy4,h⟩:=zAc h;refine⟨_,⟨_,_,_,hy4,rfl,rfl⟩,?_⟩
    cases h;exact(Le.forget _ ⟨rfl,trivial⟩)
  ·refine zAk hle ?_;refine zAg ?_;have hy:=osi h;subst hy;exact fin0 rfl rfl
 ·refine zAe ?_;refine zAa ?_;obtain⟨x5,hj,h⟩:=zAc h;refine zAo ⟨ofL [(2,.s (.bool x5))],fun _=>none,0⟩ ?_ (fun σ' hle=>?_)
  ·replace h:=hj;refine zAb [] [15,20,24,29] rfl ?_;intro b hb;cases b with
   | true =>
    replace h:=zAu hb.symm h;intro b hb;cases b with
    | true =>
     replace h:=zAu hb.symm h;obtain⟨y6,hy6,h⟩:=zAc h;refine⟨_,⟨_,_,_,hy6,rfl,rfl⟩,?_⟩
     intro b hb;cases b with
     | true =>
      replace h:=zAu hb.symm h;obtain⟨y7,hy7,h⟩:=zAc h;refine⟨_,⟨_,_,hy7,rfl,rfl⟩,?_⟩
      intro b hb;cases b with
      | true =>
       replace h:=zAu hb.symm h;obtain⟨y8,hy8,h⟩:=zAc h;refine⟨_,⟨_,_,hy8,rfl,rfl⟩,?_⟩
       cases h;exact(Le.forget _ ⟨rfl,trivial⟩)
      | false =>
       replace h:=zAt hb.symm h;cases h;exact(Le.forget _ ⟨rfl,trivial⟩)
     | false =>
      replace h:=zAt hb.symm h;intro b hb;subst hb;cases h;exact(Le.forget _ ⟨rfl,trivial⟩)
    | false =>
     replace h:=zAt hb.symm h;intro b hb;subst hb;intro b hb;subst hb;cases h;exact(Le.forget _ ⟨rfl,trivial⟩)
   | false =>
    replace h:=zAt hb.symm h;intro b hb;subst hb;intro b hb;subst hb;intro b hb;subst hb;cases h;exact(Le.forget _ ⟨rfl,trivial⟩)
  ·refine zAk hle ?_;refine zAg ?_;have hy:=osi h;subst hy;exact fin0 rfl rfl
def zIa (xs:List AV) (r:Ret):Prop:=∃ (a0:List UInt8) (a1:List UInt8) (y0:List UInt8) (y1:List UInt8) (y2:Bool),zBP a0 a1=some (y0,y1,y2)/\xs=[.s (.str a0),.s (.str a1)]/\r = .val (.tup [.s (.str y0),.s (.str y1),.s (.bool y2)])
def zFi:zAp:=zAr fun xs r=>zIa xs r
theorem zHU:PSound Try.prog 84 zFi:=by
 have gok:∀ f s,look? f [(91,zEt)]=some s->PSound Try.prog f s:=zAm (by
  simp only[List.forall_mem_cons]
  exact⟨zGK,by simp⟩)
 refine zAw tokW Try.call84 Try.func84 rfl (fun xs r h=>by obtain⟨_,_,_,_,_,_,rfl,_⟩:=h; show 2<=23; decide) 23 rfl ?_;rintro xs r w0 G0 ⟨s1,sep2,y0,y1,y2,h,rfl,rfl⟩ _;rw[zBP]at h;refine zSV ?_;refine zAa ?_;refine zSV ?_;obtain⟨y3,hy3,h⟩:=zAc h;refine⟨_,⟨_,_,_,hy3,rfl,rfl⟩,?_⟩
 refine zSV ?_;refine zAj rfl h (fun hb h=>?_) (fun hb h=>?_)
 ·refine zAa ?_;refine zBx [] [] [] rfl (by decide +kernel) ?_;obtain⟨hq,h⟩:=zAy h;refine And.intro hq ?_;obtain⟨hq,h⟩:=zAy h;refine And.intro hq ?_;refine zAg ?_;obtain⟨hj1,hk1⟩:=pij h;subst hj1;obtain⟨hj2,hk2⟩:=Prod.mk.inj hk1;subst hj2;subst hk2;exact fin0 rfl rfl
 ·refine zAe ?_;refine zSV ?_;refine zAg ?_;obtain⟨hj1,hk1⟩:=pij h;subst hj1;obtain⟨hj2,hk2⟩:=Prod.mk.inj hk1;subst hj2;subst hk2;exact fin0 rfl rfl
def zLO (xs:List AV) (r:Ret):Prop:=∃ (a0:List UInt8) (a1:List UInt8) (y0:List UInt8) (y1:List UInt8) (y2:Bool),zDe a0 a1=some (y0,y1,y2)/\xs=[.s (.str a0),.s (.str a1)]/\r = .val (.tup [.s (.str y0),.s (.str y1),.s (.bool y2)])
def zHI:zAp:=zAr fun xs r=>zLO xs r
theorem zKM:PSound Try.prog 70 zHI:=by
 have gok:∀ f s,look? f [(84,zFi)]=some s->PSound Try.prog f s:=zAm (by
  simp only[List.forall_mem_cons]
  exact⟨zHU,by simp⟩)
 refine zAw tokW Try.call70 Try.func70 rfl (fun xs r h=>by obtain⟨_,_,_,_,_,_,rfl,_⟩:=h; show 2<=13; decide) 13 rfl ?_;rintro xs r w0 G0 ⟨s1,sep2,y0,y1,y2,h,rfl,rfl⟩ _;rw[zDe]at h;refine zSV ?_;refine zSV ?_;obtain⟨⟨y3,y4,y5⟩,hy3,h⟩:=zAc h;refine⟨_,⟨_,_,_,_,_,hy3,rfl,rfl⟩,?_⟩
 refine zAg ?_;obtain⟨hj1,hk1⟩:=pij h;subst hj1;obtain⟨hj2,hk2⟩:=Prod.mk.inj hk1;subst hj2;subst hk2;exact fin0 rfl rfl
def zLM (n:Nat) (xs:List AV) (r:Ret):Prop:=∃ (a0:List UInt8) (y0:Bool),zCw n a0=some y0/\xs=[.s (.str a0)]/\r = .val (.s (.bool y0))
def zHH:zAp:=zAr fun xs r=>∃ n,zLM n xs r
theorem zKL:PSound Try.prog 71 zHH:=by
 have gok:=@gok0 Try.prog;refine zAw tokW Try.call71 Try.func71 rfl (fun xs r h=>by obtain⟨n,_,_,_,rfl,_⟩:=h; show 1<=22; decide) 22 rfl ?_;rintro xs r w0 G0 ⟨n,s1,y0,h,rfl,rfl⟩ _;rw[zCw]at h;refine zSV ?_;refine zAa ?_;refine zSV ?_;show Tri ..;obtain⟨fl,hl,ho1⟩:=zAc h;refine zDf (fl:=fl) (fun z=>match z with | _=>⟨ofL [(0,.s (.str s1))],fun _=>none,0⟩) ?_ (fun z σ' hz hle=>?_)
 ·refine zAi (zAz (X:=Nat×Int) (fun y=>match y with | (k,i2)=>⟨ofL [(0,.s (.str s1)),(3,.s (.int .i64 i2))],fun _=>none,0⟩) (fun y=>zA2 s1 y.1 y.2=some fl) (fun y=>y.1) (n,0) hl ?_ ?_)
  ·exact(Le.forget _ ⟨rfl,rfl,trivial⟩)
  ·rintro⟨k,i2⟩ h;cases k with
   | zero=>cases h
   | succ k =>
    replace h:zA2 s1 (k+1) i2=some fl:=h;rw[zA2]at h;refine zAa ?_;refine zSV ?_;refine zAj rfl h (fun hb h=>?_) (fun hb h=>?_)
    ·refine zAe ?_;refine zAa ?_;refine zAi ?_;refine zAa ?_;obtain⟨x3,hj,h⟩:=zAc h;refine zAo ⟨ofL [(0,.s (.str s1)),(3,.s (.int .i64 i2)),(19,.s (.bool x3))],fun _=>none,0⟩ ?_ (fun σ' hle=>?_)
     ·replace h:=hj;refine zAb [] [12,14,17] rfl ?_;obtain⟨c4,hc4,h⟩:=zAc h;refine And.intro (zA3 hc4).1 ?_;intro v5 hv5;obtain rfl:(c4.toNat:Int)=v5:=(hv5.trans (zA3 hc4).2).symm;intro b hb;cases b with
      | true =>
       replace h:=zAu hb.symm h;cases h;exact(Le.forget _ ⟨rfl,rfl,rfl,trivial⟩)
      | false =>
       replace h:=zAt hb.symm h;obtain⟨c6,hc6,h⟩:=zAc h;refine And.intro (zA3 hc6).1 ?_;intro v7 hv7;obtain rfl:(c6.toNat:Int)=v7:=(hv7.trans (zA3 hc6).2).symm;cases h;exact(Le.forget _ ⟨rfl,rfl,rfl,trivial⟩)
     ·refine zAk hle ?_;refine zAj rfl h (fun hb h=>?_) (fun hb h=>?_)
      ·refine zSV ?_;refine zAg ?_;cases h;replace h:some _=some _:=ho1;have hy:=osi h;subst hy;exact fin0 rfl rfl
      ·refine zAe ?_;refine zSU ?_;refine⟨(k,IntKind.i64.wrap (i2+1)),h,(Le.forget _ ⟨rfl,rfl,trivial⟩),Nat.lt_succ_self k⟩
    ·refine zAx ?_;cases h;exact⟨_,rfl,(Le.forget _ ⟨rfl,trivial⟩)⟩
 ·subst hz;obtain _:=z;replace h:=ho1;refine zAk hle ?_;refine zSV ?_;refine zAg ?_;have hy:=osi h;subst hy;exact fin0 rfl rfl
def zLJ (n:Nat) (xs:List AV) (r:Ret):Prop:=∃ (a0:List UInt8) (y0:Bool),zCr n a0=some y0/\xs=[.s (.str a0)]/\r = .val (.s (.bool y0))
def zHF:zAp:=zAr fun xs r=>∃ n,zLJ n xs r
theorem zKJ:PSound Try.prog 51 zHF:=by
 have gok:∀ f s,look? f [(70,zHI),(71,zHH)]=some s->PSound Try.prog f s:=zAm (by
  simp only[List.forall_mem_cons]
  exact⟨zKM,zKL,by simp⟩)
 refine zAw tokW Try.call51 Try.func51 rfl (fun xs r h=>by obtain⟨n,_,_,_,rfl,_⟩:=h; show 1<=27; decide) 27 rfl ?_;rintro xs r w0 G0 ⟨n,s1,y0,h,rfl,rfl⟩ _;rw[zCr]at h;refine zSV ?_;refine zSV ?_;obtain⟨⟨y2,y3,y4⟩,hy2,h⟩:=zAc h;refine⟨_,⟨_,_,_,_,_,hy2,rfl,rfl⟩,?_⟩
 refine zAa ?_;obtain⟨x5,hj,h⟩:=zAc h;refine zAo ⟨ofL [(2,.s (.bool x5))],fun _=>none,0⟩ ?_ (fun σ' hle=>?_)
 ·replace h:=hj;refine zAb [] [15,19,22] rfl ?_;intro b hb;cases b with
  | true =>
   replace h:=zAu hb.symm h;obtain⟨y6,hy6,h⟩:=zAc h;refine⟨_,⟨_,_,_,hy6,rfl,rfl⟩,?_⟩
   intro b hb;cases b with
   | true =>
    replace h:=zAu hb.symm h;intro b hb;cases b with
    | true =>
     replace h:=zAu hb.symm h;cases h;exact(Le.forget _ ⟨rfl,trivial⟩)
    | false =>
     replace h:=zAt hb.symm h;obtain⟨y7,hy7,h⟩:=zAc h;refine⟨_,⟨_,_,_,hy7,rfl,rfl⟩,?_⟩
     cases h;exact(Le.forget _ ⟨rfl,trivial⟩)
   | false =>
    replace h:=zAt hb.symm h;cases h;exact(Le.forget _ ⟨rfl,trivial⟩)
  | false =>
   replace h:=zAt hb.symm h;intro b hb;subst hb;cases h;exact(Le.forget _ ⟨rfl,trivial⟩)
 ·refine zAk hle ?_;refine zAg ?_;have hy:=osi h;subst hy;exact fin0 rfl rfl
def zMS (n:Nat) (xs:List AV) (r:Ret):Prop:=∃ (a0:List UInt8) (y0:Bool),zDM n a0=some y0/\xs=[.s (.str a0)]/\r = .val (.s (.bool y0))
def zIG:zAp:=zAr fun xs r=>∃ n,zMS n xs r
theorem zMi:PSound Try.prog 52 zIG:=by
 have gok:=@gok0 Try.prog;refine zAw tokW Try.call52 Try.func52 rfl (fun xs r h=>by obtain⟨n,_,_,_,rfl,_⟩:=h; show 1<=23; decide) 23 rfl ?_;rintro xs r w0 G0 ⟨n,s1,y0,h,rfl,rfl⟩ _;rw[zDM]at h;refine zSV ?_;refine zAa ?_;refine zSV ?_;show Tri ..;obtain⟨fl,hl,ho1⟩:=zAc h;refine zDf (fl:=fl) (fun z=>match z with | _=>⟨ofL [(0,.s (.str s1))],fun _=>none,0⟩) ?_ (fun z σ' hz hle=>?_)
 ·refine zAi (zAz (X:=Nat×Int) (fun y=>match y with | (k,i2)=>⟨ofL [(0,.s (.str s1)),(3,.s (.int .i64 i2))],fun _=>none,0⟩) (fun y=>zA8 s1 y.1 y.2=some fl) (fun y=>y.1) (n,0) hl ?_ ?_)
  ·exact(Le.forget _ ⟨rfl,rfl,trivial⟩)
  ·rintro⟨k,i2⟩ h;cases k with
   | zero=>cases h
   | succ k =>
    replace h:zA8 s1 (k+1) i2=some fl:=h;rw[zA8]at h;refine zAa ?_;refine zSV ?_;refine zAj rfl h (fun hb h=>?_) (fun hb h=>?_)
    ·refine zAe ?_;refine zAa ?_;refine zAi ?_;refine zAa ?_;obtain⟨x3,hj,h⟩:=zAc h;refine zAo ⟨ofL [(0,.s (.str s1)),(3,.s (.int .i64 i2)),(19,.s (.bool x3))],fun _=>none,0⟩ ?_ (fun σ' hle=>?_)
     ·replace h:=hj;refine zAb [] [12,14,17] rfl ?_;obtain⟨c4,hc4,h⟩:=zAc h;refine And.intro (zA3 hc4).1 ?_;intro v5 hv5;obtain rfl:(c4.toNat:Int)=v5:=(hv5.trans (zA3 hc4).2).symm;intro b hb;cases b with
      | true =>
       replace h:=zAu hb.symm h;cases h;exact(Le.forget _ ⟨rfl,rfl,rfl,trivial⟩)
      | false =>
       replace h:=zAt hb.symm h;obtain⟨c6,hc6,h⟩:=zAc h;refine And.intro (zA3 hc6).1 ?_;intro v7 hv7;obtain rfl:(c6.toNat:Int)=v7:=(hv7.trans (zA3 hc6).2).symm;cases h;exact(Le.forget _ ⟨rfl,rfl,rfl,trivial⟩)
     ·refine zAk hle ?_;refine zAj rfl h (fun hb h=>?_) (fun hb h=>?_)
      ·refine zSV ?_;refine zAg ?_;cases h;replace h:some _=some _:=ho1;have hy:=osi h;subst hy;exact fin0 rfl rfl
      ·refine zAe ?_;refine zSU ?_;refine⟨(k,IntKind.i64.wrap (i2+1)),h,(Le.forget _ ⟨rfl,rfl,trivial⟩),Nat.lt_succ_self k⟩
    ·refine zAx ?_;cases h;exact⟨_,rfl,(Le.forget _ ⟨rfl,trivial⟩)⟩
 ·subst hz;obtain _:=z;replace h:=ho1;refine zAk hle ?_;refine zSV ?_;refine zAg ?_;have hy:=osi h;subst hy;exact fin0 rfl rfl
def zMQ (xs:List AV) (r:Ret):Prop:=∃ (a0:List UInt8) (y0:Bool),zDL a0=some y0/\xs=[.s (.str a0)]/\r = .val (.s (.bool y0))
def zIE:zAp:=zAr fun xs r=>zMQ xs r
theorem zMg:PSound Try.prog 54 zIE:=by
 have gok:∀ f s,look? f [(72,zEs)]=some s->PSound Try.prog f s:=zAm (by
  simp only[List.forall_mem_cons]
  exact⟨zGJ,by simp⟩)
 refine zAw tokW Try.call54 Try.func54 rfl (fun xs r h=>by obtain⟨_,_,_,rfl,_⟩:=h; show 1<=18; decide) 18 rfl ?_;rintro xs r w0 G0 ⟨s1,y0,h,rfl,rfl⟩ _;rw[zDL]at h;refine zSV ?_;refine zAa ?_;obtain⟨x2,hj,h⟩:=zAc h;refine zAo ⟨ofL [(2,.s (.bool x2))],fun _=>none,0⟩ ?_ (fun σ' hle=>?_)
 ·replace h:=hj;refine zAb [] [6,8,12,14] rfl ?_;intro b hb;cases b with
  | true =>
   replace h:=zAu hb.symm h;obtain⟨c3,hc3,h⟩:=zAc h;refine And.intro (zA3 hc3).1 ?_;intro v4 hv4;obtain rfl:(c3.toNat:Int)=v4:=(hv4.trans (zA3 hc3).2).symm;obtain⟨y5,hy5,h⟩:=zAc h;refine⟨_,⟨_,_,_,hy5,rfl,rfl⟩,?_⟩
   intro b hb;cases b with
   | true =>
    replace h:=zAu hb.symm h;obtain⟨c6,hc6,h⟩:=zAc h;refine And.intro (zA3 hc6).1 ?_;intro v7 hv7;obtain rfl:(c6.toNat:Int)=v7:=(hv7.trans (zA3 hc6).2).symm;obtain⟨y8,hy8,h⟩:=zAc h;refine⟨_,⟨_,_,_,hy8,rfl,rfl⟩,?_⟩
    cases h;exact(Le.forget _ ⟨rfl,trivial⟩)
   | false =>
    replace h:=zAt hb.symm h;cases h;exact(Le.forget _ ⟨rfl,trivial⟩)
  | false =>
   replace h:=zAt hb.symm h;intro b hb;subst hb;cases h;exact(Le.forget _ ⟨rfl,trivial⟩)
 ·refine zAk hle ?_;refine zAg ?_;have hy:=osi h;subst hy;exact fin0 rfl rfl
def zBA (p:Unit):List S:=[.str [],.int .i64 0,.nf,.str [114,111,119],.int .i64 0,.fn 49,.str [115,121,109],.int .i64 0,.fn 50,.str [110,117,109],.int .i64 0,.fn 51,.str [116,101,120,116],.int .i64 0,.fn 52,.str [102,114,97,99],.int .i64 2,.fn 49,.str [114,111,111,116],.int .i64 2,.fn 49,.str [115,117,98],.int .i64 2,.fn 49,.str [115,117,112],.int .i64 2,.fn 49,.str [98,111,116,104],.int .i64 3,.fn 49,.str [97,99,99,101,110,116],.int .i64 1,.fn 53,.str [102,101,110,99,101],.int .i64 1,.fn 54,.str [109,97,116,114,105,120],.int .i64 0,.fn 49]
def zMR (xs:List AV) (r:Ret):Prop:=∃ (y0:Unit),zEZ=some y0/\xs=[]/\r = .val (.agg ((zBA y0).map .s))
def zIF:zAp:=zAr fun xs r=>zMR xs r
theorem zMh:PSound Try.prog 36 zIF:=by
 have gok:=@gok0 Try.prog;refine zAw tokW Try.call36 Try.func36 rfl (fun xs r h=>by obtain⟨_,_,rfl,_⟩:=h; show 0<=14; decide) 14 rfl ?_;rintro xs r w0 G0 ⟨y0,h,rfl,rfl⟩ _;rw[zEZ]at h;refine zSg [0] [] rfl ?_;refine zSV ?_;refine zAg ?_;have hy:=osi h;subst hy;exact fin0 rfl rfl
def zAQ (p:(Unit×Int)):List S:=[.str [],.int .i64 0,.nf,.str [114,111,119],.int .i64 0,.fn 49,.str [115,121,109],.int .i64 0,.fn 50,.str [110,117,109],.int .i64 0,.fn 51,.str [116,101,120,116],.int .i64 0,.fn 52,.str [102,114,97,99],.int .i64 2,.fn 49,.str [114,111,111,116],.int .i64 2,.fn 49,.str [115,117,98],.int .i64 2,.fn 49,.str [115,117,112],.int .i64 2,.fn 49,.str [98,111,116,104],.int .i64 3,.fn 49,.str [97,99,99,101,110,116],.int .i64 1,.fn 53,.str [102,101,110,99,101],.int .i64 1,.fn 54,.str [109,97,116,114,105,120],.int .i64 0,.fn 49,.int .i64 p.2]
def zHB (n:Nat) (xs:List AV) (os:List Ob) (x:AV) (os':List (Option Ob)):Prop:=∃ (a0:(Unit×Int)) (a1:Nd) (y0:Bool) (z0:(Unit×Int)),zBE n a0 a1=some (y0,z0)/\xs=[.op 0 0,.s (.pt (Nd.enc a1))]/\os=[.box 75 ((zAQ a0).map .s)]/\x = .s (.bool y0)/\os'=[some (.box 75 ((zAQ z0).map .s))]
def zEU:zAp:=zA5 (fun xs os x os'=>∃ n,zHB n xs os x os')
theorem zHo:PSound Try.prog 55 zEU:=by
 have gok:∀ f s,look? f [(49,zID),(50,zHG),(51,zHF),(52,zIG),(53,zFx),(54,zIE)]=some s->PSound Try.prog f s:=zAm (by
  simp only[List.forall_mem_cons]
  exact⟨zMf,zKK,zKJ,zMi,zG1,zMg,by simp⟩)
 refine PSound.withNil (zBm tokW Try.call55 Try.func55 rfl (fun xs os x os' h=>by obtain⟨n,_,_,_,_,_,rfl,rfl,_,rfl⟩:=h; exact⟨by show 2<=120; decide,by show 1<=1; decide⟩) 120 rfl ?_) _;rintro xs os x os' w0 G0 B0 ⟨n,⟨_,o1G⟩,⟨a2A,a2C,a2D,a2B⟩,y0,z0,h,rfl,rfl,rfl,rfl⟩ _;rw[zBE]at h;refine zSV ?_;refine zAa ?_;refine zAa ?_;obtain⟨x3,hj,h⟩:=zAc h
 refine zAo ⟨ofL [(0,.op 0 0),(1,.s (.pt [.int .i64 a2A,.str a2C,.int .i64 a2D,.sl 4 (Nd.encs a2B)])),(34,.s (.bool x3))],ofH [(0,.box 75 [.s (.str []),.s (.int .i64 0),.s (.nf),.s (.str [114,111,119]),.s (.int .i64 0),.s (.fn 49),.s (.str [115,121,109]),.s (.int .i64 0),.s (.fn 50),.s (.str [110,117,109]),.s (.int .i64 0),.s (.fn 51),.s (.str [116,101,120,116]),.s (.int .i64 0),.s (.fn 52),.s (.str [102,114,97,99]),.s (.int .i64 2),.s (.fn 49),.s (.str [114,111,111,116]),.s (.int .i64 2),.s (.fn 49),.s (.str [115,117,98]),.s (.int .i64 2),.s (.fn 49),.s (.str [115,117,112]),.s (.int .i64 2),.s (.fn 49),.s (.str [98,111,116,104]),.s (.int .i64 3),.s (.fn 49),.s (.str [97,99,99,101,110,116]),.s (.int .i64 1),.s (.fn 53),.s (.str [102,101,110,99,101]),.s (.int .i64 1),.s (.fn 54),.s (.str [109,97,116,114,105,120]),.s (.int .i64 0),.s (.fn 49),.s (.int .i64 o1G)])],1⟩ ?_ (fun σ' hle=>?_)
 ·replace h:=hj;refine zBx [] [10,17,22] [22] rfl (by decide +kernel) ?_;intro b hb;cases b with
  | true =>
   replace h:=zAu hb.symm h;intro b hb;subst hb;cases h;exact(Le.rnm [(0,0)] _ _ _ ⟨rfl,rfl,rfl,trivial⟩ ⟨rfl,⟨_,rfl,rfl⟩,trivial⟩)
  | false =>
   replace h:=zAt hb.symm h;intro b hb;cases b with
   | true =>
    replace h:=zAu hb.symm h;cases h;exact(Le.rnm [(0,0)] _ _ _ ⟨rfl,rfl,rfl,trivial⟩ ⟨rfl,⟨_,rfl,rfl⟩,trivial⟩)
   | false =>
    replace h:=zAt hb.symm h;intro vsp hvsp;cases hc:(a2A == 1) with
    | true =>
     replace h:=zAu hc h;obtain rfl:(1:Int)=vsp:=(hvsp.trans (eq_of_beq hc)).symm;refine And.intro (by decide) ?_;obtain⟨y4,hy4,h⟩:=zAc h;refine⟨_,⟨_,_,hy4,rfl,rfl⟩,?_⟩
     cases h;exact(Le.rnm [(0,0)] _ _ _ ⟨rfl,rfl,rfl,trivial⟩ ⟨rfl,⟨_,rfl,rfl⟩,trivial⟩)
    | false =>
     replace h:=zAt hc h;cases hc:(a2A == 2) with
     | true =>
      replace h:=zAu hc h;obtain rfl:(2:Int)=vsp:=(hvsp.trans (eq_of_beq hc)).symm;refine And.intro (by decide) ?_;obtain⟨y5,hy5,h⟩:=zAc h;refine⟨_,⟨_,_,_,hy5,rfl,rfl⟩,?_⟩
      cases h;exact(Le.rnm [(0,0)] _ _ _ ⟨rfl,rfl,rfl,trivial⟩ ⟨rfl,⟨_,rfl,rfl⟩,trivial⟩)
     | false =>
      replace h:=zAt hc h;cases hc:(a2A == 3) with
      | true =>
       replace h:=zAu hc h;obtain rfl:(3:Int)=vsp:=(hvsp.trans (eq_of_beq hc)).symm;refine And.intro (by decide) ?_;obtain⟨y6,hy6,h⟩:=zAc h;refine⟨_,⟨_,_,_,hy6,rfl,rfl⟩,?_⟩
       cases h;exact(Le.rnm [(0,0)] _ _ _ ⟨rfl,rfl,rfl,trivial⟩ ⟨rfl,⟨_,rfl,rfl⟩,trivial⟩)
      | false =>
       replace h:=zAt hc h;cases hc:(a2A == 4) with
       | true =>
        replace h:=zAu hc h;obtain rfl:(4:Int)=vsp:=(hvsp.trans (eq_of_beq hc)).symm;refine And.intro (by decide) ?_;obtain⟨y7,hy7,h⟩:=zAc h;refine⟨_,⟨_,_,_,hy7,rfl,rfl⟩,?_⟩
        cases h;exact(Le.rnm [(0,0)] _ _ _ ⟨rfl,rfl,rfl,trivial⟩ ⟨rfl,⟨_,rfl,rfl⟩,trivial⟩)
       | false =>
        replace h:=zAt hc h;cases hc:(a2A == 5) with
        | true =>
         replace h:=zAu hc h;obtain rfl:(5:Int)=vsp:=(hvsp.trans (eq_of_beq hc)).symm;refine And.intro (by decide) ?_;obtain⟨y8,hy8,h⟩:=zAc h;refine⟨_,⟨_,_,hy8,rfl,rfl⟩,?_⟩
         cases h;exact(Le.rnm [(0,0)] _ _ _ ⟨rfl,rfl,rfl,trivial⟩ ⟨rfl,⟨_,rfl,rfl⟩,trivial⟩)
        | false =>
         replace h:=zAt hc h;cases hc:(a2A == 6) with
         | true =>
          replace h:=zAu hc h;obtain rfl:(6:Int)=vsp:=(hvsp.trans (eq_of_beq hc)).symm;refine And.intro (by decide) ?_;obtain⟨y9,hy9,h⟩:=zAc h;refine⟨_,⟨_,_,hy9,rfl,rfl⟩,?_⟩
          cases h;exact(Le.rnm [(0,0)] _ _ _ ⟨rfl,rfl,rfl,trivial⟩ ⟨rfl,⟨_,rfl,rfl⟩,trivial⟩)
         | false =>
          replace h:=zAt hc h;cases hc:(a2A == 7) with
          | true =>
           replace h:=zAu hc h;obtain rfl:(7:Int)=vsp:=(hvsp.trans (eq_of_beq hc)).symm;refine And.intro (by decide) ?_;obtain⟨y10,hy10,h⟩:=zAc h;refine⟨_,⟨_,_,hy10,rfl,rfl⟩,?_⟩
           cases h;exact(Le.rnm [(0,0)] _ _ _ ⟨rfl,rfl,rfl,trivial⟩ ⟨rfl,⟨_,rfl,rfl⟩,trivial⟩)
          | false =>
           replace h:=zAt hc h;cases hc:(a2A == 8) with
           | true =>
            replace h:=zAu hc h;obtain rfl:(8:Int)=vsp:=(hvsp.trans (eq_of_beq hc)).symm;refine And.intro (by decide) ?_;obtain⟨y11,hy11,h⟩:=zAc h;refine⟨_,⟨_,_,hy11,rfl,rfl⟩,?_⟩
            cases h;exact(Le.rnm [(0,0)] _ _ _ ⟨rfl,rfl,rfl,trivial⟩ ⟨rfl,⟨_,rfl,rfl⟩,trivial⟩)
           | false =>
            replace h:=zAt hc h;cases hc:(a2A == 9) with
            | true =>
             replace h:=zAu hc h;obtain rfl:(9:Int)=vsp:=(hvsp.trans (eq_of_beq hc)).symm;refine And.intro (by decide) ?_;obtain⟨y12,hy12,h⟩:=zAc h;refine⟨_,⟨_,_,hy12,rfl,rfl⟩,?_⟩
             cases h;exact(Le.rnm [(0,0)] _ _ _ ⟨rfl,rfl,rfl,trivial⟩ ⟨rfl,⟨_,rfl,rfl⟩,trivial⟩)
            | false =>
             replace h:=zAt hc h;cases hc:(a2A == 10) with
             | true =>
              replace h:=zAu hc h;obtain rfl:(10:Int)=vsp:=(hvsp.trans (eq_of_beq hc)).symm;refine And.intro (by decide) ?_;obtain⟨y13,hy13,h⟩:=zAc h;refine⟨_,⟨_,_,hy13,rfl,rfl⟩,?_⟩
              cases h;exact(Le.rnm [(0,0)] _ _ _ ⟨rfl,rfl,rfl,trivial⟩ ⟨rfl,⟨_,rfl,rfl⟩,trivial⟩)
             | false =>
              replace h:=zAt hc h;cases hc:(a2A == 11) with
              | true =>
               replace h:=zAu hc h;obtain rfl:(11:Int)=vsp:=(hvsp.trans (eq_of_beq hc)).symm;refine And.intro (by decide) ?_;obtain⟨y14,hy14,h⟩:=zAc h;refine⟨_,⟨_,_,hy14,rfl,rfl⟩,?_⟩
               cases h;exact(Le.rnm [(0,0)] _ _ _ ⟨rfl,rfl,rfl,trivial⟩ ⟨rfl,⟨_,rfl,rfl⟩,trivial⟩)
              | false =>
               replace h:=zAt hc h;cases hc:(a2A == 12) with
               | true =>
                replace h:=zAu hc h;obtain rfl:(12:Int)=vsp:=(hvsp.trans (eq_of_beq hc)).symm;refine And.intro (by decide) ?_;obtain⟨y15,hy15,h⟩:=zAc h;refine⟨_,⟨_,_,hy15,rfl,rfl⟩,?_⟩
                cases h;exact(Le.rnm [(0,0)] _ _ _ ⟨rfl,rfl,rfl,trivial⟩ ⟨rfl,⟨_,rfl,rfl⟩,trivial⟩)
               | false =>
                replace h:=zAt hc h;cases h
 ·refine zAk hle ?_;refine zAj rfl h (fun hb h=>?_) (fun hb h=>?_)
  ·refine zSV ?_;refine zAg ?_;obtain⟨hj1,hk1⟩:=pij h;subst hj1 hk1;unfold zAM
   exact⟨_,(Le.rnm [(0,0)] [(4,.s (.bool false))] [(0,.box 75 [.s (.str []),.s (.int .i64 0),.s (.nf),.s (.str [114,111,119]),.s (.int .i64 0),.s (.fn 49),.s (.str [115,121,109]),.s (.int .i64 0),.s (.fn 50),.s (.str [110,117,109]),.s (.int .i64 0),.s (.fn 51),.s (.str [116,101,120,116]),.s (.int .i64 0),.s (.fn 52),.s (.str [102,114,97,99]),.s (.int .i64 2),.s (.fn 49),.s (.str [114,111,111,116]),.s (.int .i64 2),.s (.fn 49),.s (.str [115,117,98]),.s (.int .i64 2),.s (.fn 49),.s (.str [115,117,112]),.s (.int .i64 2),.s (.fn 49),.s (.str [98,111,116,104]),.s (.int .i64 3),.s (.fn 49),.s (.str [97,99,99,101,110,116]),.s (.int .i64 1),.s (.fn 53),.s (.str [102,101,110,99,101]),.s (.int .i64 1),.s (.fn 54),.s (.str [109,97,116,114,105,120]),.s (.int .i64 0),.s (.fn 49),.s (.int .i64 o1G)])] 1 ⟨rfl,trivial⟩ ⟨rfl,⟨_,rfl,rfl⟩,trivial⟩),rfl,rfl,rfl,rfl,trivial⟩
  ·refine zAe ?_;refine zAa ?_;refine zSV ?_;refine zAi ?_;refine zSV ?_;refine zAj rfl h (fun hb h=>?_) (fun hb h=>?_)
   ·refine zAa ?_;obtain⟨x16,hj,h⟩:=zAc h
    refine zAo ⟨ofL [(4,.s (.bool x16))],ofH [(0,.box 75 [.s (.str []),.s (.int .i64 0),.s (.nf),.s (.str [114,111,119]),.s (.int .i64 0),.s (.fn 49),.s (.str [115,121,109]),.s (.int .i64 0),.s (.fn 50),.s (.str [110,117,109]),.s (.int .i64 0),.s (.fn 51),.s (.str [116,101,120,116]),.s (.int .i64 0),.s (.fn 52),.s (.str [102,114,97,99]),.s (.int .i64 2),.s (.fn 49),.s (.str [114,111,111,116]),.s (.int .i64 2),.s (.fn 49),.s (.str [115,117,98]),.s (.int .i64 2),.s (.fn 49),.s (.str [115,117,112]),.s (.int .i64 2),.s (.fn 49),.s (.str [98,111,116,104]),.s (.int .i64 3),.s (.fn 49),.s (.str [97,99,99,101,110,116]),.s (.int .i64 1),.s (.fn 53),.s (.str [102,101,110,99,101]),.s (.int .i64 1),.s (.fn 54),.s (.str [109,97,116,114,105,120]),.s (.int .i64 0),.s (.fn 49),.s (.int .i64 o1G)])],1⟩ ?_ (fun σ' hle=>?_)
    ·replace h:=hj;refine zAb [] [46,51] rfl ?_;intro b hb;cases b with
     | true =>
      replace h:=zAu hb.symm h;intro n17 hn17;obtain rfl:(a2B.length:Int)=n17:=(hn17.trans (congrArg (fun m:Nat=>(m:Int)) (rlen Nd.encs_eq a2B))).symm;cases h;exact(Le.rnm [(0,0)] _ _ _ ⟨rfl,trivial⟩ ⟨rfl,⟨_,rfl,rfl⟩,trivial⟩)
     | false =>
      replace h:=zAt hb.symm h;cases h;exact(Le.rnm [(0,0)] _ _ _ ⟨rfl,trivial⟩ ⟨rfl,⟨_,rfl,rfl⟩,trivial⟩)
    ·refine zAk hle ?_;refine zAg ?_;obtain⟨hj1,hk1⟩:=pij h;subst hj1 hk1;unfold zAM
     exact⟨_,(Le.rnm [(0,0)] [(4,.s (.bool x16))] [(0,.box 75 [.s (.str []),.s (.int .i64 0),.s (.nf),.s (.str [114,111,119]),.s (.int .i64 0),.s (.fn 49),.s (.str [115,121,109]),.s (.int .i64 0),.s (.fn 50),.s (.str [110,117,109]),.s (.int .i64 0),.s (.fn 51),.s (.str [116,101,120,116]),.s (.int .i64 0),.s (.fn 52),.s (.str [102,114,97,99]),.s (.int .i64 2),.s (.fn 49),.s (.str [114,111,111,116]),.s (.int .i64 2),.s (.fn 49),.s (.str [115,117,98]),.s (.int .i64 2),.s (.fn 49),.s (.str [115,117,112]),.s (.int .i64 2),.s (.fn 49),.s (.str [98,111,116,104]),.s (.int .i64 3),.s (.fn 49),.s (.str [97,99,99,101,110,116]),.s (.int .i64 1),.s (.fn 53),.s (.str [102,101,110,99,101]),.s (.int .i64 1),.s (.fn 54),.s (.str [109,97,116,114,105,120]),.s (.int .i64 0),.s (.fn 49),.s (.int .i64 o1G)])] 1 ⟨rfl,trivial⟩ ⟨rfl,⟨_,rfl,rfl⟩,trivial⟩),rfl,rfl,rfl,rfl,trivial⟩
   ·refine zSV ?_;refine zAj rfl h (fun hb h=>?_) (fun hb h=>?_)
    ·refine zAa ?_;obtain⟨x18,hj,h⟩:=zAc h
     refine zAo ⟨ofL [(4,.s (.bool x18))],ofH [(0,.box 75 [.s (.str []),.s (.int .i64 0),.s (.nf),.s (.str [114,111,119]),.s (.int .i64 0),.s (.fn 49),.s (.str [115,121,109]),.s (.int .i64 0),.s (.fn 50),.s (.str [110,117,109]),.s (.int .i64 0),.s (.fn 51),.s (.str [116,101,120,116]),.s (.int .i64 0),.s (.fn 52),.s (.str [102,114,97,99]),.s (.int .i64 2),.s (.fn 49),.s (.str [114,111,111,116]),.s (.int .i64 2),.s (.fn 49),.s (.str [115,117,98]),.s (.int .i64 2),.s (.fn 49),.s (.str [115,117,112]),.s (.int .i64 2),.s (.fn 49),.s (.str [98,111,116,104]),.s (.int .i64 3),.s (.fn 49),.s (.str [97,99,99,101,110,116]),.s (.int .i64 1),.s (.fn 53),.s (.str [102,101,110,99,101]),.s (.int .i64 1),.s (.fn 54),.s (.str [109,97,116,114,105,120]),.s (.int .i64 0),.s (.fn 49),.s (.int .i64 o1G)])],1⟩ ?_ (fun σ' hle=>?_)
     ·replace h:=hj;refine zBx [] [61,68,73,76,81,84,89] [] rfl (by decide +kernel) ?_;intro b hb;cases b with
      | true =>
       replace h:=zAu hb.symm h;intro b hb;cases b with
       | true =>
        replace h:=zAu hb.symm h;intro n19 hn19;obtain rfl:(a2B.length:Int)=n19:=(hn19.trans (congrArg (fun m:Nat=>(m:Int)) (rlen Nd.encs_eq a2B))).symm;intro b hb;cases b with
        | true =>
         replace h:=zAu hb.symm h;intro n20 hn20;obtain rfl:(a2B.length:Int)=n20:=(hn20.trans (congrArg (fun m:Nat=>(m:Int)) (rlen Nd.encs_eq a2B))).symm;intro b hb;cases b with
         | true =>
          replace h:=zAu hb.symm h;intro n21 hn21;obtain rfl:(a2B.length:Int)=n21:=(hn21.trans (congrArg (fun m:Nat=>(m:Int)) (rlen Nd.encs_eq a2B))).symm;obtain⟨hq,h⟩:=zAy h;refine And.intro hq ?_;cases h;exact(Le.rnm [(0,0)] _ _ _ ⟨rfl,trivial⟩ ⟨rfl,⟨_,rfl,rfl⟩,trivial⟩)
         | false =>
          replace h:=zAt hb.symm h;cases h;exact(Le.rnm [(0,0)] _ _ _ ⟨rfl,trivial⟩ ⟨rfl,⟨_,rfl,rfl⟩,trivial⟩)
        | false =>
         replace h:=zAt hb.symm h;intro b hb;subst hb;cases h;exact(Le.rnm [(0,0)] _ _ _ ⟨rfl,trivial⟩ ⟨rfl,⟨_,rfl,rfl⟩,trivial⟩)
       | false =>
        replace h:=zAt hb.symm h;intro b hb;subst hb;intro b hb;subst hb;cases h;exact(Le.rnm [(0,0)] _ _ _ ⟨rfl,trivial⟩ ⟨rfl,⟨_,rfl,rfl⟩,trivial⟩)
      | false =>
       replace h:=zAt hb.symm h;intro b hb;subst hb;intro b hb;subst hb;intro b hb;subst hb;cases h;exact(Le.rnm [(0,0)] _ _ _ ⟨rfl,trivial⟩ ⟨rfl,⟨_,rfl,rfl⟩,trivial⟩)
     ·refine zAk hle ?_;refine zAg ?_;obtain⟨hj1,hk1⟩:=pij h;subst hj1 hk1;unfold zAM
      exact⟨_,(Le.rnm [(0,0)] [(4,.s (.bool x18))] [(0,.box 75 [.s (.str []),.s (.int .i64 0),.s (.nf),.s (.str [114,111,119]),.s (.int .i64 0),.s (.fn 49),.s (.str [115,121,109]),.s (.int .i64 0),.s (.fn 50),.s (.str [110,117,109]),.s (.int .i64 0),.s (.fn 51),.s (.str [116,101,120,116]),.s (.int .i64 0),.s (.fn 52),.s (.str [102,114,97,99]),.s (.int .i64 2),.s (.fn 49),.s (.str [114,111,111,116]),.s (.int .i64 2),.s (.fn 49),.s (.str [115,117,98]),.s (.int .i64 2),.s (.fn 49),.s (.str [115,117,112]),.s (.int .i64 2),.s (.fn 49),.s (.str [98,111,116,104]),.s (.int .i64 3),.s (.fn 49),.s (.str [97,99,99,101,110,116]),.s (.int .i64 1),.s (.fn 53),.s (.str [102,101,110,99,101]),.s (.int .i64 1),.s (.fn 54),.s (.str [109,97,116,114,105,120]),.s (.int .i64 0),.s (.fn 49),.s (.int .i64 o1G)])] 1 ⟨rfl,trivial⟩ ⟨rfl,⟨_,rfl,rfl⟩,trivial⟩),rfl,rfl,rfl,rfl,trivial⟩
    ·refine zAe ?_;refine zAa ?_;obtain⟨x22,hj,h⟩:=zAc h
     refine zAo ⟨ofL [(4,.s (.bool x22))],ofH [(0,.box 75 [.s (.str []),.s (.int .i64 0),.s (.nf),.s (.str [114,111,119]),.s (.int .i64 0),.s (.fn 49),.s (.str [115,121,109]),.s (.int .i64 0),.s (.fn 50),.s (.str [110,117,109]),.s (.int .i64 0),.s (.fn 51),.s (.str [116,101,120,116]),.s (.int .i64 0),.s (.fn 52),.s (.str [102,114,97,99]),.s (.int .i64 2),.s (.fn 49),.s (.str [114,111,111,116]),.s (.int .i64 2),.s (.fn 49),.s (.str [115,117,98]),.s (.int .i64 2),.s (.fn 49),.s (.str [115,117,112]),.s (.int .i64 2),.s (.fn 49),.s (.str [98,111,116,104]),.s (.int .i64 3),.s (.fn 49),.s (.str [97,99,99,101,110,116]),.s (.int .i64 1),.s (.fn 53),.s (.str [102,101,110,99,101]),.s (.int .i64 1),.s (.fn 54),.s (.str [109,97,116,114,105,120]),.s (.int .i64 0),.s (.fn 49),.s (.int .i64 o1G)])],1⟩ ?_ (fun σ' hle=>?_)
     ·replace h:=hj;refine zBx [] [102,107,112] [20] rfl (by decide +kernel) ?_;intro b hb;cases b with
      | true =>
       replace h:=zAu hb.symm h;intro n23 hn23;obtain rfl:(a2B.length:Int)=n23:=(hn23.trans (congrArg (fun m:Nat=>(m:Int)) (rlen Nd.encs_eq a2B))).symm;intro vsp hvsp;cases hc:(a2A == 1) with
       | true =>
        replace h:=zAu hc h;obtain rfl:(1:Int)=vsp:=(hvsp.trans (eq_of_beq hc)).symm;refine And.intro (by decide) ?_;cases h;exact(Le.rnm [(0,0)] _ _ _ ⟨rfl,trivial⟩ ⟨rfl,⟨_,rfl,rfl⟩,trivial⟩)
       | false =>
        replace h:=zAt hc h;cases hc:(a2A == 2) with
        | true =>
         replace h:=zAu hc h;obtain rfl:(2:Int)=vsp:=(hvsp.trans (eq_of_beq hc)).symm;refine And.intro (by decide) ?_;cases h;exact(Le.rnm [(0,0)] _ _ _ ⟨rfl,trivial⟩ ⟨rfl,⟨_,rfl,rfl⟩,trivial⟩)
        | false =>
         replace h:=zAt hc h;cases hc:(a2A == 3) with
         | true =>
          replace h:=zAu hc h;obtain rfl:(3:Int)=vsp:=(hvsp.trans (eq_of_beq hc)).symm;refine And.intro (by decide) ?_;cases h;exact(Le.rnm [(0,0)] _ _ _ ⟨rfl,trivial⟩ ⟨rfl,⟨_,rfl,rfl⟩,trivial⟩)
         | false =>
          replace h:=zAt hc h;cases hc:(a2A == 4) with
          | true =>
           replace h:=zAu hc h;obtain rfl:(4:Int)=vsp:=(hvsp.trans (eq_of_beq hc)).symm;refine And.intro (by decide) ?_;cases h;exact(Le.rnm [(0,0)] _ _ _ ⟨rfl,trivial⟩ ⟨rfl,⟨_,rfl,rfl⟩,trivial⟩)
          | false =>
           replace h:=zAt hc h;cases hc:(a2A == 5) with
           | true =>
            replace h:=zAu hc h;obtain rfl:(5:Int)=vsp:=(hvsp.trans (eq_of_beq hc)).symm;refine And.intro (by decide) ?_;cases h;exact(Le.rnm [(0,0)] _ _ _ ⟨rfl,trivial⟩ ⟨rfl,⟨_,rfl,rfl⟩,trivial⟩)
           | false =>
            replace h:=zAt hc h;cases hc:(a2A == 6) with
            | true =>
             replace h:=zAu hc h;obtain rfl:(6:Int)=vsp:=(hvsp.trans (eq_of_beq hc)).symm;refine And.intro (by decide) ?_;cases h;exact(Le.rnm [(0,0)] _ _ _ ⟨rfl,trivial⟩ ⟨rfl,⟨_,rfl,rfl⟩,trivial⟩)
            | false =>
             replace h:=zAt hc h;cases hc:(a2A == 7) with
             | true =>
              replace h:=zAu hc h;obtain rfl:(7:Int)=vsp:=(hvsp.trans (eq_of_beq hc)).symm;refine And.intro (by decide) ?_;cases h;exact(Le.rnm [(0,0)] _ _ _ ⟨rfl,trivial⟩ ⟨rfl,⟨_,rfl,rfl⟩,trivial⟩)
             | false =>
              replace h:=zAt hc h;cases hc:(a2A == 8) with
              | true =>
               replace h:=zAu hc h;obtain rfl:(8:Int)=vsp:=(hvsp.trans (eq_of_beq hc)).symm;refine And.intro (by decide) ?_;cases h;exact(Le.rnm [(0,0)] _ _ _ ⟨rfl,trivial⟩ ⟨rfl,⟨_,rfl,rfl⟩,trivial⟩)
              | false =>
               replace h:=zAt hc h;cases hc:(a2A == 9) with
               | true =>
                replace h:=zAu hc h;obtain rfl:(9:Int)=vsp:=(hvsp.trans (eq_of_beq hc)).symm;refine And.intro (by decide) ?_;cases h;exact(Le.rnm [(0,0)] _ _ _ ⟨rfl,trivial⟩ ⟨rfl,⟨_,rfl,rfl⟩,trivial⟩)
               | false =>
                replace h:=zAt hc h;cases hc:(a2A == 10) with
                | true =>
                 replace h:=zAu hc h;obtain rfl:(10:Int)=vsp:=(hvsp.trans (eq_of_beq hc)).symm;refine And.intro (by decide) ?_;cases h;exact(Le.rnm [(0,0)] _ _ _ ⟨rfl,trivial⟩ ⟨rfl,⟨_,rfl,rfl⟩,trivial⟩)
                | false =>
                 replace h:=zAt hc h;cases hc:(a2A == 11) with
                 | true =>
                  replace h:=zAu hc h;obtain rfl:(11:Int)=vsp:=(hvsp.trans (eq_of_beq hc)).symm;refine And.intro (by decide) ?_;cases h;exact(Le.rnm [(0,0)] _ _ _ ⟨rfl,trivial⟩ ⟨rfl,⟨_,rfl,rfl⟩,trivial⟩)
                 | false =>
                  replace h:=zAt hc h;cases hc:(a2A == 12) with
                  | true =>
                   replace h:=zAu hc h;obtain rfl:(12:Int)=vsp:=(hvsp.trans (eq_of_beq hc)).symm;refine And.intro (by decide) ?_;cases h;exact(Le.rnm [(0,0)] _ _ _ ⟨rfl,trivial⟩ ⟨rfl,⟨_,rfl,rfl⟩,trivial⟩)
                  | false =>
                   replace h:=zAt hc h;cases h
      | false =>
       replace h:=zAt hb.symm h;cases h;exact(Le.rnm [(0,0)] _ _ _ ⟨rfl,trivial⟩ ⟨rfl,⟨_,rfl,rfl⟩,trivial⟩)
     ·refine zAk hle ?_;refine zAg ?_;obtain⟨hj1,hk1⟩:=pij h;subst hj1 hk1;unfold zAM
      exact⟨_,(Le.rnm [(0,0)] [(4,.s (.bool x22))] [(0,.box 75 [.s (.str []),.s (.int .i64 0),.s (.nf),.s (.str [114,111,119]),.s (.int .i64 0),.s (.fn 49),.s (.str [115,121,109]),.s (.int .i64 0),.s (.fn 50),.s (.str [110,117,109]),.s (.int .i64 0),.s (.fn 51),.s (.str [116,101,120,116]),.s (.int .i64 0),.s (.fn 52),.s (.str [102,114,97,99]),.s (.int .i64 2),.s (.fn 49),.s (.str [114,111,111,116]),.s (.int .i64 2),.s (.fn 49),.s (.str [115,117,98]),.s (.int .i64 2),.s (.fn 49),.s (.str [115,117,112]),.s (.int .i64 2),.s (.fn 49),.s (.str [98,111,116,104]),.s (.int .i64 3),.s (.fn 49),.s (.str [97,99,99,101,110,116]),.s (.int .i64 1),.s (.fn 53),.s (.str [102,101,110,99,101]),.s (.int .i64 1),.s (.fn 54),.s (.str [109,97,116,114,105,120]),.s (.int .i64 0),.s (.fn 49),.s (.int .i64 o1G)])] 1 ⟨rfl,trivial⟩ ⟨rfl,⟨_,rfl,rfl⟩,trivial⟩),rfl,rfl,rfl,rfl,trivial⟩
def zBp (n:Nat) (xs:List AV) (os:List Ob) (x:AV) (os':List (Option Ob)):Prop:=∃ (a0:(Unit×Int)) (a1:Nd) (a2:Int) (y0:Bool) (z0:(Unit×Int)),zAF n a0 a1 a2=some (y0,z0)/\xs=[.op 0 0,.s (.pt (Nd.enc a1)),.s (.int .i64 a2)]/\os=[.box 75 ((zAQ a0).map .s)]/\x = .s (.bool y0)/\os'=[some (.box 75 ((zAQ z0).map .s))]
theorem zFS (n:Nat) (ih:PSound Try.prog 37 (zA5 (zBp n))):PSound Try.prog 37 (zA5 (zBp (n+1))):=by
 have gok:∀ f s,look? f [(55,zEU),(37,zA5 (zBp n))]=some s->PSound Try.prog f s:=zAm (by
  simp only[List.forall_mem_cons]
  exact⟨zHo,ih,by simp⟩)
 refine PSound.withNil (zBm tokW Try.call37 Try.func37 rfl (fun xs os x os' h=>by obtain⟨_,_,_,_,_,_,rfl,rfl,_,rfl⟩:=h; exact⟨by show 3<=67; decide,by show 1<=1; decide⟩) 67 rfl ?_) _;rintro xs os x os' w0 G0 B0 ⟨⟨_,o1G⟩,⟨a2A,a2C,a2D,a2B⟩,a3,y0,z0,h,rfl,rfl,rfl,rfl⟩ _;rw[zAF]at h;refine zSV ?_;refine zSV ?_;refine zAa ?_;refine zAa ?_;obtain⟨⟨x4,x5⟩,hj,h⟩:=zAc h
 refine zAo ⟨ofL [(0,.op 0 0),(1,.s (.pt [.int .i64 a2A,.str a2C,.int .i64 a2D,.sl 4 (Nd.encs a2B)])),(2,.s (.int .i64 a3)),(29,.s (.bool x4))],ofH [(0,.box 75 [.s (.str []),.s (.int .i64 0),.s (.nf),.s (.str [114,111,119]),.s (.int .i64 0),.s (.fn 49),.s (.str [115,121,109]),.s (.int .i64 0),.s (.fn 50),.s (.str [110,117,109]),.s (.int .i64 0),.s (.fn 51),.s (.str [116,101,120,116]),.s (.int .i64 0),.s (.fn 52),.s (.str [102,114,97,99]),.s (.int .i64 2),.s (.fn 49),.s (.str [114,111,111,116]),.s (.int .i64 2),.s (.fn 49),.s (.str [115,117,98]),.s (.int .i64 2),.s (.fn 49),.s (.str [115,117,112]),.s (.int .i64 2),.s (.fn 49),.s (.str [98,111,116,104]),.s (.int .i64 3),.s (.fn 49),.s (.str [97,99,99,101,110,116]),.s (.int .i64 1),.s (.fn 53),.s (.str [102,101,110,99,101]),.s (.int .i64 1),.s (.fn 54),.s (.str [109,97,116,114,105,120]),.s (.int .i64 0),.s (.fn 49),.s (.int .i64 x5)])],1⟩ ?_ (fun σ' hle=>?_)
 ·replace h:=hj;refine zAb [] [20,24] rfl ?_;intro b hb;cases b with
  | true =>
   replace h:=zAu hb.symm h;intro b hb;subst hb;cases h;exact(Le.rnm [(0,0)] _ _ _ ⟨rfl,rfl,rfl,rfl,trivial⟩ ⟨rfl,⟨_,rfl,rfl⟩,trivial⟩)
  | false =>
   replace h:=zAt hb.symm h;intro b hb;cases b with
   | true =>
    replace h:=zAu hb.symm h;cases h;exact(Le.rnm [(0,0)] _ _ _ ⟨rfl,rfl,rfl,rfl,trivial⟩ ⟨rfl,⟨_,rfl,rfl⟩,trivial⟩)
   | false =>
    replace h:=zAt hb.symm h;obtain⟨⟨y6,⟨_,w7G⟩⟩,hy6,h⟩:=zAc h;refine⟨_,_,⟨_,_,_,_,_,hy6,rfl,rfl,rfl,rfl⟩,?_⟩
    cases h;exact(Le.rnm [(0,0)] _ _ _ ⟨rfl,rfl,rfl,rfl,trivial⟩ ⟨rfl,⟨_,rfl,rfl⟩,trivial⟩)
 ·refine zAk hle ?_;refine zAj rfl h (fun hb h=>?_) (fun hb h=>?_)
  ·refine zSV ?_;refine zAg ?_;obtain⟨hj1,hk1⟩:=pij h;subst hj1 hk1;unfold zAM
   exact⟨_,(Le.rnm [(0,0)] [(6,.s (.bool false))] [(0,.box 75 [.s (.str []),.s (.int .i64 0),.s (.nf),.s (.str [114,111,119]),.s (.int .i64 0),.s (.fn 49),.s (.str [115,121,109]),.s (.int .i64 0),.s (.fn 50),.s (.str [110,117,109]),.s (.int .i64 0),.s (.fn 51),.s (.str [116,101,120,116]),.s (.int .i64 0),.s (.fn 52),.s (.str [102,114,97,99]),.s (.int .i64 2),.s (.fn 49),.s (.str [114,111,111,116]),.s (.int .i64 2),.s (.fn 49),.s (.str [115,117,98]),.s (.int .i64 2),.s (.fn 49),.s (.str [115,117,112]),.s (.int .i64 2),.s (.fn 49),.s (.str [98,111,116,104]),.s (.int .i64 3),.s (.fn 49),.s (.str [97,99,99,101,110,116]),.s (.int .i64 1),.s (.fn 53),.s (.str [102,101,110,99,101]),.s (.int .i64 1),.s (.fn 54),.s (.str [109,97,116,114,105,120]),.s (.int .i64 0),.s (.fn 49),.s (.int .i64 x5)])] 1 ⟨rfl,trivial⟩ ⟨rfl,⟨_,rfl,rfl⟩,trivial⟩),rfl,rfl,rfl,rfl,trivial⟩
  ·refine zAe ?_;refine zAa ?_;refine zSg [] [34] rfl ?_;intro n8 hn8;obtain rfl:(a2B.length:Int)=n8:=(hn8.trans (congrArg (fun m:Nat=>(m:Int)) (rlen Nd.encs_eq a2B))).symm;show Tri ..;obtain⟨fl,hl,ho1⟩:=zAc h
   refine zDf (fl:=fl) (fun z=>match z with | x11=>⟨ofL [],ofH [(0,.box 75 [.s (.str []),.s (.int .i64 0),.s (.nf),.s (.str [114,111,119]),.s (.int .i64 0),.s (.fn 49),.s (.str [115,121,109]),.s (.int .i64 0),.s (.fn 50),.s (.str [110,117,109]),.s (.int .i64 0),.s (.fn 51),.s (.str [116,101,120,116]),.s (.int .i64 0),.s (.fn 52),.s (.str [102,114,97,99]),.s (.int .i64 2),.s (.fn 49),.s (.str [114,111,111,116]),.s (.int .i64 2),.s (.fn 49),.s (.str [115,117,98]),.s (.int .i64 2),.s (.fn 49),.s (.str [115,117,112]),.s (.int .i64 2),.s (.fn 49),.s (.str [98,111,116,104]),.s (.int .i64 3),.s (.fn 49),.s (.str [97,99,99,101,110,116]),.s (.int .i64 1),.s (.fn 53),.s (.str [102,101,110,99,101]),.s (.int .i64 1),.s (.fn 54),.s (.str [109,97,116,114,105,120]),.s (.int .i64 0),.s (.fn 49),.s (.int .i64 x11)])],1⟩) ?_ (fun x11 σ' hz hle=>?_)
   ·refine zAi (zAz (X:=Nat×Int×Int) (fun y=>match y with | (k,x9,x10)=>⟨ofL [(0,.op 0 0),(1,.s (.pt [.int .i64 a2A,.str a2C,.int .i64 a2D,.sl 4 (Nd.encs a2B)])),(2,.s (.int .i64 a3)),(34,.s (.int .i64 (a2B.length:Int))),(35,.s (.int .i64 x10))],ofH [(0,.box 75 [.s (.str []),.s (.int .i64 0),.s (.nf),.s (.str [114,111,119]),.s (.int .i64 0),.s (.fn 49),.s (.str [115,121,109]),.s (.int .i64 0),.s (.fn 50),.s (.str [110,117,109]),.s (.int .i64 0),.s (.fn 51),.s (.str [116,101,120,116]),.s (.int .i64 0),.s (.fn 52),.s (.str [102,114,97,99]),.s (.int .i64 2),.s (.fn 49),.s (.str [114,111,111,116]),.s (.int .i64 2),.s (.fn 49),.s (.str [115,117,98]),.s (.int .i64 2),.s (.fn 49),.s (.str [115,117,112]),.s (.int .i64 2),.s (.fn 49),.s (.str [98,111,116,104]),.s (.int .i64 3),.s (.fn 49),.s (.str [97,99,99,101,110,116]),.s (.int .i64 1),.s (.fn 53),.s (.str [102,101,110,99,101]),.s (.int .i64 1),.s (.fn 54),.s (.str [109,97,116,114,105,120]),.s (.int .i64 0),.s (.fn 49),.s (.int .i64 x9)])],1⟩) (fun y=>zAB (zAF n) a2A a2B a3 y.1 y.2.1 y.2.2=some fl) (fun y=>y.1) (n,x5,0) hl ?_ ?_)
    ·exact(Le.rnm [(0,0)] _ _ _ ⟨rfl,rfl,rfl,rfl,rfl,trivial⟩ ⟨rfl,⟨_,rfl,rfl⟩,trivial⟩)
    ·rintro⟨k,x9,x10⟩ h;cases k with
     | zero=>cases h
     | succ k =>
      replace h:zAB (zAF n) a2A a2B a3 (k+1) x9 x10=some fl:=h;rw[zAB]at h;refine zSV ?_;refine zAa ?_;refine zAj rfl h (fun hb h=>?_) (fun hb h=>?_)
      ·refine zAe ?_;refine zAa ?_;refine zAi ?_;refine zSV ?_;refine zAa ?_;obtain⟨⟨x12,x13⟩,hj,h⟩:=zAc h
       refine zAo ⟨ofL [(0,.op 0 0),(1,.s (.pt [.int .i64 a2A,.str a2C,.int .i64 a2D,.sl 4 (Nd.encs a2B)])),(2,.s (.int .i64 a3)),(34,.s (.int .i64 (a2B.length:Int))),(35,.s (.int .i64 x10)),(65,.s (.bool x12))],ofH [(0,.box 75 [.s (.str []),.s (.int .i64 0),.s (.nf),.s (.str [114,111,119]),.s (.int .i64 0),.s (.fn 49),.s (.str [115,121,109]),.s (.int .i64 0),.s (.fn 50),.s (.str [110,117,109]),.s (.int .i64 0),.s (.fn 51),.s (.str [116,101,120,116]),.s (.int .i64 0),.s (.fn 52),.s (.str [102,114,97,99]),.s (.int .i64 2),.s (.fn 49),.s (.str [114,111,111,116]),.s (.int .i64 2),.s (.fn 49),.s (.str [115,117,98]),.s (.int .i64 2),.s (.fn 49),.s (.str [115,117,112]),.s (.int .i64 2),.s (.fn 49),.s (.str [98,111,116,104]),.s (.int .i64 3),.s (.fn 49),.s (.str [97,99,99,101,110,116]),.s (.int .i64 1),.s (.fn 53),.s (.str [102,101,110,99,101]),.s (.int .i64 1),.s (.fn 54),.s (.str [109,97,116,114,105,120]),.s (.int .i64 0),.s (.fn 49),.s (.int .i64 x13)])],1⟩ ?_ (fun σ' hle=>?_)
       ·replace h:=hj;refine zBx [] [48,53,60] [25] rfl (by decide +kernel) ?_;obtain⟨⟨e14A,e14C,e14D,e14B⟩,he14,h⟩:=zAc h;refine And.intro (zAO Nd.encs_eq he14).1 ?_;intro r15 hr15;obtain rfl:[.int .i64 e14A,.str e14C,.int .i64 e14D,.sl 4 (Nd.encs e14B)]=r15:=(hr15.trans (zAO Nd.encs_eq he14).2.1).symm;intro b hb;cases b with
        | true =>
         replace h:=zAu hb.symm h;cases h;exact(Le.rnm [(0,0)] _ _ _ ⟨rfl,rfl,rfl,rfl,rfl,rfl,trivial⟩ ⟨rfl,⟨_,rfl,rfl⟩,trivial⟩)
        | false =>
         replace h:=zAt hb.symm h;obtain⟨⟨e16A,e16C,e16D,e16B⟩,he16,h⟩:=zAc h;refine And.intro (zAO Nd.encs_eq he16).1 ?_;intro r17 hr17;obtain rfl:[.int .i64 e16A,.str e16C,.int .i64 e16D,.sl 4 (Nd.encs e16B)]=r17:=(hr17.trans (zAO Nd.encs_eq he16).2.1).symm;obtain⟨⟨y18,⟨_,w19G⟩⟩,hy18,h⟩:=zAc h;refine⟨_,_,⟨_,_,_,_,_,hy18,rfl,rfl,rfl,rfl⟩,?_⟩
         cases h;exact(Le.rnm [(0,0)] _ _ _ ⟨rfl,rfl,rfl,rfl,rfl,rfl,trivial⟩ ⟨rfl,⟨_,rfl,rfl⟩,trivial⟩)
       ·refine zAk hle ?_;refine zAj rfl h (fun hb h=>?_) (fun hb h=>?_)
        ·refine zSV ?_;refine zAg ?_;cases h;replace h:some _=some _:=ho1;obtain⟨hj1,hk1⟩:=pij h;subst hj1 hk1;unfold zAM
         exact⟨_,(Le.rnm [(0,0)] [(6,.s (.bool false))] [(0,.box 75 [.s (.str []),.s (.int .i64 0),.s (.nf),.s (.str [114,111,119]),.s (.int .i64 0),.s (.fn 49),.s (.str [115,121,109]),.s (.int .i64 0),.s (.fn 50),.s (.str [110,117,109]),.s (.int .i64 0),.s (.fn 51),.s (.str [116,101,120,116]),.s (.int .i64 0),.s (.fn 52),.s (.str [102,114,97,99]),.s (.int .i64 2),.s (.fn 49),.s (.str [114,111,111,116]),.s (.int .i64 2),.s (.fn 49),.s (.str [115,117,98]),.s (.int .i64 2),.s (.fn 49),.s (.str [115,117,112]),.s (.int .i64 2),.s (.fn 49),.s (.str [98,111,116,104]),.s (.int .i64 3),.s (.fn 49),.s (.str [97,99,99,101,110,116]),.s (.int .i64 1),.s (.fn 53),.s (.str [102,101,110,99,101]),.s (.int .i64 1),.s (.fn 54),.s (.str [109,97,116,114,105,120]),.s (.int .i64 0),.s (.fn 49),.s (.int .i64 x13)])] 1 ⟨rfl,trivial⟩ ⟨rfl,⟨_,rfl,rfl⟩,trivial⟩),rfl,rfl,rfl,rfl,trivial⟩
        ·refine zAe ?_;refine zSU ?_;refine⟨(k,x13,IntKind.i64.wrap (x10+1)),h,(Le.rnm [(0,0)] _ _ _ ⟨rfl,rfl,rfl,rfl,rfl,trivial⟩ ⟨rfl,⟨_,rfl,rfl⟩,trivial⟩),Nat.lt_succ_self k⟩
      ·refine zAx ?_;cases h;exact⟨_,rfl,(Le.rnm [(0,0)] _ _ _ trivial ⟨rfl,⟨_,rfl,rfl⟩,trivial⟩)⟩
   ·subst hz;replace h:=ho1;refine zAk hle ?_;refine zSV ?_;refine zAg ?_;obtain⟨hj1,hk1⟩:=pij h;subst hj1 hk1;unfold zAM
    exact⟨_,(Le.rnm [(0,0)] [(6,.s (.bool true))] [(0,.box 75 [.s (.str []),.s (.int .i64 0),.s (.nf),.s (.str [114,111,119]),.s (.int .i64 0),.s (.fn 49),.s (.str [115,121,109]),.s (.int .i64 0),.s (.fn 50),.s (.str [110,117,109]),.s (.int .i64 0),.s (.fn 51),.s (.str [116,101,120,116]),.s (.int .i64 0),.s (.fn 52),.s (.str [102,114,97,99]),.s (.int .i64 2),.s (.fn 49),.s (.str [114,111,111,116]),.s (.int .i64 2),.s (.fn 49),.s (.str [115,117,98]),.s (.int .i64 2),.s (.fn 49),.s (.str [115,117,112]),.s (.int .i64 2),.s (.fn 49),.s (.str [98,111,116,104]),.s (.int .i64 3),.s (.fn 49),.s (.str [97,99,99,101,110,116]),.s (.int .i64 1),.s (.fn 53),.s (.str [102,101,110,99,101]),.s (.int .i64 1),.s (.fn 54),.s (.str [109,97,116,114,105,120]),.s (.int .i64 0),.s (.fn 49),.s (.int .i64 x11)])] 1 ⟨rfl,trivial⟩ ⟨rfl,⟨_,rfl,rfl⟩,trivial⟩),rfl,rfl,rfl,rfl,trivial⟩
theorem zFZ:∀ n,PSound Try.prog 37 (zA5 (zBp n)):=by
 intro n
 induction n with
 | zero=>exact zOy Try.call37 (fun xs os x os' h=>by obtain⟨_,_,_,_,_,h,_⟩:=h; cases h) _
 | succ n ih=>exact zFS n ih
def zEq:zAp:=zA5 (fun xs os x os'=>∃ n,zBp n xs os x os')
theorem zGH:PSound Try.prog 37 zEq:=zPA zFZ _
def zMO (n:Nat) (xs:List AV) (r:Ret):Prop:=∃ (a0:Nd) (y0:Bool),zAv n a0=some y0/\xs=[.agg ((Nd.enc a0).map .s)]/\r = .val (.s (.bool y0))
def zBj:zAp:=zAr fun xs r=>∃ n,zMO n xs r
theorem zBi:PSound Try.prog 24 zBj:=by
 have gok:∀ f s,look? f [(36,zIF),(37,zEq)]=some s->PSound Try.prog f s:=zAm (by
  simp only[List.forall_mem_cons]
  exact⟨zMh,zGH,by simp⟩)
 refine zAw tokW Try.call24 Try.func24 rfl (fun xs r h=>by obtain⟨n,_,_,_,rfl,_⟩:=h; show 1<=14; decide) 14 rfl ?_;rintro xs r w0 G0 ⟨n,⟨n1A,n1C,n1D,n1B⟩,y0,h,rfl,rfl⟩ _;rw[zAv]at h;refine zSV ?_;refine zSg [6] [] rfl ?_;obtain⟨_,hy2,h⟩:=zAc h;refine⟨_,⟨_,hy2,rfl,rfl⟩,?_⟩
 refine zAa ?_;obtain⟨x3,hj,h⟩:=zAc h;refine zAo ⟨ofL [(2,.s (.bool x3))],fun _=>none,0⟩ ?_ (fun σ' hle=>?_)
 ·replace h:=hj;refine zAb [] [10] rfl ?_;intro b hb;cases b with
  | true =>
   replace h:=zAu hb.symm h;obtain⟨⟨y4,⟨_,w5G⟩⟩,hy4,h⟩:=zAc h;refine⟨_,_,⟨_,_,_,_,_,_,hy4,rfl,rfl,rfl,rfl⟩,?_⟩
   cases h;exact(Le.rnm [] _ [] 0 ⟨rfl,trivial⟩ trivial)
  | false =>
   replace h:=zAt hb.symm h;cases h;exact(Le.rnm [] _ [] 0 ⟨rfl,trivial⟩ trivial)
 ·refine zAk hle ?_;refine zAg ?_;have hy:=osi h;subst hy;exact fin0 rfl rfl
def zH9 (n:Nat) (xs:List AV) (r:Ret):Prop:=∃ (a0:List Nd) (y0:Bool),zCt n a0=some y0/\xs=[.s (.sl 4 (Nd.encs a0))]/\r = .val (.s (.bool y0))
def zDo:zAp:=zAr fun xs r=>∃ n,zH9 n xs r
theorem zE0:PSound Try.prog 73 zDo:=by
 have gok:∀ f s,look? f [(24,zBj)]=some s->PSound Try.prog f s:=zAm (by
  simp only[List.forall_mem_cons]
  exact⟨zBi,by simp⟩)
 refine zAw tokW Try.call73 Try.func73 rfl (fun xs r h=>by obtain⟨n,_,_,_,rfl,_⟩:=h; show 1<=6; decide) 6 rfl ?_;rintro xs r w0 G0 ⟨n,l1,y0,h,rfl,rfl⟩ _;rw[zCt]at h;refine zSV ?_;refine zSV ?_;obtain⟨y2,hy2,h⟩:=zAc h;refine⟨_,⟨_,_,_,hy2,rfl,rfl⟩,?_⟩
 refine zAg ?_;have hy:=osi h;subst hy;exact fin0 rfl rfl
def zMN (xs:List AV) (r:Ret):Prop:=∃ (a0:Nd) (y0:Int),zDK a0=some y0/\xs=[.agg ((Nd.enc a0).map .s)]/\r = .val (.s (.int .i64 y0))
def zET:zAp:=zAr fun xs r=>zMN xs r
theorem zFF:PSound Try.prog 86 zET:=by
 have gok:=@gok0 Try.prog;refine zAw tokW Try.call86 Try.func86 rfl (fun xs r h=>by obtain⟨_,_,_,rfl,_⟩:=h; show 1<=9; decide) 9 rfl ?_;rintro xs r w0 G0 ⟨⟨n1A,n1C,n1D,n1B⟩,y0,h,rfl,rfl⟩ _;rw[zDK]at h;refine zSV ?_;refine zAa ?_;refine zSV ?_;refine zAj rfl h (fun hb h=>?_) (fun hb h=>?_)
 ·refine zSV ?_;refine zAg ?_;have hy:=osi h;subst hy;exact fin0 rfl rfl
 ·refine zAe ?_;refine zSg [] [8] rfl ?_;intro n2 hn2;obtain rfl:(n1B.length:Int)=n2:=(hn2.trans (congrArg (fun m:Nat=>(m:Int)) (rlen Nd.encs_eq n1B))).symm;refine zAg ?_;have hy:=osi h;subst hy;exact fin0 rfl rfl
def zMT (xs:List AV) (r:Ret):Prop:=∃ (a0:Int) (y0:Bool),zCY a0=some y0/\xs=[.s (.int .u8 a0)]/\r = .val (.s (.bool y0))
def zFX:zAp:=zAr fun xs r=>zMT xs r
theorem zHT:PSound Try.prog 64 zFX:=by
 have gok:=@gok0 Try.prog;refine zAw tokW Try.call64 Try.func64 rfl (fun xs r h=>by obtain⟨_,_,_,rfl,_⟩:=h; show 1<=17; decide) 17 rfl ?_;rintro xs r w0 G0 ⟨c1,y0,h,rfl,rfl⟩ _;rw[zCY]at h;refine zSV ?_;refine zAa ?_;obtain⟨x2,hj,h⟩:=zAc h;refine zAo ⟨ofL [(2,.s (.bool x2))],fun _=>none,0⟩ ?_ (fun σ' hle=>?_)
 ·replace h:=hj;refine zAb [] [5,9,12] rfl ?_;intro b hb;cases b with
  | true =>
   replace h:=zAu hb.symm h;intro b hb;cases b with
   | true =>
    replace h:=zAu hb.symm h;cases h;exact(Le.forget _ ⟨rfl,trivial⟩)
   | false =>
    replace h:=zAt hb.symm h;intro b hb;cases b with
    | true =>
     replace h:=zAu hb.symm h;cases h;exact(Le.forget _ ⟨rfl,trivial⟩)
    | false =>
     replace h:=zAt hb.symm h;cases h;exact(Le.forget _ ⟨rfl,trivial⟩)
  | false =>
   replace h:=zAt hb.symm h;intro b hb;subst hb;intro b hb;cases b with
   | true =>
    replace h:=zAu hb.symm h;cases h;exact(Le.forget _ ⟨rfl,trivial⟩)
   | false =>
    replace h:=zAt hb.symm h;cases h;exact(Le.forget _ ⟨rfl,trivial⟩)
 ·refine zAk hle ?_;refine zAg ?_;have hy:=osi h;subst hy;exact fin0 rfl rfl
def zPQ (n:Nat) (xs:List AV) (r:Ret):Prop:=∃ (a0:List UInt8) (a1:Int) (y0:Bool),zCn n a0 a1=some y0/\xs=[.s (.str a0),.s (.int .u8 a1)]/\r = .val (.s (.bool y0))
def zJE:zAp:=zAr fun xs r=>∃ n,zPQ n xs r
theorem zLn:PSound Try.prog 48 zJE:=by
 have gok:=@gok0 Try.prog;refine zAw tokW Try.call48 Try.func48 rfl (fun xs r h=>by obtain⟨n,_,_,_,_,rfl,_⟩:=h; show 2<=17; decide) 17 rfl ?_;rintro xs r w0 G0 ⟨n,s1,c2,y0,h,rfl,rfl⟩ _;rw[zCn]at h;refine zSV ?_;refine zAa ?_;refine zSV ?_;show Tri ..;obtain⟨fl,hl,ho1⟩:=zAc h;refine zDf (fl:=fl) (fun z=>match z with | _=>⟨ofL [],fun _=>none,0⟩) ?_ (fun z σ' hz hle=>?_)
 ·refine zAi (zAz (X:=Nat×Int) (fun y=>match y with | (k,i3)=>⟨ofL [(0,.s (.str s1)),(1,.s (.int .u8 c2)),(5,.s (.int .i64 i3))],fun _=>none,0⟩) (fun y=>zBR s1 c2 y.1 y.2=some fl) (fun y=>y.1) (n,0) hl ?_ ?_)
  ·exact(Le.forget _ ⟨rfl,rfl,rfl,trivial⟩)
  ·rintro⟨k,i3⟩ h;cases k with
   | zero=>cases h
   | succ k =>
    replace h:zBR s1 c2 (k+1) i3=some fl:=h;rw[zBR]at h;refine zAa ?_;refine zSV ?_;refine zAj rfl h (fun hb h=>?_) (fun hb h=>?_)
    ·refine zAe ?_;refine zAa ?_;refine zAi ?_;refine zSg [] [14] rfl ?_;obtain⟨c4,hc4,h⟩:=zAc h;refine And.intro (zA3 hc4).1 ?_;intro v5 hv5;obtain rfl:(c4.toNat:Int)=v5:=(hv5.trans (zA3 hc4).2).symm;refine zAj rfl h (fun hb h=>?_) (fun hb h=>?_)
     ·refine zSV ?_;refine zAg ?_;cases h;replace h:some _=some _:=ho1;have hy:=osi h;subst hy;exact fin0 rfl rfl
     ·refine zAe ?_;refine zSU ?_;refine⟨(k,IntKind.i64.wrap (i3+1)),h,(Le.forget _ ⟨rfl,rfl,rfl,trivial⟩),Nat.lt_succ_self k⟩
    ·refine zAx ?_;cases h;exact⟨_,rfl,(Le.forget _ trivial)⟩
 ·subst hz;obtain _:=z;replace h:=ho1;refine zAk hle ?_;refine zSV ?_;refine zAg ?_;have hy:=osi h;subst hy;exact fin0 rfl rfl
def zJu (n:Nat) (xs:List AV) (r:Ret):Prop:=∃ (a0:Int) (y0:Bool),zDb n a0=some y0/\xs=[.s (.int .u8 a0)]/\r = .val (.s (.bool y0))
def zFW:zAp:=zAr fun xs r=>∃ n,zJu n xs r
theorem zI7:PSound Try.prog 63 zFW:=by
 have gok:∀ f s,look? f [(64,zFX),(48,zJE)]=some s->PSound Try.prog f s:=zAm (by
  simp only[List.forall_mem_cons]
  exact⟨zHT,zLn,by simp⟩)
 refine zAw tokW Try.call63 Try.func63 rfl (fun xs r h=>by obtain⟨n,_,_,_,rfl,_⟩:=h; show 1<=9; decide) 9 rfl ?_;rintro xs r w0 G0 ⟨n,c1,y0,h,rfl,rfl⟩ _;rw[zDb]at h;refine zSV ?_;refine zAa ?_;obtain⟨x2,hj,h⟩:=zAc h;refine zAo ⟨ofL [(2,.s (.bool x2))],fun _=>none,0⟩ ?_ (fun σ' hle=>?_)
 ·replace h:=hj;refine zAb [] [5] rfl ?_;obtain⟨y3,hy3,h⟩:=zAc h;refine⟨_,⟨_,_,hy3,rfl,rfl⟩,?_⟩
  intro b hb;cases b with
  | true =>
   replace h:=zAu hb.symm h;cases h;exact(Le.forget _ ⟨rfl,trivial⟩)
  | false =>
   replace h:=zAt hb.symm h;obtain⟨y4,hy4,h⟩:=zAc h;refine⟨_,⟨_,_,_,_,hy4,rfl,rfl⟩,?_⟩
   cases h;exact(Le.forget _ ⟨rfl,trivial⟩)
 ·refine zAk hle ?_;refine zAg ?_;have hy:=osi h;subst hy;exact fin0 rfl rfl
def zBM (p:List UInt8):List S:=[.str p]
def zKA (xs:List AV) (r:Ret):Prop:=∃ (y0:List (List UInt8)),zDB=some y0/\xs=[]/\r = .val (.s (.sl 1 ((List.map zBM) y0)))
def zGS:zAp:=zAr fun xs r=>zKA xs r
theorem zSH {α:Type}{a b:α} (h:a=b:=by simp[List.map_append,List.map_take,List.map_drop,irow,brow,zGq,List.map_cons,List.map_nil,zF2,Nd.encs_eq,Nd.enc,zBA,zAQ,zBM]):a=b :=
 h
theorem zJ7:PSound Try.prog 65 zGS:=by
 have gok:=@gok0 Try.prog;refine zAw tokW Try.call65 Try.func65 rfl (fun xs r h=>by obtain⟨_,_,rfl,_⟩:=h; show 0<=2; decide) 2 rfl ?_;rintro xs r w0 G0 ⟨y0,h,rfl,rfl⟩ _;rw[zDB]at h;refine zSV ?_;refine zSg [] [1] rfl ?_;intro r1 hr1;obtain rfl:(List.map zBM) [[102,114,97,99],[114,111,111,116],[109,97,116,114,105,120],[102,101,110,99,101]]=r1:=(hr1.trans zSH).symm;show Tri ..
 refine zAg ?_;have hy:=osi h;subst hy;exact fin0 rfl rfl
def zQT (n:Nat) (xs:List AV) (r:Ret):Prop:=∃ (a0:List (List UInt8)) (a1:List UInt8) (y0:Bool),zDA n a0 a1=some y0/\xs=[.s (.sl 1 ((List.map zBM) a0)),.s (.str a1)]/\r = .val (.s (.bool y0))
def zLP:zAp:=zAr fun xs r=>∃ n,zQT n xs r
theorem zNG:PSound Try.prog 46 zLP:=by
 have gok:=@gok0 Try.prog;refine zAw tokW Try.call46 Try.func46 rfl (fun xs r h=>by obtain⟨n,_,_,_,_,rfl,_⟩:=h; show 2<=18; decide) 18 rfl ?_;rintro xs r w0 G0 ⟨n,l1,s2,y0,h,rfl,rfl⟩ _;rw[zDA]at h;refine zSV ?_;refine zAa ?_;refine zSV ?_;show Tri ..;obtain⟨fl,hl,ho1⟩:=zAc h;refine zDf (fl:=fl) (fun z=>match z with | _=>⟨ofL [],fun _=>none,0⟩) ?_ (fun z σ' hz hle=>?_)
 ·refine zAi (zAz (X:=Nat×Int) (fun y=>match y with | (k,i3)=>⟨ofL [(0,.s (.sl 1 ((List.map zBM) l1))),(1,.s (.str s2)),(5,.s (.int .i64 i3))],fun _=>none,0⟩) (fun y=>zCl l1 s2 y.1 y.2=some fl) (fun y=>y.1) (n,0) hl ?_ ?_)
  ·exact(Le.forget _ ⟨rfl,rfl,rfl,trivial⟩)
  ·rintro⟨k,i3⟩ h;cases k with
   | zero=>cases h
   | succ k =>
    replace h:zCl l1 s2 (k+1) i3=some fl:=h;rw[zCl]at h;refine zAa ?_;refine zSg [] [8] rfl ?_;intro n4 hn4;obtain rfl:(l1.length:Int)=n4:=(hn4.trans (congrArg (fun m:Nat=>(m:Int)) (rlen (fun _=>rfl) l1))).symm;refine zAj rfl h (fun hb h=>?_) (fun hb h=>?_)
    ·refine zAe ?_;refine zAa ?_;refine zAi ?_;refine zSg [] [14] rfl ?_;obtain⟨e5,he5,h⟩:=zAc h;refine And.intro (zAO (fun _=>rfl) he5).1 ?_;intro r6 hr6;obtain rfl:[.str e5]=r6:=(hr6.trans (zAO (fun _=>rfl) he5).2.1).symm;refine zAj rfl h (fun hb h=>?_) (fun hb h=>?_)
     ·refine zSV ?_;refine zAg ?_;cases h;replace h:some _=some _:=ho1;have hy:=osi h;subst hy;exact fin0 rfl rfl
     ·refine zAe ?_;refine zSU ?_;refine⟨(k,IntKind.i64.wrap (i3+1)),h,(Le.forget _ ⟨rfl,rfl,rfl,trivial⟩),Nat.lt_succ_self k⟩
    ·refine zAx ?_;cases h;exact⟨_,rfl,(Le.forget _ trivial)⟩
 ·subst hz;obtain _:=z;replace h:=ho1;refine zAk hle ?_;refine zSV ?_;refine zAg ?_;have hy:=osi h;subst hy;exact fin0 rfl rfl
def zLN (xs:List AV) (r:Ret):Prop:=∃ (y0:List (List UInt8)),zCx=some y0/\xs=[]/\r = .val (.s (.sl 1 ((List.map zBM) y0)))
def zFy:zAp:=zAr fun xs r=>zLN xs r
theorem zG2:PSound Try.prog 47 zFy:=by
 have gok:=@gok0 Try.prog;refine zAw tokW Try.call47 Try.func47 rfl (fun xs r h=>by obtain⟨_,_,rfl,_⟩:=h; show 0<=2; decide) 2 rfl ?_;rintro xs r w0 G0 ⟨y0,h,rfl,rfl⟩ _;rw[zCx]at h;refine zSV ?_;refine zSg [] [1] rfl ?_;intro r1 hr1;obtain rfl:(List.map zBM) [[104,97,116],[98,97,114],[118,101,99],[100,111,116],[116,105,108,100,101],[99,104,101,99,107]]=r1:=(hr1.trans zSH).symm
 refine zAg ?_;have hy:=osi h;subst hy;exact fin0 rfl rfl
def zMW (n:Nat) (xs:List AV) (r:Ret):Prop:=∃ (a0:List UInt8) (y0:Bool),zDP n a0=some y0/\xs=[.s (.str a0)]/\r = .val (.s (.bool y0))
def zIJ:zAp:=zAr fun xs r=>∃ n,zMW n xs r
theorem zMl:PSound Try.prog 43 zIJ:=by
 have gok:∀ f s,look? f [(63,zFW),(64,zFX),(65,zGS),(46,zLP),(47,zFy)]=some s->PSound Try.prog f s:=zAm (by
  simp only[List.forall_mem_cons]
  exact⟨zI7,zHT,zJ7,zNG,zG2,by simp⟩)
 refine zAw tokW Try.call43 Try.func43 rfl (fun xs r h=>by obtain⟨n,_,_,_,rfl,_⟩:=h; show 1<=41; decide) 41 rfl ?_;rintro xs r w0 G0 ⟨n,s1,y0,h,rfl,rfl⟩ _;rw[zDP]at h;refine zSV ?_;refine zAa ?_;refine zSV ?_;refine zAj rfl h (fun hb h=>?_) (fun hb h=>?_)
 ·refine zSg [] [8] rfl ?_;obtain⟨c2,hc2,h⟩:=zAc h;refine And.intro (zA3 hc2).1 ?_;intro v3 hv3;obtain rfl:(c2.toNat:Int)=v3:=(hv3.trans (zA3 hc2).2).symm;obtain⟨y4,hy4,h⟩:=zAc h;refine⟨_,⟨_,_,_,hy4,rfl,rfl⟩,?_⟩
  refine zAg ?_;have hy:=osi h;subst hy;exact fin0 rfl rfl
 ·refine zAe ?_;refine zAa ?_;refine zSV ?_;show Tri ..;obtain⟨fl,hl,ho1⟩:=zAc h;refine zDf (fl:=fl) (fun z=>match z with | _=>⟨ofL [(0,.s (.str s1))],fun _=>none,0⟩) ?_ (fun z σ' hz hle=>?_)
  ·refine zAi (zAz (X:=Nat×Int) (fun y=>match y with | (k,i5)=>⟨ofL [(0,.s (.str s1)),(3,.s (.int .i64 i5))],fun _=>none,0⟩) (fun y=>zA1 s1 y.1 y.2=some fl) (fun y=>y.1) (n,0) hl ?_ ?_)
   ·exact(Le.forget _ ⟨rfl,rfl,trivial⟩)
   ·rintro⟨k,i5⟩ h;cases k with
    | zero=>cases h
    | succ k =>
     replace h:zA1 s1 (k+1) i5=some fl:=h;rw[zA1]at h;refine zAa ?_;refine zSV ?_;refine zAj rfl h (fun hb h=>?_) (fun hb h=>?_)
     ·refine zAe ?_;refine zAa ?_;refine zAi ?_;refine zSg [] [18] rfl ?_;obtain⟨c6,hc6,h⟩:=zAc h;refine And.intro (zA3 hc6).1 ?_;intro v7 hv7;obtain rfl:(c6.toNat:Int)=v7:=(hv7.trans (zA3 hc6).2).symm;obtain⟨y8,hy8,h⟩:=zAc h;refine⟨_,⟨_,_,hy8,rfl,rfl⟩,?_⟩
      refine zAj rfl h (fun hb h=>?_) (fun hb h=>?_)
      ·refine zSV ?_;refine zAg ?_;cases h;replace h:some _=some _:=ho1;have hy:=osi h;subst hy;exact fin0 rfl rfl
      ·refine zAe ?_;refine zSU ?_;refine⟨(k,IntKind.i64.wrap (i5+1)),h,(Le.forget _ ⟨rfl,rfl,trivial⟩),Nat.lt_succ_self k⟩
     ·refine zAx ?_;cases h;exact⟨_,rfl,(Le.forget _ ⟨rfl,trivial⟩)⟩
  ·subst hz;obtain _:=z;replace h:=ho1;refine zAk hle ?_;refine zAa ?_;obtain⟨x9,hj,h⟩:=zAc h;refine zAo ⟨ofL [(2,.s (.bool x9))],fun _=>none,0⟩ ?_ (fun σ' hle=>?_)
   ·replace h:=hj;refine zAb [] [24,29,35] rfl ?_;intro b hb;cases b with
    | true =>
     replace h:=zAu hb.symm h;intro b hb;cases b with
     | true =>
      replace h:=zAu hb.symm h;obtain⟨y10,hy10,h⟩:=zAc h;refine⟨_,⟨_,hy10,rfl,rfl⟩,?_⟩
      obtain⟨y11,hy11,h⟩:=zAc h;refine⟨_,⟨_,_,_,_,hy11,rfl,rfl⟩,?_⟩
      intro b hb;cases b with
      | true =>
       replace h:=zAu hb.symm h;obtain⟨y12,hy12,h⟩:=zAc h;refine⟨_,⟨_,hy12,rfl,rfl⟩,?_⟩
       obtain⟨y13,hy13,h⟩:=zAc h;refine⟨_,⟨_,_,_,_,hy13,rfl,rfl⟩,?_⟩
       cases h;exact(Le.forget _ ⟨rfl,trivial⟩)
      | false =>
       replace h:=zAt hb.symm h;cases h;exact(Le.forget _ ⟨rfl,trivial⟩)
     | false =>
      replace h:=zAt hb.symm h;intro b hb;subst hb;cases h;exact(Le.forget _ ⟨rfl,trivial⟩)
    | false =>
     replace h:=zAt hb.symm h;intro b hb;subst hb;intro b hb;subst hb;cases h;exact(Le.forget _ ⟨rfl,trivial⟩)
   ·refine zAk hle ?_;refine zAg ?_;have hy:=osi h;subst hy;exact fin0 rfl rfl
def zOc (xs:List AV) (r:Ret):Prop:=∃ (a0:Int) (y0:Bool),zEC a0=some y0/\xs=[.s (.int .u8 a0)]/\r = .val (.s (.bool y0))
def zJB:zAp:=zAr fun xs r=>zOc xs r
theorem zNE:PSound Try.prog 66 zJB:=by
 have gok:=@gok0 Try.prog;refine zAw tokW Try.call66 Try.func66 rfl (fun xs r h=>by obtain⟨_,_,_,rfl,_⟩:=h; show 1<=9; decide) 9 rfl ?_;rintro xs r w0 G0 ⟨c1,y0,h,rfl,rfl⟩ _;rw[zEC]at h;refine zSV ?_;refine zAa ?_;obtain⟨x2,hj,h⟩:=zAc h;refine zAo ⟨ofL [(2,.s (.bool x2))],fun _=>none,0⟩ ?_ (fun σ' hle=>?_)
 ·replace h:=hj;refine zAb [] [5] rfl ?_;intro b hb;cases b with
  | true =>
   replace h:=zAu hb.symm h;cases h;exact(Le.forget _ ⟨rfl,trivial⟩)
  | false =>
   replace h:=zAt hb.symm h;cases h;exact(Le.forget _ ⟨rfl,trivial⟩)
 ·refine zAk hle ?_;refine zAg ?_;have hy:=osi h;subst hy;exact fin0 rfl rfl
def zMU (n:Nat) (xs:List AV) (r:Ret):Prop:=∃ (a0:List UInt8) (y0:Bool),zDN n a0=some y0/\xs=[.s (.str a0)]/\r = .val (.s (.bool y0))
def zIH:zAp:=zAr fun xs r=>∃ n,zMU n xs r
theorem zMj:PSound Try.prog 44 zIH:=by
 have gok:∀ f s,look? f [(66,zJB)]=some s->PSound Try.prog f s:=zAm (by
  simp only[List.forall_mem_cons]
  exact⟨zNE,by simp⟩)
 refine zAw tokW Try.call44 Try.func44 rfl (fun xs r h=>by obtain⟨n,_,_,_,rfl,_⟩:=h; show 1<=45; decide) 45 rfl ?_;rintro xs r w0 G0 ⟨n,s1,y0,h,rfl,rfl⟩ _;rw[zDN]at h;refine zSV ?_;refine zSV ?_;refine zAa ?_;refine zSV ?_;show Tri ..;obtain⟨fl,hl,ho1⟩:=zAc h;refine zDf (fl:=fl) (fun z=>match z with | points4=>⟨ofL [(0,.s (.str s1)),(3,.s (.int .i64 points4))],fun _=>none,0⟩) ?_ (fun points4 σ' hz hle=>?_)
 ·refine zAi (zAz (X:=Nat×Int×Int) (fun y=>match y with | (k,points2,i3)=>⟨ofL [(0,.s (.str s1)),(3,.s (.int .i64 points2)),(4,.s (.int .i64 i3))],fun _=>none,0⟩) (fun y=>zBs s1 y.1 y.2.1 y.2.2=some fl) (fun y=>y.1) (n,0,0) hl ?_ ?_)
  ·exact(Le.forget _ ⟨rfl,rfl,rfl,trivial⟩)
  ·rintro⟨k,points2,i3⟩ h;cases k with
   | zero=>cases h
   | succ k =>
    replace h:zBs s1 (k+1) points2 i3=some fl:=h;rw[zBs]at h;refine zAa ?_;refine zSV ?_;refine zAj rfl h (fun hb h=>?_) (fun hb h=>?_)
    ·refine zAe ?_;refine zAa ?_;obtain⟨fl,hj,ho2⟩:=zAc h;refine zDf (fl:=fl) (fun z=>match z with | points5=>⟨ofL [(0,.s (.str s1)),(3,.s (.int .i64 points5)),(4,.s (.int .i64 i3))],fun _=>none,0⟩) ?_ (fun points5 σ' hz hle=>?_)
     ·replace h:=hj;refine zAi ?_;refine zAa ?_;obtain⟨x6,hj,h⟩:=zAc h;refine zAo ⟨ofL [(0,.s (.str s1)),(3,.s (.int .i64 points2)),(4,.s (.int .i64 i3)),(25,.s (.bool x6))],fun _=>none,0⟩ ?_ (fun σ' hle=>?_)
      ·replace h:=hj;refine zAb [] [13,15,19] rfl ?_;obtain⟨c7,hc7,h⟩:=zAc h;refine And.intro (zA3 hc7).1 ?_;intro v8 hv8;obtain rfl:(c7.toNat:Int)=v8:=(hv8.trans (zA3 hc7).2).symm;intro b hb;cases b with
       | true =>
        replace h:=zAu hb.symm h;intro b hb;cases b with
        | true =>
         replace h:=zAu hb.symm h;cases h;exact(Le.forget _ ⟨rfl,rfl,rfl,rfl,trivial⟩)
        | false =>
         replace h:=zAt hb.symm h;cases h;exact(Le.forget _ ⟨rfl,rfl,rfl,rfl,trivial⟩)
       | false =>
        replace h:=zAt hb.symm h;intro b hb;subst hb;cases h;exact(Le.forget _ ⟨rfl,rfl,rfl,rfl,trivial⟩)
      ·refine zAk hle ?_;refine zAj rfl h (fun hb h=>?_) (fun hb h=>?_)
       ·refine zSU ?_;cases h;exact⟨_,rfl,(Le.forget _ ⟨rfl,rfl,rfl,trivial⟩)⟩
       ·refine zSg [] [30] rfl ?_;obtain⟨c9,hc9,h⟩:=zAc h;refine And.intro (zA3 hc9).1 ?_;intro v10 hv10;obtain rfl:(c9.toNat:Int)=v10:=(hv10.trans (zA3 hc9).2).symm;obtain⟨y11,hy11,h⟩:=zAc h;refine⟨_,⟨_,_,hy11,rfl,rfl⟩,?_⟩
        refine zAj rfl h (fun hb h=>?_) (fun hb h=>?_)
        ·refine zSV ?_;refine zAg ?_;cases h;replace h:some _=some _:=ho2;cases h;replace h:some _=some _:=ho1;have hy:=osi h;subst hy;exact fin0 rfl rfl
        ·refine zAe ?_;cases h;exact⟨_,rfl,(Le.forget _ ⟨rfl,rfl,rfl,trivial⟩)⟩
     ·subst hz;replace h:=ho2;refine zAk hle ?_;refine zSU ?_;refine⟨(k,points5,IntKind.i64.wrap (i3+1)),h,(Le.forget _ ⟨rfl,rfl,rfl,trivial⟩),Nat.lt_succ_self k⟩
    ·refine zAx ?_;cases h;exact⟨_,rfl,(Le.forget _ ⟨rfl,rfl,trivial⟩)⟩
 ·subst hz;replace h:=ho1;refine zAk hle ?_;refine zAa ?_;obtain⟨x12,hj,h⟩:=zAc h;refine zAo ⟨ofL [(2,.s (.bool x12))],fun _=>none,0⟩ ?_ (fun σ' hle=>?_)
  ·replace h:=hj;refine zAb [] [36,41] rfl ?_;intro b hb;cases b with
   | true =>
    replace h:=zAu hb.symm h;intro b hb;cases b with
    | true =>
     replace h:=zAu hb.symm h;cases h;exact(Le.forget _ ⟨rfl,trivial⟩)
    | false =>
     replace h:=zAt hb.symm h;cases h;exact(Le.forget _ ⟨rfl,trivial⟩)
   | false =>
    replace h:=zAt hb.symm h;intro b hb;subst hb;cases h;exact(Le.forget _ ⟨rfl,trivial⟩)
  ·refine zAk hle ?_;refine zAg ?_;have hy:=osi h;subst hy;exact fin0 rfl rfl
def zJv (n:Nat) (xs:List AV) (r:Ret):Prop:=∃ (a0:List UInt8) (y0:Bool),zCm n a0=some y0/\xs=[.s (.str a0)]/\r = .val (.s (.bool y0))
def zFY:zAp:=zAr fun xs r=>∃ n,zJv n xs r
theorem zI8:PSound Try.prog 45 zFY:=by
 have gok:=@gok0 Try.prog;refine zAw tokW Try.call45 Try.func45 rfl (fun xs r h=>by obtain⟨n,_,_,_,rfl,_⟩:=h; show 1<=20; decide) 20 rfl ?_;rintro xs r w0 G0 ⟨n,s1,y0,h,rfl,rfl⟩ _;rw[zCm]at h;refine zSV ?_;refine zAa ?_;refine zSV ?_;show Tri ..;obtain⟨fl,hl,ho1⟩:=zAc h;refine zDf (fl:=fl) (fun z=>match z with | _=>⟨ofL [],fun _=>none,0⟩) ?_ (fun z σ' hz hle=>?_)
 ·refine zAi (zAz (X:=Nat×Int) (fun y=>match y with | (k,i2)=>⟨ofL [(0,.s (.str s1)),(3,.s (.int .i64 i2))],fun _=>none,0⟩) (fun y=>zAN s1 y.1 y.2=some fl) (fun y=>y.1) (n,0) hl ?_ ?_)
  ·exact(Le.forget _ ⟨rfl,rfl,trivial⟩)
  ·rintro⟨k,i2⟩ h;cases k with
   | zero=>cases h
   | succ k =>
    replace h:zAN s1 (k+1) i2=some fl:=h;rw[zAN]at h;refine zAa ?_;refine zSV ?_;refine zAj rfl h (fun hb h=>?_) (fun hb h=>?_)
    ·refine zAe ?_;refine zAa ?_;refine zAi ?_;refine zAa ?_;obtain⟨x3,hj,h⟩:=zAc h;refine zAo ⟨ofL [(0,.s (.str s1)),(3,.s (.int .i64 i2)),(19,.s (.bool x3))],fun _=>none,0⟩ ?_ (fun σ' hle=>?_)
     ·replace h:=hj;refine zAb [] [12,14,17] rfl ?_;obtain⟨c4,hc4,h⟩:=zAc h;refine And.intro (zA3 hc4).1 ?_;intro v5 hv5;obtain rfl:(c4.toNat:Int)=v5:=(hv5.trans (zA3 hc4).2).symm;intro b hb;cases b with
      | true =>
       replace h:=zAu hb.symm h;cases h;exact(Le.forget _ ⟨rfl,rfl,rfl,trivial⟩)
      | false =>
       replace h:=zAt hb.symm h;obtain⟨c6,hc6,h⟩:=zAc h;refine And.intro (zA3 hc6).1 ?_;intro v7 hv7;obtain rfl:(c6.toNat:Int)=v7:=(hv7.trans (zA3 hc6).2).symm;cases h;exact(Le.forget _ ⟨rfl,rfl,rfl,trivial⟩)
     ·refine zAk hle ?_;refine zAj rfl h (fun hb h=>?_) (fun hb h=>?_)
      ·refine zSV ?_;refine zAg ?_;cases h;replace h:some _=some _:=ho1;have hy:=osi h;subst hy;exact fin0 rfl rfl
      ·refine zAe ?_;refine zSU ?_;refine⟨(k,IntKind.i64.wrap (i2+1)),h,(Le.forget _ ⟨rfl,rfl,trivial⟩),Nat.lt_succ_self k⟩
    ·refine zAx ?_;cases h;exact⟨_,rfl,(Le.forget _ trivial)⟩
 ·subst hz;obtain _:=z;replace h:=ho1;refine zAk hle ?_;refine zSV ?_;refine zAg ?_;have hy:=osi h;subst hy;exact fin0 rfl rfl
def zPa (n:Nat) (xs:List AV) (r:Ret):Prop:=∃ (a0:Nd) (y0:Bool),zFp n a0=some y0/\xs=[.agg ((Nd.enc a0).map .s)]/\r = .val (.s (.bool y0))
def zK6:zAp:=zAr fun xs r=>∃ n,zPa n xs r
theorem zOu:PSound Try.prog 34 zK6:=by
 have gok:∀ f s,look? f [(43,zIJ),(44,zIH),(45,zFY),(47,zFy),(46,zLP),(48,zJE)]=some s->PSound Try.prog f s:=zAm (by
  simp only[List.forall_mem_cons]
  exact⟨zMl,zMj,zI8,zG2,zNG,zLn,by simp⟩)
 refine zAw tokW Try.call34 Try.func34 rfl (fun xs r h=>by obtain⟨n,_,_,_,rfl,_⟩:=h; show 1<=53; decide) 53 rfl ?_;rintro xs r w0 G0 ⟨n,⟨n1A,n1C,n1D,n1B⟩,y0,h,rfl,rfl⟩ _;rw[zFp]at h;refine zSV ?_;refine zAa ?_;refine zSV ?_;refine zAi ?_;refine zSV ?_;refine zAj rfl h (fun hb h=>?_) (fun hb h=>?_)
 ·refine zSV ?_;obtain⟨y2,hy2,h⟩:=zAc h;refine⟨_,⟨_,_,_,hy2,rfl,rfl⟩,?_⟩
  refine zAg ?_;have hy:=osi h;subst hy;exact fin0 rfl rfl
 ·refine zSV ?_;refine zAj rfl h (fun hb h=>?_) (fun hb h=>?_)
  ·refine zSV ?_;obtain⟨y3,hy3,h⟩:=zAc h;refine⟨_,⟨_,_,_,hy3,rfl,rfl⟩,?_⟩
   refine zAg ?_;have hy:=osi h;subst hy;exact fin0 rfl rfl
  ·refine zSV ?_;refine zAj rfl h (fun hb h=>?_) (fun hb h=>?_)
   ·refine zAa ?_;obtain⟨x4,hj,h⟩:=zAc h;refine zAo ⟨ofL [(2,.s (.bool x4))],fun _=>none,0⟩ ?_ (fun σ' hle=>?_)
    ·replace h:=hj;refine zAb [] [21] rfl ?_;intro b hb;cases b with
     | true =>
      replace h:=zAu hb.symm h;obtain⟨y5,hy5,h⟩:=zAc h;refine⟨_,⟨_,_,_,hy5,rfl,rfl⟩,?_⟩
      cases h;exact(Le.forget _ ⟨rfl,trivial⟩)
     | false =>
      replace h:=zAt hb.symm h;cases h;exact(Le.forget _ ⟨rfl,trivial⟩)
    ·refine zAk hle ?_;refine zAg ?_;have hy:=osi h;subst hy;exact fin0 rfl rfl
   ·refine zSV ?_;refine zAj rfl h (fun hb h=>?_) (fun hb h=>?_)
    ·refine zAa ?_;refine zBx [] [] [] rfl (by decide +kernel) ?_;obtain⟨y6,hy6,h⟩:=zAc h;refine⟨_,⟨_,hy6,rfl,rfl⟩,?_⟩
     obtain⟨y7,hy7,h⟩:=zAc h;refine⟨_,⟨_,_,_,_,hy7,rfl,rfl⟩,?_⟩
     refine zAg ?_;have hy:=osi h;subst hy;exact fin0 rfl rfl
    ·refine zSV ?_;refine zAj rfl h (fun hb h=>?_) (fun hb h=>?_)
     ·refine zAa ?_;obtain⟨x8,hj,h⟩:=zAc h;refine zAo ⟨ofL [(2,.s (.bool x8))],fun _=>none,0⟩ ?_ (fun σ' hle=>?_)
      ·replace h:=hj;refine zAb [] [38,41,44,47] rfl ?_;intro b hb;cases b with
       | true =>
        replace h:=zAu hb.symm h;obtain⟨c9,hc9,h⟩:=zAc h;refine And.intro (zA3 hc9).1 ?_;intro v10 hv10;obtain rfl:(c9.toNat:Int)=v10:=(hv10.trans (zA3 hc9).2).symm;obtain⟨y11,hy11,h⟩:=zAc h;refine⟨_,⟨_,_,_,_,hy11,rfl,rfl⟩,?_⟩
        intro b hb;cases b with
        | true =>
         replace h:=zAu hb.symm h;obtain⟨c12,hc12,h⟩:=zAc h;refine And.intro (zA3 hc12).1 ?_;intro v13 hv13;obtain rfl:(c12.toNat:Int)=v13:=(hv13.trans (zA3 hc12).2).symm;obtain⟨y14,hy14,h⟩:=zAc h;refine⟨_,⟨_,_,_,_,hy14,rfl,rfl⟩,?_⟩
         cases h;exact(Le.forget _ ⟨rfl,trivial⟩)
        | false =>
         replace h:=zAt hb.symm h;cases h;exact(Le.forget _ ⟨rfl,trivial⟩)
       | false =>
        replace h:=zAt hb.symm h;intro b hb;subst hb;cases h;exact(Le.forget _ ⟨rfl,trivial⟩)
      ·refine zAk hle ?_;refine zAg ?_;have hy:=osi h;subst hy;exact fin0 rfl rfl
     ·refine zAe ?_;refine zSV ?_;refine zAg ?_;have hy:=osi h;subst hy;exact fin0 rfl rfl
def zO9 (xs:List AV) (r:Ret):Prop:=∃ (a0:Nd) (y0:Bool),zFo a0=some y0/\xs=[.agg ((Nd.enc a0).map .s)]/\r = .val (.s (.bool y0))
def zK4:zAp:=zAr fun xs r=>zO9 xs r
theorem zOs:PSound Try.prog 35 zK4:=by
 have gok:=@gok0 Try.prog;refine zAw tokW Try.call35 Try.func35 rfl (fun xs r h=>by obtain⟨_,_,_,rfl,_⟩:=h; show 1<=64; decide) 64 rfl ?_;rintro xs r w0 G0 ⟨⟨n1A,n1C,n1D,n1B⟩,y0,h,rfl,rfl⟩ _;rw[zFo]at h;refine zSV ?_;refine zSg [] [6] rfl ?_;intro n2 hn2;obtain rfl:(n1B.length:Int)=n2:=(hn2.trans (congrArg (fun m:Nat=>(m:Int)) (rlen Nd.encs_eq n1B))).symm;refine zAa ?_;refine zSV ?_;refine zAj rfl h (fun hb h=>?_) (fun hb h=>?_)
 ·refine zAa ?_;obtain⟨x3,hj,h⟩:=zAc h;refine zAo ⟨ofL [(2,.s (.bool x3))],fun _=>none,0⟩ ?_ (fun σ' hle=>?_)
  ·replace h:=hj;refine zAb [] [13,18,22,26] rfl ?_;intro b hb;cases b with
   | true =>
    replace h:=zAu hb.symm h;intro b hb;cases b with
    | true =>
     replace h:=zAu hb.symm h;intro b hb;cases b with
     | true =>
      replace h:=zAu hb.symm h;intro b hb;cases b with
      | true =>
       replace h:=zAu hb.symm h;obtain⟨hq,h⟩:=zAy h;refine And.intro hq ?_;cases h;exact(Le.forget _ ⟨rfl,trivial⟩)
      | false =>
       replace h:=zAt hb.symm h;cases h;exact(Le.forget _ ⟨rfl,trivial⟩)
     | false =>
      replace h:=zAt hb.symm h;intro b hb;subst hb;cases h;exact(Le.forget _ ⟨rfl,trivial⟩)
    | false =>
     replace h:=zAt hb.symm h;intro b hb;subst hb;intro b hb;subst hb;cases h;exact(Le.forget _ ⟨rfl,trivial⟩)
   | false =>
    replace h:=zAt hb.symm h;intro b hb;subst hb;intro b hb;subst hb;intro b hb;subst hb;cases h;exact(Le.forget _ ⟨rfl,trivial⟩)
  ·refine zAk hle ?_;refine zAg ?_;have hy:=osi h;subst hy;exact fin0 rfl rfl
 ·refine zAe ?_;refine zAa ?_;refine zSV ?_;refine zAj rfl h (fun hb h=>?_) (fun hb h=>?_)
  ·refine zSV ?_;refine zAg ?_;have hy:=osi h;subst hy;exact fin0 rfl rfl
  ·refine zAe ?_;refine zAa ?_;refine zSV ?_;show Tri ..;obtain⟨fl,hj,ho1⟩:=zAc h;refine zDf (fl:=fl) (fun z=>match z with | _=>⟨ofL [],fun _=>none,0⟩) ?_ (fun z σ' hz hle=>?_)
   ·replace h:=hj;refine zAi ?_;refine zSV ?_;refine zAj rfl h (fun hb h=>?_) (fun hb h=>?_)
    ·refine zSV ?_;refine zAg ?_;cases h;replace h:some _=some _:=ho1;have hy:=osi h;subst hy;exact fin0 rfl rfl
    ·refine zAa ?_;refine zSV ?_;show Tri ..;obtain⟨x4,hj,h⟩:=zAc h;refine zAo ⟨ofL [(3,.s (.int .i64 (n1B.length:Int))),(37,.s (.int .i64 n1A)),(42,.s (.bool x4))],fun _=>none,0⟩ ?_ (fun σ' hle=>?_)
     ·replace h:=hj;refine zAj rfl h (fun hb h=>?_) (fun hb h=>?_)
      ·refine zAe ?_;cases h;exact(Le.forget _ ⟨rfl,rfl,rfl,trivial⟩)
      ·refine zSV ?_;refine zAj rfl h (fun hb h=>?_) (fun hb h=>?_)
       ·refine zAe ?_;cases h;exact(Le.forget _ ⟨rfl,rfl,rfl,trivial⟩)
       ·refine zSU ?_;cases h;exact(Le.forget _ ⟨rfl,rfl,rfl,trivial⟩)
     ·refine zAk hle ?_;refine zAj rfl h (fun hb h=>?_) (fun hb h=>?_)
      ·refine zSV ?_;refine zAg ?_;cases h;replace h:some _=some _:=ho1;have hy:=osi h;subst hy;exact fin0 rfl rfl
      ·refine zAa ?_;refine zSV ?_;show Tri ..;obtain⟨x5,hj,h⟩:=zAc h;refine zAo ⟨ofL [(3,.s (.int .i64 (n1B.length:Int))),(37,.s (.int .i64 n1A)),(48,.s (.bool x5))],fun _=>none,0⟩ ?_ (fun σ' hle=>?_)
       ·replace h:=hj;refine zAj rfl h (fun hb h=>?_) (fun hb h=>?_)
        ·refine zAe ?_;cases h;exact(Le.forget _ ⟨rfl,rfl,rfl,trivial⟩)
        ·refine zSV ?_;refine zAj rfl h (fun hb h=>?_) (fun hb h=>?_)
         ·refine zAe ?_;cases h;exact(Le.forget _ ⟨rfl,rfl,rfl,trivial⟩)
         ·refine zSV ?_;refine zAj rfl h (fun hb h=>?_) (fun hb h=>?_)
          ·refine zAe ?_;cases h;exact(Le.forget _ ⟨rfl,rfl,rfl,trivial⟩)
          ·refine zSU ?_;cases h;exact(Le.forget _ ⟨rfl,rfl,rfl,trivial⟩)
       ·refine zAk hle ?_;refine zAj rfl h (fun hb h=>?_) (fun hb h=>?_)
        ·refine zSV ?_;refine zAg ?_;cases h;replace h:some _=some _:=ho1;have hy:=osi h;subst hy;exact fin0 rfl rfl
        ·refine zSV ?_;refine zAj rfl h (fun hb h=>?_) (fun hb h=>?_)
         ·refine zSV ?_;refine zAg ?_;cases h;replace h:some _=some _:=ho1;have hy:=osi h;subst hy;exact fin0 rfl rfl
         ·refine zAa ?_;refine zSV ?_;show Tri ..;obtain⟨x6,hj,h⟩:=zAc h;refine zAo ⟨ofL [(3,.s (.int .i64 (n1B.length:Int))),(59,.s (.bool x6))],fun _=>none,0⟩ ?_ (fun σ' hle=>?_)
          ·replace h:=hj;refine zAj rfl h (fun hb h=>?_) (fun hb h=>?_)
           ·refine zAe ?_;cases h;exact(Le.forget _ ⟨rfl,rfl,trivial⟩)
           ·refine zSU ?_;cases h;exact(Le.forget _ ⟨rfl,rfl,trivial⟩)
          ·refine zAk hle ?_;refine zAj rfl h (fun hb h=>?_) (fun hb h=>?_)
           ·refine zSV ?_;refine zAg ?_;cases h;replace h:some _=some _:=ho1;have hy:=osi h;subst hy;exact fin0 rfl rfl
           ·refine zAe ?_;cases h;exact⟨_,rfl,(Le.forget _ trivial)⟩
   ·subst hz;obtain _:=z;replace h:=ho1;refine zAk hle ?_;refine zSV ?_;refine zAg ?_;have hy:=osi h;subst hy;exact fin0 rfl rfl
def zFf (n:Nat) (xs:List AV) (r:Ret):Prop:=∃ (a0:Nd) (y0:Bool),zCz n a0=some y0/\xs=[.agg ((Nd.enc a0).map .s)]/\r = .val (.s (.bool y0))
theorem zMB (n:Nat) (ih:PSound Try.prog 21 (zAr (zFf n))):PSound Try.prog 21 (zAr (zFf (n+1))):=by
 have gok:∀ f s,look? f [(34,zK6),(35,zK4),(21,zAr (zFf n))]=some s->PSound Try.prog f s:=zAm (by
  simp only[List.forall_mem_cons]
  exact⟨zOu,zOs,ih,by simp⟩)
 refine zAw tokW Try.call21 Try.func21 rfl (fun xs r h=>by obtain⟨_,_,_,rfl,_⟩:=h; show 1<=39; decide) 39 rfl ?_;rintro xs r w0 G0 ⟨⟨n1A,n1C,n1D,n1B⟩,y0,h,rfl,rfl⟩ _;rw[zCz]at h;refine zSV ?_;refine zAa ?_;refine zAa ?_;obtain⟨x2,hj,h⟩:=zAc h;refine zAo ⟨ofL [(1,.s (.pt [.int .i64 n1A,.str n1C,.int .i64 n1D,.sl 4 (Nd.encs n1B)])),(11,.s (.bool x2))],fun _=>none,0⟩ ?_ (fun σ' hle=>?_)
 ·replace h:=hj;refine zAb [] [7] rfl ?_;obtain⟨y3,hy3,h⟩:=zAc h;refine⟨_,⟨_,_,_,hy3,rfl,rfl⟩,?_⟩
  intro b hb;cases b with
  | true =>
   replace h:=zAu hb.symm h;cases h;exact(Le.forget _ ⟨rfl,rfl,trivial⟩)
  | false =>
   replace h:=zAt hb.symm h;obtain⟨y4,hy4,h⟩:=zAc h;refine⟨_,⟨_,_,hy4,rfl,rfl⟩,?_⟩
   cases h;exact(Le.forget _ ⟨rfl,rfl,trivial⟩)
 ·refine zAk hle ?_;refine zAj rfl h (fun hb h=>?_) (fun hb h=>?_)
  ·refine zSV ?_;refine zAg ?_;have hy:=osi h;subst hy;exact fin0 rfl rfl
  ·refine zAe ?_;refine zAa ?_;refine zSV ?_;show Tri ..;obtain⟨fl,hl,ho1⟩:=zAc h;refine zDf (fl:=fl) (fun z=>match z with | _=>⟨ofL [],fun _=>none,0⟩) ?_ (fun z σ' hz hle=>?_)
   ·refine zAi (zAz (X:=Nat×Int) (fun y=>match y with | (k,i5)=>⟨ofL [(1,.s (.pt [.int .i64 n1A,.str n1C,.int .i64 n1D,.sl 4 (Nd.encs n1B)])),(3,.s (.int .i64 i5))],fun _=>none,0⟩) (fun y=>zB0 (zCz n) n1A n1B y.1 y.2=some fl) (fun y=>y.1) (n,0) hl ?_ ?_)
    ·exact(Le.forget _ ⟨rfl,rfl,trivial⟩)
    ·rintro⟨k,i5⟩ h;cases k with
     | zero=>cases h
     | succ k =>
      replace h:zB0 (zCz n) n1A n1B (k+1) i5=some fl:=h;rw[zB0]at h;refine zAa ?_;refine zSg [] [15] rfl ?_;intro n6 hn6;obtain rfl:(n1B.length:Int)=n6:=(hn6.trans (congrArg (fun m:Nat=>(m:Int)) (rlen Nd.encs_eq n1B))).symm;refine zAj rfl h (fun hb h=>?_) (fun hb h=>?_)
      ·refine zAe ?_;refine zAa ?_;refine zAi ?_;refine zAa ?_;obtain⟨x7,hj,h⟩:=zAc h;refine zAo ⟨ofL [(1,.s (.pt [.int .i64 n1A,.str n1C,.int .i64 n1D,.sl 4 (Nd.encs n1B)])),(3,.s (.int .i64 i5)),(38,.s (.bool x7))],fun _=>none,0⟩ ?_ (fun σ' hle=>?_)
       ·replace h:=hj;refine zBx [] [22,30,34] [] rfl (by decide +kernel) ?_;obtain⟨⟨e8A,e8C,e8D,e8B⟩,he8,h⟩:=zAc h;refine And.intro (zAO Nd.encs_eq he8).1 ?_;intro r9 hr9;obtain rfl:[.int .i64 e8A,.str e8C,.int .i64 e8D,.sl 4 (Nd.encs e8B)]=r9:=(hr9.trans (zAO Nd.encs_eq he8).2.1).symm;intro b hb;cases b with
        | true =>
         replace h:=zAu hb.symm h;cases h;exact(Le.forget _ ⟨rfl,rfl,rfl,trivial⟩)
        | false =>
         replace h:=zAt hb.symm h;obtain⟨⟨e10A,e10C,e10D,e10B⟩,he10,h⟩:=zAc h;refine And.intro (zAO Nd.encs_eq he10).1 ?_;intro r11 hr11;obtain rfl:[.int .i64 e10A,.str e10C,.int .i64 e10D,.sl 4 (Nd.encs e10B)]=r11:=(hr11.trans (zAO Nd.encs_eq he10).2.1).symm;obtain⟨y12,hy12,h⟩:=zAc h;refine⟨_,⟨_,_,hy12,rfl,rfl⟩,?_⟩
         cases h;exact(Le.forget _ ⟨rfl,rfl,rfl,trivial⟩)
       ·refine zAk hle ?_;refine zAj rfl h (fun hb h=>?_) (fun hb h=>?_)
        ·refine zSV ?_;refine zAg ?_;cases h;replace h:some _=some _:=ho1;have hy:=osi h;subst hy;exact fin0 rfl rfl
        ·refine zAe ?_;refine zSU ?_;refine⟨(k,IntKind.i64.wrap (i5+1)),h,(Le.forget _ ⟨rfl,rfl,trivial⟩),Nat.lt_succ_self k⟩
      ·refine zAx ?_;cases h;exact⟨_,rfl,(Le.forget _ trivial)⟩
   ·subst hz;obtain _:=z;replace h:=ho1;refine zAk hle ?_;refine zSV ?_;refine zAg ?_;have hy:=osi h;subst hy;exact fin0 rfl rfl
theorem zM1:∀ n,PSound Try.prog 21 (zAr (zFf n)):=by
 intro n
 induction n with
 | zero=>exact zBL Try.call21 (fun xs r h=>by obtain⟨_,_,h,_⟩:=h; cases h)
 | succ n ih=>exact zMB n ih
def zK3:zAp:=zAr fun xs r=>∃ n,zFf n xs r
theorem zOr:PSound Try.prog 21 zK3:=zCB zM1
def zEm (n:Nat) (xs:List AV) (r:Ret):Prop:=∃ (a0:Nd) (y0:Int),zBX n a0=some y0/\xs=[.agg ((Nd.enc a0).map .s)]/\r = .val (.s (.int .i64 y0))
theorem zKW (n:Nat) (ih:PSound Try.prog 22 (zAr (zEm n))):PSound Try.prog 22 (zAr (zEm (n+1))):=by
 have gok:∀ f s,look? f [(22,zAr (zEm n))]=some s->PSound Try.prog f s:=zAm (by
  simp only[List.forall_mem_cons]
  exact⟨ih,by simp⟩)
 refine zAw tokW Try.call22 Try.func22 rfl (fun xs r h=>by obtain⟨_,_,_,rfl,_⟩:=h; show 1<=21; decide) 21 rfl ?_;rintro xs r w0 G0 ⟨⟨n1A,n1C,n1D,n1B⟩,y0,h,rfl,rfl⟩ _;rw[zBX]at h;refine zSV ?_;refine zSV ?_;refine zAa ?_;refine zSV ?_;show Tri ..;obtain⟨out4,hl,h⟩:=zAc h;refine zAo ⟨ofL [(3,.s (.int .i64 out4))],fun _=>none,0⟩ ?_ (fun σ' hle=>?_)
 ·refine zAi (zAz (X:=Nat×Int×Int) (fun y=>match y with | (k,out2,i3)=>⟨ofL [(1,.s (.pt [.int .i64 n1A,.str n1C,.int .i64 n1D,.sl 4 (Nd.encs n1B)])),(3,.s (.int .i64 out2)),(4,.s (.int .i64 i3))],fun _=>none,0⟩) (fun y=>zBJ (zBX n) n1B y.1 y.2.1 y.2.2=some out4) (fun y=>y.1) (n,1,0) hl ?_ ?_)
  ·exact(Le.forget _ ⟨rfl,rfl,rfl,trivial⟩)
  ·rintro⟨k,out2,i3⟩ h;cases k with
   | zero=>cases h
   | succ k =>
    replace h:zBJ (zBX n) n1B (k+1) out2 i3=some out4:=h;rw[zBJ]at h;refine zAa ?_;refine zSg [] [8] rfl ?_;intro n5 hn5;obtain rfl:(n1B.length:Int)=n5:=(hn5.trans (congrArg (fun m:Nat=>(m:Int)) (rlen Nd.encs_eq n1B))).symm;refine zAj rfl h (fun hb h=>?_) (fun hb h=>?_)
    ·refine zAe ?_;refine zAa ?_;refine zAi ?_;refine zAb [] [16] rfl ?_;obtain⟨⟨e6A,e6C,e6D,e6B⟩,he6,h⟩:=zAc h;refine And.intro (zAO Nd.encs_eq he6).1 ?_;intro r7 hr7;obtain rfl:[.int .i64 e6A,.str e6C,.int .i64 e6D,.sl 4 (Nd.encs e6B)]=r7:=(hr7.trans (zAO Nd.encs_eq he6).2.1).symm;obtain⟨y8,hy8,h⟩:=zAc h;refine⟨_,⟨_,_,hy8,rfl,rfl⟩,?_⟩
     refine zSU ?_;refine⟨(k,IntKind.i64.wrap (out2+y8),IntKind.i64.wrap (i3+1)),h,(Le.forget _ ⟨rfl,rfl,rfl,trivial⟩),Nat.lt_succ_self k⟩
    ·refine zAx ?_;cases h;exact(Le.forget _ ⟨rfl,trivial⟩)
 ·refine zAk hle ?_;refine zSV ?_;refine zAg ?_;have hy:=osi h;subst hy;exact fin0 rfl rfl
theorem zLR:∀ n,PSound Try.prog 22 (zAr (zEm n)):=by
 intro n
 induction n with
 | zero=>exact zBL Try.call22 (fun xs r h=>by obtain⟨_,_,h,_⟩:=h; cases h)
 | succ n ih=>exact zKW n ih
def zJz:zAp:=zAr fun xs r=>∃ n,zEm n xs r
theorem zNC:PSound Try.prog 22 zJz:=zCB zLR
def zEn (n:Nat) (xs:List AV) (r:Ret):Prop:=∃ (a0:Nd) (y0:Int),zBY n a0=some y0/\xs=[.agg ((Nd.enc a0).map .s)]/\r = .val (.s (.int .i64 y0))
theorem zKX (n:Nat) (ih:PSound Try.prog 23 (zAr (zEn n))):PSound Try.prog 23 (zAr (zEn (n+1))):=by
 have gok:∀ f s,look? f [(23,zAr (zEn n))]=some s->PSound Try.prog f s:=zAm (by
  simp only[List.forall_mem_cons]
  exact⟨ih,by simp⟩)
 refine zAw tokW Try.call23 Try.func23 rfl (fun xs r h=>by obtain⟨_,_,_,rfl,_⟩:=h; show 1<=22; decide) 22 rfl ?_;rintro xs r w0 G0 ⟨⟨n1A,n1C,n1D,n1B⟩,y0,h,rfl,rfl⟩ _;rw[zBY]at h;refine zSV ?_;refine zSV ?_;refine zAa ?_;refine zSV ?_;show Tri ..;obtain⟨out4,hl,h⟩:=zAc h;refine zAo ⟨ofL [(3,.s (.int .i64 out4))],fun _=>none,0⟩ ?_ (fun σ' hle=>?_)
 ·refine zAi (zAz (X:=Nat×Int×Int) (fun y=>match y with | (k,out2,i3)=>⟨ofL [(1,.s (.pt [.int .i64 n1A,.str n1C,.int .i64 n1D,.sl 4 (Nd.encs n1B)])),(3,.s (.int .i64 out2)),(4,.s (.int .i64 i3))],fun _=>none,0⟩) (fun y=>zBK (zBY n) n1B y.1 y.2.1 y.2.2=some out4) (fun y=>y.1) (n,0,0) hl ?_ ?_)
  ·exact(Le.forget _ ⟨rfl,rfl,rfl,trivial⟩)
  ·rintro⟨k,out2,i3⟩ h;cases k with
   | zero=>cases h
   | succ k =>
    replace h:zBK (zBY n) n1B (k+1) out2 i3=some out4:=h;rw[zBK]at h;refine zAa ?_;refine zSg [] [8] rfl ?_;intro n5 hn5;obtain rfl:(n1B.length:Int)=n5:=(hn5.trans (congrArg (fun m:Nat=>(m:Int)) (rlen Nd.encs_eq n1B))).symm;refine zAj rfl h (fun hb h=>?_) (fun hb h=>?_)
    ·refine zAe ?_;refine zAa ?_;refine zAi ?_;refine zAb [] [16] rfl ?_;obtain⟨⟨e6A,e6C,e6D,e6B⟩,he6,h⟩:=zAc h;refine And.intro (zAO Nd.encs_eq he6).1 ?_;intro r7 hr7;obtain rfl:[.int .i64 e6A,.str e6C,.int .i64 e6D,.sl 4 (Nd.encs e6B)]=r7:=(hr7.trans (zAO Nd.encs_eq he6).2.1).symm;obtain⟨y8,hy8,h⟩:=zAc h;refine⟨_,⟨_,_,hy8,rfl,rfl⟩,?_⟩
     refine zSU ?_;refine⟨(k,(if out2<y8 then y8 else out2),IntKind.i64.wrap (i3+1)),h,(Le.forget _ ⟨rfl,rfl,rfl,trivial⟩),Nat.lt_succ_self k⟩
    ·refine zAx ?_;cases h;exact(Le.forget _ ⟨rfl,trivial⟩)
 ·refine zAk hle ?_;refine zSV ?_;refine zAg ?_;have hy:=osi h;subst hy;exact fin0 rfl rfl
theorem zLS:∀ n,PSound Try.prog 23 (zAr (zEn n)):=by
 intro n
 induction n with
 | zero=>exact zBL Try.call23 (fun xs r h=>by obtain⟨_,_,h,_⟩:=h; cases h)
 | succ n ih=>exact zKX n ih
def zJA:zAp:=zAr fun xs r=>∃ n,zEn n xs r
theorem zND:PSound Try.prog 23 zJA:=zCB zLS
def zOd (n:Nat) (xs:List AV) (r:Ret):Prop:=∃ (a0:Nd) (y0:Bool),zED n a0=some y0/\xs=[.agg ((Nd.enc a0).map .s)]/\r = .val (.s (.bool y0))
def zJD:zAp:=zAr fun xs r=>∃ n,zOd n xs r
theorem zNH:PSound Try.prog 7 zJD:=by
 have gok:∀ f s,look? f [(21,zK3),(22,zJz),(23,zJA)]=some s->PSound Try.prog f s:=zAm (by
  simp only[List.forall_mem_cons]
  exact⟨zOr,zNC,zND,by simp⟩)
 refine zAw tokW Try.call7 Try.func7 rfl (fun xs r h=>by obtain⟨n,_,_,_,rfl,_⟩:=h; show 1<=20; decide) 20 rfl ?_;rintro xs r w0 G0 ⟨n,⟨n1A,n1C,n1D,n1B⟩,y0,h,rfl,rfl⟩ _;rw[zED]at h;refine zSV ?_;refine zAa ?_;obtain⟨x2,hj,h⟩:=zAc h;refine zAo ⟨ofL [(2,.s (.bool x2))],fun _=>none,0⟩ ?_ (fun σ' hle=>?_)
 ·replace h:=hj;refine zAb [] [6,10,15] rfl ?_;intro b hb;cases b with
  | true =>
   replace h:=zAu hb.symm h;obtain⟨y3,hy3,h⟩:=zAc h;refine⟨_,⟨_,_,_,hy3,rfl,rfl⟩,?_⟩
   intro b hb;cases b with
   | true =>
    replace h:=zAu hb.symm h;obtain⟨y4,hy4,h⟩:=zAc h;refine⟨_,⟨_,_,_,hy4,rfl,rfl⟩,?_⟩
    intro b hb;cases b with
    | true =>
     replace h:=zAu hb.symm h;obtain⟨y5,hy5,h⟩:=zAc h;refine⟨_,⟨_,_,_,hy5,rfl,rfl⟩,?_⟩
     cases h;exact(Le.forget _ ⟨rfl,trivial⟩)
    | false =>
     replace h:=zAt hb.symm h;cases h;exact(Le.forget _ ⟨rfl,trivial⟩)
   | false =>
    replace h:=zAt hb.symm h;intro b hb;subst hb;cases h;exact(Le.forget _ ⟨rfl,trivial⟩)
  | false =>
   replace h:=zAt hb.symm h;intro b hb;subst hb;intro b hb;subst hb;cases h;exact(Le.forget _ ⟨rfl,trivial⟩)
 ·refine zAk hle ?_;refine zAg ?_;have hy:=osi h;subst hy;exact fin0 rfl rfl
def zDm (n:Nat) (xs:List AV) (r:Ret):Prop:=∃ (a0:Nd) (a1:Nd) (y0:Bool),zBr n a0 a1=some y0/\xs=[.agg ((Nd.enc a0).map .s),.agg ((Nd.enc a1).map .s)]/\r = .val (.s (.bool y0))
def zCh (n:Nat) (xs:List AV) (r:Ret):Prop:=∃ (a0:List Nd) (a1:List Nd) (y0:Bool),zBO n a0 a1=some y0/\xs=[.s (.sl 4 (Nd.encs a0)),.s (.sl 4 (Nd.encs a1))]/\r = .val (.s (.bool y0))
theorem zKY (n:Nat) (ih_r09_Equal:PSound Try.prog 14 (zAr (zDm n))) (ih_r09_SameItems:PSound Try.prog 31 (zAr (zCh n))):PSound Try.prog 14 (zAr (zDm (n+1))):=by
 have gok:∀ f s,look? f [(31,zAr (zCh n))]=some s->PSound Try.prog f s:=zAm (by
  simp only[List.forall_mem_cons]
  exact⟨ih_r09_SameItems,by simp⟩)
 refine zAw tokW Try.call14 Try.func14 rfl (fun xs r h=>by obtain⟨_,_,_,_,rfl,_⟩:=h; show 2<=31; decide) 31 rfl ?_;rintro xs r w0 G0 ⟨⟨a1A,a1C,a1D,a1B⟩,⟨b2A,b2C,b2D,b2B⟩,y0,h,rfl,rfl⟩ _;rw[zBr]at h;refine zSV ?_;refine zAa ?_;obtain⟨x3,hj,h⟩:=zAc h;refine zAo ⟨ofL [(4,.s (.bool x3))],fun _=>none,0⟩ ?_ (fun σ' hle=>?_)
 ·replace h:=hj;refine zAb [] [10,17,24] rfl ?_;intro b hb;cases b with
  | true =>
   replace h:=zAu hb.symm h;intro b hb;cases b with
   | true =>
    replace h:=zAu hb.symm h;intro b hb;cases b with
    | true =>
     replace h:=zAu hb.symm h;obtain⟨y4,hy4,h⟩:=zAc h;refine⟨_,⟨_,_,_,hy4,rfl,rfl⟩,?_⟩
     cases h;exact(Le.forget _ ⟨rfl,trivial⟩)
    | false =>
     replace h:=zAt hb.symm h;cases h;exact(Le.forget _ ⟨rfl,trivial⟩)
   | false =>
    replace h:=zAt hb.symm h;intro b hb;subst hb;cases h;exact(Le.forget _ ⟨rfl,trivial⟩)
  | false =>
   replace h:=zAt hb.symm h;intro b hb;subst hb;intro b hb;subst hb;cases h;exact(Le.forget _ ⟨rfl,trivial⟩)
 ·refine zAk hle ?_;refine zAg ?_;have hy:=osi h;subst hy;exact fin0 rfl rfl
theorem zH3 (n:Nat) (ih_r09_Equal:PSound Try.prog 14 (zAr (zDm n))) (ih_r09_SameItems:PSound Try.prog 31 (zAr (zCh n))):PSound Try.prog 31 (zAr (zCh (n+1))):=by
 have gok:∀ f s,look? f [(14,zAr (zDm n))]=some s->PSound Try.prog f s:=zAm (by
  simp only[List.forall_mem_cons]
  exact⟨ih_r09_Equal,by simp⟩)
 refine zAw tokW Try.call31 Try.func31 rfl (fun xs r h=>by obtain⟨_,_,_,_,rfl,_⟩:=h; show 2<=27; decide) 27 rfl ?_;rintro xs r w0 G0 ⟨a1,b2,y0,h,rfl,rfl⟩ _;rw[zBO]at h;refine zSV ?_;refine zAa ?_;refine zSg [] [7,9] rfl ?_;intro n3 hn3;obtain rfl:(a1.length:Int)=n3:=(hn3.trans (congrArg (fun m:Nat=>(m:Int)) (rlen Nd.encs_eq a1))).symm;intro n4 hn4;obtain rfl:(b2.length:Int)=n4:=(hn4.trans (congrArg (fun m:Nat=>(m:Int)) (rlen Nd.encs_eq b2))).symm;refine zAj rfl h (fun hb h=>?_) (fun hb h=>?_)
 ·refine zSV ?_;refine zAg ?_;have hy:=osi h;subst hy;exact fin0 rfl rfl
 ·refine zAe ?_;refine zAa ?_;refine zSV ?_;show Tri ..;obtain⟨fl,hl,ho1⟩:=zAc h;refine zDf (fl:=fl) (fun z=>match z with | _=>⟨ofL [],fun _=>none,0⟩) ?_ (fun z σ' hz hle=>?_)
  ·refine zAi (zAz (X:=Nat×Int) (fun y=>match y with | (k,i5)=>⟨ofL [(0,.s (.sl 4 (Nd.encs a1))),(1,.s (.sl 4 (Nd.encs b2))),(5,.s (.int .i64 i5))],fun _=>none,0⟩) (fun y=>zA0 (zBr n) a1 b2 y.1 y.2=some fl) (fun y=>y.1) (n,0) hl ?_ ?_)
   ·exact(Le.forget _ ⟨rfl,rfl,rfl,trivial⟩)
   ·rintro⟨k,i5⟩ h;cases k with
    | zero=>cases h
    | succ k =>
     replace h:zA0 (zBr n) a1 b2 (k+1) i5=some fl:=h;rw[zA0]at h;refine zAa ?_;refine zSg [] [13] rfl ?_;intro n6 hn6;obtain rfl:(a1.length:Int)=n6:=(hn6.trans (congrArg (fun m:Nat=>(m:Int)) (rlen Nd.encs_eq a1))).symm;refine zAj rfl h (fun hb h=>?_) (fun hb h=>?_)
     ·refine zAe ?_;refine zAa ?_;refine zAi ?_;refine zAa ?_;refine zBx [] [19,23] [] rfl (by decide +kernel) ?_;obtain⟨⟨e7A,e7C,e7D,e7B⟩,he7,h⟩:=zAc h;refine And.intro (zAO Nd.encs_eq he7).1 ?_;intro r8 hr8;obtain rfl:[.int .i64 e7A,.str e7C,.int .i64 e7D,.sl 4 (Nd.encs e7B)]=r8:=(hr8.trans (zAO Nd.encs_eq he7).2.1).symm;obtain⟨⟨e9A,e9C,e9D,e9B⟩,he9,h⟩:=zAc h;refine And.intro (zAO Nd.encs_eq he9).1 ?_;intro r10 hr10
      obtain rfl:[.int .i64 e9A,.str e9C,.int .i64 e9D,.sl 4 (Nd.encs e9B)]=r10:=(hr10.trans (zAO Nd.encs_eq he9).2.1).symm;obtain⟨y11,hy11,h⟩:=zAc h;refine⟨_,⟨_,_,_,hy11,rfl,rfl⟩,?_⟩
      refine zAj rfl h (fun hb h=>?_) (fun hb h=>?_)
      ·refine zSV ?_;refine zAg ?_;cases h;replace h:some _=some _:=ho1;have hy:=osi h;subst hy;exact fin0 rfl rfl
      ·refine zAe ?_;refine zSU ?_;refine⟨(k,IntKind.i64.wrap (i5+1)),h,(Le.forget _ ⟨rfl,rfl,rfl,trivial⟩),Nat.lt_succ_self k⟩
     ·refine zAx ?_;cases h;exact⟨_,rfl,(Le.forget _ trivial)⟩
  ·subst hz;obtain _:=z;replace h:=ho1;refine zAk hle ?_;refine zSV ?_;refine zAg ?_;have hy:=osi h;subst hy;exact fin0 rfl rfl
theorem zKB:∀ n,PSound Try.prog 14 (zAr (zDm n))/\PSound Try.prog 31 (zAr (zCh n)):=by
 intro n
 induction n with
 | zero =>
  refine⟨?_,?_⟩
  ·exact zBL Try.call14 (fun xs r h=>by obtain⟨_,_,_,h,_⟩:=h; rw[zBr]at h; cases h)
  ·exact zBL Try.call31 (fun xs r h=>by obtain⟨_,_,_,h,_⟩:=h; rw[zBO]at h; cases h)
 | succ n ih =>
  obtain⟨ih_r09_Equal,ih_r09_SameItems⟩:=ih;exact⟨zKY n ih_r09_Equal ih_r09_SameItems,zH3 n ih_r09_Equal ih_r09_SameItems⟩
def zJC:zAp:=zAr fun xs r=>∃ n,zDm n xs r
theorem zNF:PSound Try.prog 14 zJC:=zCB (fun n=>(zKB n).1)
def zO7 (n:Nat) (xs:List AV) (r:Ret):Prop:=∃ (a0:Nd) (a1:List Int) (y0:Nd) (y1:Int),zCs n a0 a1=some (y0,y1)/\xs=[.agg ((Nd.enc a0).map .s),.s (.sl 1 (a1.map (irow .i64)))]/\r = .val (.tup [.agg ((Nd.enc y0).map .s),.s (.int .i64 y1)])
def zIb:zAp:=zAr fun xs r=>∃ n,zO7 n xs r
theorem zJ4:PSound Try.prog 57 zIb:=by
 have gok:∀ f s,look? f [(24,zBj),(75,zJy),(25,zBq)]=some s->PSound Try.prog f s:=zAm (by
  simp only[List.forall_mem_cons]
  exact⟨zBi,zNB,zBl,by simp⟩)
 refine zAw tokW Try.call57 Try.func57 rfl (fun xs r h=>by obtain⟨n,_,_,_,_,_,rfl,_⟩:=h; show 2<=_; decide) _ rfl ?_;rintro xs r w0 G0 ⟨f,⟨k,t,c,ks⟩,p,y0,y1,h,rfl,rfl⟩ _;rw[zCs]at h;obtain⟨b,hb,h⟩:=zAc h;refine zSg [4] [] rfl ?_;refine zAa ?_;refine zSV ?_;refine⟨_,⟨f,_,_,hb,rfl,rfl⟩,?_⟩
 show Tri ..;cases b with
 | false =>
  refine zAl rfl (fun _=>?_) (fun h=>by cases h)
  refine zSV ?_;refine zAg ?_;obtain⟨rfl,rfl⟩:=Prod.mk.inj (Option.some.inj h)
  unfold zCQ;exact⟨_,Le.refl _ _,rfl,rfl⟩
 | true =>
  refine zAl rfl (fun h=>by cases h) (fun _=>?_)
  refine zAe ?_;show Tri ..;replace h:(match zBc (.mk k t c ks) p with | some r=>(zAE r).bind fun r=>some (r,0) | none=>some (zDg,8))=some (y0,y1):=h;refine zSV ?_;cases hf:zBc (.mk k t c ks) p with
  | none =>
   rw[hf]at h;refine⟨.val (.tup [.junk,.s (.bool false)]),⟨.mk k t c ks,p,rfl,by rw[hf]; rfl⟩,?_⟩
   refine zAa ?_;refine zSV ?_;refine zAl rfl (fun _=>?_) (fun h=>by cases h)
   refine zSV ?_;refine zAg ?_;obtain⟨rfl,rfl⟩:=Prod.mk.inj (Option.some.inj h)
   unfold zCQ;exact⟨_,Le.refl _ _,rfl,rfl⟩
  | some z =>
   obtain⟨k2,t2,c2,ks2⟩:=z;rw[hf]at h;refine⟨.val (.tup [.s (.pt (Nd.enc (.mk k2 t2 c2 ks2))),.s (.bool true)]),⟨.mk k t c ks,p,rfl,by rw[hf]; rfl⟩,?_⟩
   refine zAa ?_;refine zSV ?_;refine zAl rfl (fun h=>by cases h) (fun _=>?_)
   refine zAe ?_;show Tri ..;obtain⟨⟨k3,t3,c3,ks3⟩,hd,h⟩:=zAc h;obtain⟨rfl,rfl⟩:=Prod.mk.inj (Option.some.inj h)
   refine zSV ?_;refine⟨_,⟨_,_,hd,rfl,rfl⟩,?_⟩
   refine zAg ?_;unfold zCQ;exact⟨_,Le.refl _ _,rfl,rfl⟩
theorem zQJ {T:Nat->Option TI}{own:Bool}{o:Oper}{σ:St}{e t e0:Nat}{args:Array Operand}{ts:Array Nat}{y:Operand}{v:AV}{ks:List Nd}{keys:List Nat} (hv:VAt σ.hp e v ks keys) (ho:o.op = .call { callee:=.builtin .len,args:=args,argTypes:=ts }) (ha:args.toList=[y]) (hts:ts.toList=[t]) (ht:tk T t = .slice e0)
  (hy:opd T σ.env t y=v):step1 T own o σ=some (none,.s (.int .i64 (ks.length:Int)),σ):=by
 rcases hv with ⟨rfl,rfl,_⟩ | ⟨q,rows,keys',w,rfl,hq,hlen,_,_⟩
 ·have e1:zBw T own o σ.env=some (none,.s (.int .i64 0)) :=(by simp only[zBw,ho,ha,hts,pLen,ht,hy]; rfl);simp only[step1,e1]; rfl
 ·rw[zKr ho ha hts ht hy hq,hlen]
theorem zQx {k c:Int}{tx:List UInt8}{ks:List Nd}{k2 c2:Int}{tx2:List UInt8}{ks2:List Nd}{z r:Nd}{i s:Int}{p:List Int} (hx:ks[i.toNat]? = some (.mk k2 tx2 c2 ks2)) (hz:ks2[s.toNat]? = some z) :
  putL (.mk k tx c ks) (i::s::p) r = .mk k tx c (ks.set i.toNat (.mk k2 tx2 c2 (ks2.set s.toNat (putL z p r)))):=by
 rw[putL,hx]
 simp only[hz]
theorem Hole.here {hp:Nat->Option Ob}{e:Nat}{p p1:AV}{y:Nd}{keys:List Nat}{F:Nd->Nd} (hn:(zAP p::keys).Nodup) (h:Hole hp e p keys p1 y F):∃ keys0 w0,At hp e p1 y keys0 [] w0/\isL 4 p1/\(zAP p1::keys0).Nodup:=by
 obtain⟨keys0,rest,w0,a1,a2,a3,a4,_⟩:=h;obtain⟨hb,hnk⟩:=List.nodup_cons.1 hn;obtain⟨n0,n1,n01⟩:=List.nodup_append.1 (a1.nodup_iff.1 hnk)
 refine⟨keys0,w0,a2,a3,List.nodup_cons.2 ⟨fun hm=>?_,n0⟩⟩
 rcases a4 with rfl | a4
 ·exact hb (a1.mem_iff.2 (List.mem_append_left _ hm))
 ·exact n01 _ hm _ a4 rfl
theorem Hole.step {hp:Nat->Option Ob}{e q i:Nat}{p p1:AV}{k c:Int}{tx:List UInt8}{ks:List Nd}{x:Nd}{keys:List Nat}{F:Nd->Nd} (hn:(zAP p::keys).Nodup) (h:Hole hp e p keys p1 (.mk k tx c ks) F) (hx:ks[i]? = some x) (hc:zAA hp p1=some (zAK k tx c (.orow q))) :
  Hole hp e p keys (.rp q 4 i 0) x (fun r=>F (.mk k tx c (ks.set i r))) :=
 Hole.trans hn h fun keys0 w0 ha hl hn0=>by
  obtain⟨b,rows,h1,_,_,h4⟩:=Hole.kid ha hl hn0 hx;rw[hc]at h1;have:q=b :=(by simpa [zAK] using h1);rw[this]; exact h4
theorem zRj {t r:Nd}:putL t [] r=r:=by cases t; rfl
def zMK (xs:List AV) (hp:Nat->Option Ob) (n:Nat) (Φ:AV->(Nat->Option Ob)->Nat->Prop):Prop :=
 ∃ (p:AV) (t:Nd) (path:List Int) (keys:List Nat) (w:Nat),xs=[p,.s (.sl 1 (path.map (irow .i64)))]/\isL 4 p/\At hp 24 p t keys [] w/\(zAP p::keys).Nodup /\
  (zBc t path=none->Φ (.tup [.junk,.s (.bool false)]) hp n)/\∀ p1 y F,zBc t path=some y->Hole hp 24 p keys p1 y F->(∀ r,putL t path r=F r)->Φ (.tup [p1,.s (.bool true)]) hp n
def zJp:zAp:=zL2 zMK
set_option maxHeartbeats 600000 in
theorem zL1:PSound Try.prog 75 zJp:=by
 have gok:=@gok0 Try.prog;refine zLe tokW Try.call75 Try.func75 rfl (fun xs hp n Φ h=>by obtain⟨_,_,_,_,_,rfl,_⟩:=h; show 2<=_; decide) _ rfl ?_;rintro xs hp n Φ w0 G0 B0 ⟨p0,t0,path0,keys,w,rfl,hl0,hat,hnd,hΦ1,hΦ2⟩ _ hhp;refine zSV ?_;refine zAa ?_;refine zAi (zAz (X:=AV×Nd×List Int×(Nd->Nd)) (fun x=>match x with | (p,y,q,F)=>⟨ofL [(0,p),(1,.s (.sl 1 (q.map (irow .i64)))),(4,.s .np),(5,.s (.bool false))],hp,n⟩)
  (fun x=>match x with | (p,y,q,F)=>zBc t0 path0=zBc y q/\Hole hp 24 p0 keys p y F/\∀ r,putL t0 path0 r=F (putL y q r)) (fun x=>match x with | (p,y,q,F)=>q.length) (p0,t0,path0,id) ⟨rfl,Hole.refl hat hl0,fun _=>rfl⟩ (Le.forget [(0,p0),(1,.s (.sl 1 (path0.map (irow .i64)))),(4,.s .np),(5,.s (.bool false))] ⟨rfl,rfl,rfl,rfl,trivial⟩) ?_)
 rintro⟨p,⟨k,t,c,ks⟩,q,F⟩ hI;have hI:zBc t0 path0=zBc (.mk k t c ks) q/\Hole hp 24 p0 keys p (.mk k t c ks) F/\∀ r,putL t0 path0 r=F (putL (.mk k t c ks) q r):=hI
 obtain⟨hI1,hI2,hI3⟩:=hI;have hlp:isL 4 p :=(by obtain⟨_,_,_,_,_,h,_⟩:=hI2; exact h);refine zAa ?_;refine zSV ?_;refine zAl rfl (fun hb=>?_) (fun hb=>?_)
 ·refine zAe ?_;show Tri ..
  match q,hI1,hI3,hb with
  | [],_,_,hb=>cases hb
  | [_],_,_,hb=>cases hb
  | i::s::q,hI1,hI3,hb =>
   refine zAk (Le.forgetH [(0,p),(1,.s (.sl 1 ((i::s::q).map (irow .i64)))),(4,.s .np),(5,.s (.bool false))] hp n ⟨rfl,rfl,rfl,rfl,trivial⟩ (fun _=>rfl) rfl) ?_;refine zAa ?_;refine zAi ?_;refine zAa ?_;refine zH4 (by exact tokW) (by exact gok) (by exact mixed) [] [] [1,2,4,5] rfl (by decide +kernel) ?_;refine And.intro (show(0:Int)<=0/\(0:Int)<((((i::s::q).map (irow .i64)).length:Nat):Int) by simp only[List.map_cons,List.length_cons]; omega) ?_;refine And.intro (show(0:Int)<=1/\(1:Int)<((((i::s::q).map (irow .i64)).length:Nat):Int) by simp only[List.map_cons,List.length_cons]; omega) ?_;show Tri ..
   refine zAk (Le.forgetH [(0,p),(1,.s (.sl 1 ((i::s::q).map (irow .i64)))),(4,.s .np),(5,.s (.bool false)),(6,.s (.int .i64 i)),(7,.s (.int .i64 s))] hp n ⟨rfl,rfl,rfl,rfl,rfl,rfl,trivial⟩ (fun _=>rfl) rfl) ?_;refine zAa ?_;refine zAa ?_
   by_cases hi:i<0
   ·refine zAb [] [21] rfl ?_;intro b hb;obtain rfl:true=b:=(hb.trans (decide_eq_true hi)).symm;refine zAl rfl (fun _=>?_) (fun h=>by cases h)
    refine zSV ?_;refine zAg ?_;unfold zGM;exact⟨_,Le.forget [(5,.s (.bool false))] ⟨rfl,trivial⟩,_,rfl,hΦ1 (hI1.trans (zFz (fun h=>by omega)))⟩
   obtain⟨keys1,w1,hat1,_,hnd1⟩:=hI2.here hnd;obtain⟨v,hcv,hv⟩:=hat1.full;refine zSU ?_;refine zAd rfl rfl rfl rfl rfl rfl trivial ?_;refine zAd rfl rfl rfl rfl rfl rfl trivial ?_;rw[show decide (i<0)=false from decide_eq_false hi]
   refine zAd rfl rfl rfl rfl rfl rfl trivial ?_;refine zCe (g:=22) rfl rfl rfl ?_;refine zAd rfl rfl rfl rfl rfl rfl trivial ?_;refine zCe (g:=22) rfl rfl rfl ?_;refine zAd rfl rfl rfl rfl rfl (zCd hlp (.inr rfl) rfl rfl) trivial ?_;refine zCe (g:=22) rfl rfl rfl ?_;refine zAd rfl rfl rfl rfl rfl (zDw hlp rfl rfl) trivial ?_;refine zCe (g:=22) rfl rfl rfl ?_;refine zAd rfl rfl rfl rfl rfl (zDZ hlp rfl rfl rfl rfl rfl rfl rfl) trivial ?_;refine zCe (g:=22) rfl rfl rfl ?_;refine zCM (off:=3) (sz:=4) rfl rfl rfl rfl rfl rfl rfl hlp rfl hcv rfl ?_;refine zCe (g:=22) rfl rfl rfl ?_
   refine zAd rfl rfl rfl rfl rfl (zQJ hv rfl rfl rfl rfl rfl) trivial ?_;refine zCe (g:=22) rfl rfl rfl ?_;refine zAd rfl rfl rfl rfl rfl rfl trivial ?_
   by_cases hi2:(ks.length:Int)<=i
   ·rw[show decide ((ks.length:Int)<=i)=true from decide_eq_true hi2]
    refine zAd rfl rfl rfl rfl rfl rfl trivial ?_;refine zAl rfl (fun _=>?_) (fun h=>by cases h)
    refine zSV ?_;refine zAg ?_;unfold zGM;exact⟨_,Le.forget [(5,.s (.bool false))] ⟨rfl,trivial⟩,_,rfl,hΦ1 (hI1.trans (zFz (n:=.mk k t c ks) (fun h=>by have:i<(ks.length:Int):=h.2; omega)))⟩
   rw[show decide ((ks.length:Int)<=i)=false from decide_eq_false hi2]
   refine zAd rfl rfl rfl rfl rfl rfl trivial ?_;refine zAl rfl (fun h=>by cases h) (fun _=>?_)
   refine zAe ?_;show Tri ..;have hi0:i.toNat<ks.length :=(by omega);obtain⟨⟨k2,t2,c2,ks2⟩,hx⟩:∃ x,ks[i.toNat]? = some x:=⟨_,List.getElem?_eq_getElem hi0⟩
   obtain⟨b1,rows1,hc1,hr1,hlen1,hole1⟩:=Hole.kid hat1 hlp hnd1 hx;refine zAk (Le.forgetH [(0,p),(1,.s (.sl 1 ((i::s::q).map (irow .i64)))),(4,.s .np),(5,.s (.bool false)),(6,.s (.int .i64 i)),(7,.s (.int .i64 s))] hp n ⟨rfl,rfl,rfl,rfl,rfl,rfl,trivial⟩ (fun _=>rfl) rfl) ?_;refine zSV ?_;refine zAd rfl rfl rfl rfl rfl (zCd hlp (.inr rfl) rfl rfl) trivial ?_;refine zAd rfl rfl rfl rfl rfl (zDw hlp rfl rfl) trivial ?_;refine zAd rfl rfl rfl rfl rfl (zDZ hlp rfl rfl rfl rfl rfl rfl rfl) trivial ?_;refine zCM (off:=3) (sz:=4) rfl rfl rfl rfl rfl rfl rfl hlp rfl hc1 rfl ?_
   refine zAd rfl rfl rfl rfl rfl rfl trivial ?_;refine zAd rfl rfl rfl rfl rfl (zMy rfl rfl rfl rfl rfl rfl hr1 rfl) ⟨by omega,by rw[hlen1]; omega⟩ ?_;refine zAd rfl rfl rfl rfl rfl rfl trivial ?_;refine zAk (Le.forgetH [(0,p),(1,.s (.sl 1 ((i::s::q).map (irow .i64)))),(4,.s .np),(5,.s (.bool false)),(6,.s (.int .i64 i)),(7,.s (.int .i64 s)),(8,.rp b1 4 i.toNat 0)] hp n ⟨rfl,rfl,rfl,rfl,rfl,rfl,rfl,trivial⟩ (fun _=>rfl) rfl) ?_;refine zAa ?_;refine zAa ?_
   by_cases hs:s<0
   ·refine zAb [] [38] rfl ?_;intro b hb;obtain rfl:true=b:=(hb.trans (decide_eq_true hs)).symm;refine zAl rfl (fun _=>?_) (fun h=>by cases h)
    refine zSV ?_;refine zAg ?_;unfold zGM;exact⟨_,Le.forget [(5,.s (.bool false))] ⟨rfl,trivial⟩,_,rfl,hΦ1 (hI1.trans (zFA (n:=.mk k t c ks) (by omega) hx (fun h=>by omega)))⟩
   have hl2:isL 4 (.rp b1 4 i.toNat 0):=.inl ⟨b1,i.toNat,rfl⟩
   have hI4:=Hole.step hnd hI2 hx hc1;obtain⟨keys2,w2,hat2,_,hnd2⟩:=hI4.here hnd;obtain⟨v2,hcv2,hv2⟩:=hat2.full;refine zSU ?_;refine zAd rfl rfl rfl rfl rfl rfl trivial ?_;refine zAd rfl rfl rfl rfl rfl rfl trivial ?_;rw[show decide (s<0)=false from decide_eq_false hs]
   refine zAd rfl rfl rfl rfl rfl rfl trivial ?_;refine zCe (g:=39) rfl rfl rfl ?_;refine zAd rfl rfl rfl rfl rfl rfl trivial ?_;refine zCe (g:=39) rfl rfl rfl ?_;refine zAd rfl rfl rfl rfl rfl (zCd hl2 (.inr rfl) rfl rfl) trivial ?_;refine zCe (g:=39) rfl rfl rfl ?_;refine zAd rfl rfl rfl rfl rfl (zDw hl2 rfl rfl) trivial ?_;refine zCe (g:=39) rfl rfl rfl ?_;refine zAd rfl rfl rfl rfl rfl (zDZ hl2 rfl rfl rfl rfl rfl rfl rfl) trivial ?_;refine zCe (g:=39) rfl rfl rfl ?_;refine zCM (off:=3) (sz:=4) rfl rfl rfl rfl rfl rfl rfl hl2 rfl hcv2 rfl ?_;refine zCe (g:=39) rfl rfl rfl ?_
   refine zAd rfl rfl rfl rfl rfl (zQJ hv2 rfl rfl rfl rfl rfl) trivial ?_;refine zCe (g:=39) rfl rfl rfl ?_;refine zAd rfl rfl rfl rfl rfl rfl trivial ?_
   by_cases hs2:(ks2.length:Int)<=s
   ·rw[show decide ((ks2.length:Int)<=s)=true from decide_eq_true hs2]
    refine zAd rfl rfl rfl rfl rfl rfl trivial ?_;refine zAl rfl (fun _=>?_) (fun h=>by cases h)
    refine zSV ?_;refine zAg ?_;unfold zGM;exact⟨_,Le.forget [(5,.s (.bool false))] ⟨rfl,trivial⟩,_,rfl,hΦ1 (hI1.trans (zFA (n:=.mk k t c ks) (by omega) hx (fun h=>by have:s<(ks2.length:Int):=h.2; omega)))⟩
   rw[show decide ((ks2.length:Int)<=s)=false from decide_eq_false hs2]
   refine zAd rfl rfl rfl rfl rfl rfl trivial ?_;refine zAl rfl (fun h=>by cases h) (fun _=>?_)
   refine zAe ?_;show Tri ..;have hs0:s.toNat<ks2.length :=(by omega);obtain⟨z,hz⟩:∃ z,ks2[s.toNat]? = some z:=⟨_,List.getElem?_eq_getElem hs0⟩
   obtain⟨b2,rows2,hc2,hr2,hlen2,hole2⟩:=Hole.kid hat2 hl2 hnd2 hz;refine zAk (Le.forgetH [(0,p),(1,.s (.sl 1 ((i::s::q).map (irow .i64)))),(4,.s .np),(5,.s (.bool false)),(6,.s (.int .i64 i)),(7,.s (.int .i64 s)),(8,.rp b1 4 i.toNat 0)] hp n ⟨rfl,rfl,rfl,rfl,rfl,rfl,rfl,trivial⟩ (fun _=>rfl) rfl) ?_;refine zSU ?_;refine zAd rfl rfl rfl rfl rfl (zCd hl2 (.inr rfl) rfl rfl) trivial ?_;refine zAd rfl rfl rfl rfl rfl (zDw hl2 rfl rfl) trivial ?_;refine zAd rfl rfl rfl rfl rfl (zDZ hl2 rfl rfl rfl rfl rfl rfl rfl) trivial ?_;refine zCM (off:=3) (sz:=4) rfl rfl rfl rfl rfl rfl rfl hl2 rfl hc2 rfl ?_
   refine zAd rfl rfl rfl rfl rfl rfl trivial ?_;refine zAd rfl rfl rfl rfl rfl (zMy rfl rfl rfl rfl rfl rfl hr2 rfl) ⟨by omega,by rw[hlen2]; omega⟩ ?_;refine zAd rfl rfl rfl rfl rfl rfl trivial ?_;refine zAk (Le.forgetH [(0,.rp b2 4 s.toNat 0),(1,.s (.sl 1 ((i::s::q).map (irow .i64)))),(4,.s .np),(5,.s (.bool false))] hp n ⟨rfl,rfl,rfl,rfl,trivial⟩ (fun _=>rfl) rfl) ?_;refine zSU ?_;have h2l:(2:Int)<=((((i::s::q).map (irow .i64)).length:Nat):Int) :=(by simp only[List.map_cons,List.length_cons]; omega);refine zAd rfl rfl rfl rfl rfl rfl trivial ?_
   refine zAd rfl rfl rfl rfl rfl rfl ⟨by decide,h2l,Int.le_refl _⟩ ?_;refine zAd rfl rfl rfl rfl rfl rfl trivial ?_;have hI5:=Hole.step hnd hI4 hz hc2;refine⟨(.rp b2 4 s.toNat 0,z,q,fun r=>F (.mk k t c (ks.set i.toNat (.mk k2 t2 c2 (ks2.set s.toNat r))))),⟨?_,hI5,?_⟩,Le.forgetH [(0,.rp b2 4 s.toNat 0),(1,.s (.sl 1 (q.map (irow .i64)))),(4,.s .np),(5,.s (.bool false))] hp n ⟨rfl,congrArg (fun z=>AV.s (.sl 1 z)) ?_,rfl,rfl,trivial⟩ (fun _=>rfl) rfl,?_⟩
   ·exact hI1.trans (zLc (n:=.mk k t c ks) (by omega) hx (by omega) hz)
   ·intro r;exact(hI3 r).trans (congrArg F (zQx hx hz))
   ·show List.drop 2 (List.take ((((i::s::q).map (irow .i64)).length:Nat):Int).toNat ((i::s::q).map (irow .i64)))=_;rw[Int.toNat_natCast,List.take_length]; rfl
   ·show q.length<q.length+1+1
    omega
 ·refine zAx ?_;refine zAk (Le.forgetH [(0,p),(1,.s (.sl 1 (q.map (irow .i64)))),(4,.s .np),(5,.s (.bool false))] hp n ⟨rfl,rfl,rfl,rfl,trivial⟩ (fun _=>rfl) rfl) ?_;refine zSV ?_;refine zAd rfl rfl rfl rfl rfl (zCd hlp (.inr rfl) rfl rfl) trivial ?_
  match q,hI1,hI3,hb with
  | [],hI1,hI3,_ =>
   refine zAd rfl rfl rfl rfl rfl rfl trivial ?_;refine zAd rfl rfl rfl rfl rfl rfl trivial ?_;refine zAd rfl rfl rfl rfl rfl rfl trivial ?_;refine zAd rfl rfl rfl rfl rfl (zCd hlp (.inl rfl) rfl rfl) trivial ?_;refine zAd rfl rfl rfl rfl rfl rfl trivial ?_;refine zAg ?_;have hd:AV.deep p=p:=by rcases hlp with ⟨_,_,rfl⟩ | ⟨_,rfl⟩ <;> rfl
   unfold zGM;refine⟨_,Le.forget [(4,p),(5,.s (.bool true))] ⟨rfl,rfl,trivial⟩,.tup [p,.s (.bool true)],?_,hΦ2 p (.mk k t c ks) F (hI1.trans rfl) hI2 fun r=>(hI3 r).trans (by rw[zRj])⟩
   show some (AV.tup [AV.deep p,.s (.bool true)])=_;rw[hd]
  | [i],hI1,_,_ =>
   refine zAd rfl rfl rfl rfl rfl rfl trivial ?_;refine zAd rfl rfl rfl rfl rfl rfl trivial ?_;refine zAd rfl rfl rfl rfl rfl rfl trivial ?_;refine zAd rfl rfl rfl rfl rfl (zCd hlp (.inl rfl) rfl rfl) trivial ?_;refine zAd rfl rfl rfl rfl rfl rfl trivial ?_;refine zAg ?_;unfold zGM;exact⟨_,Le.forget [(5,.s (.bool false))] ⟨rfl,trivial⟩,_,rfl,hΦ1 (hI1.trans rfl)⟩
  | i::s::p,_,_,hb=>exact absurd (of_decide_eq_false hb) (by simp only[List.map_cons,List.length_cons]; omega)
theorem zGx {T:Nat->Option TI}{σ:St}{t ty q bt u:Nat}{i:TI}{cells:List AV} (h1:σ.env t = .op q 0) (h2:σ.hp q=some (.box bt cells)) (h3:T ty=some i) (ha:i.k.agg=true) (hz:i.size=cells.length):zIs T σ [.cell t ty,.tmp u]=some (.tup [AV.deep (.agg cells),(σ.env u).deep]):=by
 have hb:Nat.ble i.size cells.length=true :=(by rw[hz]; exact Nat.ble_eq_true_of_le (Nat.le_refl _));simp only[zIs,zGm,zNU,h1,h2,h3,ha,hb]
 rw[hz,List.take_length]
theorem Hole.base {hp:Nat->Option Ob}{e:Nat}{p p1:AV}{y:Nd}{keys:List Nat}{F:Nd->Nd} (h:Hole hp e p keys p1 y F):zAP p1=zAP p∨zAP p1∈keys:=by
 obtain⟨keys0,rest,w0,a1,a2,a3,a4,_⟩:=h;rcases a4 with rfl | a4
 ·exact .inl rfl
 ·exact .inr (a1.mem_iff.2 (List.mem_append_right _ a4))
theorem At.ofV {hp:Nat->Option Ob}{e:Nat}{p v:AV}{k c:Int}{t:List UInt8}{ks:List Nd}{keys:List Nat} (hc:zAA hp p=some (zAK k t c v)) (h:VAt hp e v ks keys):∃ w,At hp e p (.mk k t c ks) keys [] w:=by
 rcases h with ⟨rfl,rfl,rfl⟩ | ⟨q,rows,keys',w,rfl,h1,h2,rfl,h3⟩
 ·exact⟨0,by simp only[At]; exact⟨_,hc,.inr (.inl (by simp))⟩⟩
 ·exact⟨w,by simp only[At]; exact⟨_,hc,.inr (.inr ⟨q,rows,keys',rfl,h1,h2,rfl,h3⟩)⟩⟩
def zOa (n:Nat) (xs:List AV) (r:Ret):Prop:=∃ (a0:Nd) (a1:List Int) (a2:Nd) (y0:Nd) (y1:Int),zBW n a0 a1 a2=some (y0,y1)/\xs=[.agg ((Nd.enc a0).map .s),.s (.sl 1 (a1.map (irow .i64))),.agg ((Nd.enc a2).map .s)]/\r = .val (.tup [.agg ((Nd.enc y0).map .s),.s (.int .i64 y1)])
def zHc:zAp:=zAr fun xs r=>∃ n,zOa n xs r
set_option maxHeartbeats 600000 in
theorem zIU:PSound Try.prog 59 zHc:=by
 have gok:∀ f s,look? f [(24,zBj),(75,zJp),(25,zJo)]=some s->PSound Try.prog f s:=zAm (by
  simp only[List.forall_mem_cons]
  exact⟨zBi,zL1,zEb,by simp⟩)
 refine zAw tokW Try.call59 Try.func59 rfl (fun xs r h=>by obtain⟨n,_,_,_,_,_,_,rfl,_⟩:=h; show 3<=_; decide) _ rfl ?_;rintro xs r w0 G0 ⟨f,⟨k,t,c,ks⟩,path,⟨rk,rt,rc,rks⟩,y0,y1,h,rfl,rfl⟩ _;rw[zBW]at h;obtain⟨b,hb,h⟩:=zAc h;refine zSg [6] [] rfl ?_;refine zAa ?_;refine zSV ?_;refine⟨_,⟨f,_,_,hb,rfl,rfl⟩,?_⟩
 show Tri ..;cases b with
 | false =>
  refine zAl rfl (fun _=>?_) (fun h=>by cases h)
  refine zSV ?_;refine zAg ?_;obtain⟨rfl,rfl⟩:=Prod.mk.inj (Option.some.inj h)
  unfold zCQ;exact⟨_,Le.refl _ _,rfl,rfl⟩
 | true =>
  refine zAl rfl (fun h=>by cases h) (fun _=>?_)
  refine zAe ?_;show Tri ..;rw[if_pos rfl]at h;obtain⟨n1,hn1,h⟩:=zAc h;obtain⟨hcnt,hn1⟩:=zAy hn1;obtain rfl:=Option.some.inj hn1;refine zSg [8] [] rfl ?_;refine⟨_,⟨k,c,t,ks,hcnt,rfl,fun v hp' n' keys h1 h2 h3 h4 h5=>?_⟩,fun _ _ _ h=>h⟩
  have hv1:v.one=true/\∀ m,n'<m->v.lt m=true:=by
   rcases h3 with ⟨_,rfl,_⟩ | ⟨q,_,_,_,rfl,_,_,hk,_⟩
   ·exact⟨rfl,fun _ _=>rfl⟩
   ·exact⟨rfl,fun m hm=>decide_eq_true (Nat.lt_trans (h5 q (by rw[hk]; exact List.mem_cons_self)).2 hm)⟩
  refine zNp (d:=16) ?_;refine zAd rfl rfl rfl rfl rfl rfl trivial ?_;refine zFk (sz:=4) (cs:=[.s (.int .i64 0),.s (.str []),.s (.int .i64 0),.nl 4]) (cs':=zAK k t c v) (p:=.op n' 0) rfl rfl rfl rfl rfl (.inr ⟨n',rfl⟩) rfl (zCX (bt:=24) (by show(bif Nat.beq n' n' then _ else hp' n')=_; rw[Nat.beq_refl]; rfl)) rfl rfl rfl (by simp only[zAK,List.all_cons,List.all_nil,hv1.1]; rfl) (by have h0:v.lt (n'+1)=true:=hv1.2 _ (Nat.lt_succ_self _); show AV.ltAll (n'+1) (zAK k t c v)=true; simp only[zAK,AV.ltAll,h0]; rfl) ?_;show Tri ..
  refine zGp [(1,.s (.sl 1 (path.map (irow .i64)))),(5,.s (.pt (Nd.enc (.mk rk rt rc rks)))),(6,.op 0 0),(8,.op n' 0)] (n'+1) ⟨rfl,rfl,rfl,rfl,trivial⟩ rfl fun H hH=>?_
  have g1:H n'=some (.box 24 (zAK k t c v)):=(hH n').trans (by
   show putC (fun m=>bif Nat.beq m n' then some (Ob.box 24 [.s (.int .i64 0),.s (.str []),.s (.int .i64 0),.nl 4]) else hp' m) (.op n' 0) (zAK k t c v) n'=_;rw[zEH (bt:=24) (cs:=[.s (.int .i64 0),.s (.str []),.s (.int .i64 0),.nl 4]) (by simp only[Nat.beq_refl,cond_true])]
   simp only[Nat.beq_refl,cond_true])
  have g2:∀ m,m<n'->H m=hp' m:=fun m hm=>(hH m).trans (by
   show putC (fun m=>bif Nat.beq m n' then some (Ob.box 24 [.s (.int .i64 0),.s (.str []),.s (.int .i64 0),.nl 4]) else hp' m) (.op n' 0) (zAK k t c v) m=_;rw[zBe (show m ≠ n' by omega),zCW (show m ≠ n' by omega)]; rfl)
  clear hH
  have g0:H 0=some (.box 24 [.s (.int .i64 0),.s (.str []),.s (.int .i64 0),.nl 4]):=(g2 0 h1).trans (h2 0 (Nat.lt_succ_self 0))
  obtain⟨w,hat⟩:=At.ofV (zCX g1) (h3.frame fun m hm=>g2 m (h5 m hm).2)
  have hnd:(zAP (.op n' 0)::keys).Nodup:=List.nodup_cons.2 ⟨fun hm=>Nat.lt_irrefl _ (h5 n' hm).2,h4⟩
  refine zSV ?_;refine⟨_,⟨.op n' 0,.mk k t c ks,path,keys,w,rfl,.inr ⟨n',rfl⟩,hat,hnd,fun hf=>?_,fun p1 y F hf hole hF=>?_⟩,fun _ _ _ h=>h⟩
  ·rw[hf]at h;refine zAa ?_;refine zSV ?_;refine zAl rfl (fun _=>?_) (fun h=>by cases h)
   obtain⟨rfl,rfl⟩:=Prod.mk.inj (Option.some.inj h)
   refine zAk (Le.forgetH [(6,.op 0 0)] H (n'+1) ⟨rfl,trivial⟩ (fun _=>rfl) rfl) ?_;refine zSV ?_;refine zAd rfl rfl rfl rfl rfl rfl trivial ?_;refine zFk (sz:=4) (cs:=[.s (.int .i64 0),.s (.str []),.s (.int .i64 0),.nl 4]) (cs':=[.s (.int .i64 0),.s (.str []),.s (.int .i64 0),.nl 4]) (p:=.op 0 0) rfl rfl rfl rfl rfl (.inr ⟨0,rfl⟩) rfl (zCX (bt:=24) g0) rfl rfl rfl rfl rfl ?_;refine zAd rfl rfl rfl rfl rfl rfl trivial ?_;refine zAg ?_;unfold zCQ
   refine⟨_,Le.refl _ _,(zGx (bt:=24) (cells:=[.s (.int .i64 0),.s (.str []),.s (.int .i64 0),.nl 4]) rfl ?_ rfl rfl rfl).trans rfl,rfl⟩
   show putC H (.op 0 0) _ 0=_;rw[zEH (bt:=24) (cs:=[.s (.int .i64 0),.s (.str []),.s (.int .i64 0),.nl 4]) g0]; rfl
  ·rw[hf]at h;obtain⟨keys1,w1,hat1,hl1,hnd1⟩:=hole.here hnd;refine zNp (d:=19) ?_;refine zAd rfl rfl rfl rfl rfl rfl trivial ?_;refine zAd rfl rfl rfl rfl rfl rfl trivial ?_;refine zAd rfl rfl rfl rfl rfl rfl trivial ?_;refine zAd rfl rfl rfl rfl rfl (zCd hl1 (.inl rfl) rfl rfl) trivial ?_;refine zAd rfl rfl rfl rfl rfl rfl trivial ?_;refine zAk (Le.forgetH [(5,.s (.pt (Nd.enc (.mk rk rt rc rks)))),(6,.op 0 0),(8,.op n' 0),(9,p1),(10,.s (.bool true))] H (n'+1) ⟨rfl,rfl,rfl,rfl,rfl,trivial⟩ (fun _=>rfl) rfl) ?_;refine zAa ?_;refine zSV ?_;show Tri ..
   refine zAl rfl (fun h=>by cases h) (fun _=>?_)
   refine zAe ?_;show Tri ..;obtain⟨b2,hb2,h⟩:=zAc h;refine zAa ?_;refine zSV ?_;refine⟨_,⟨f,_,_,hb2,rfl,rfl⟩,?_⟩
   show Tri ..;cases b2 with
   | false =>
    refine zAl rfl (fun _=>?_) (fun h=>by cases h)
    obtain⟨rfl,rfl⟩:=Prod.mk.inj (Option.some.inj h)
    refine zAk (Le.forgetH [(6,.op 0 0)] H (n'+1) ⟨rfl,trivial⟩ (fun _=>rfl) rfl) ?_;refine zSV ?_;refine zAd rfl rfl rfl rfl rfl rfl trivial ?_;refine zFk (sz:=4) (cs:=[.s (.int .i64 0),.s (.str []),.s (.int .i64 0),.nl 4]) (cs':=[.s (.int .i64 0),.s (.str []),.s (.int .i64 0),.nl 4]) (p:=.op 0 0) rfl rfl rfl rfl rfl (.inr ⟨0,rfl⟩) rfl (zCX (bt:=24) g0) rfl rfl rfl rfl rfl ?_;refine zAd rfl rfl rfl rfl rfl rfl trivial ?_;refine zAg ?_;unfold zCQ
    refine⟨_,Le.refl _ _,(zGx (bt:=24) (cells:=[.s (.int .i64 0),.s (.str []),.s (.int .i64 0),.nl 4]) rfl ?_ rfl rfl rfl).trans rfl,rfl⟩
    show putC H (.op 0 0) _ 0=_;rw[zEH (bt:=24) (cs:=[.s (.int .i64 0),.s (.str []),.s (.int .i64 0),.nl 4]) g0]; rfl
   | true =>
    refine zAl rfl (fun h=>by cases h) (fun _=>?_)
    refine zAe ?_;show Tri ..;rw[if_pos rfl]at h;obtain⟨n2,hn2,h⟩:=zAc h;obtain⟨hcnt2,hn2⟩:=zAy hn2;obtain rfl:=Option.some.inj hn2;refine zAk (Le.forgetH [(5,.s (.pt (Nd.enc (.mk rk rt rc rks)))),(6,.op 0 0),(8,.op n' 0),(9,p1)] H (n'+1) ⟨rfl,rfl,rfl,rfl,trivial⟩ (fun _=>rfl) rfl) ?_;refine zSV ?_;refine zAd rfl rfl rfl rfl rfl (zCd hl1 (.inr rfl) rfl rfl) trivial ?_;refine zAd rfl rfl rfl rfl rfl rfl trivial ?_;refine⟨_,⟨rk,rc,rt,rks,hcnt2,rfl,fun v2 hp2 n2 keys2 q1 q2 q3 q4 q5=>?_⟩,fun _ _ _ h=>h⟩
    refine zNp (d:=31) ?_;refine zAd rfl rfl rfl rfl rfl (zDw hl1 rfl rfl) trivial ?_;have hb1:zAP p1<n'+1:=by
     rcases hole.base with h | h
     ·have:zAP p1=n':=h
      omega
     ·have:=(h5 _ h).2; omega
    obtain⟨yk,yt,yc,yks⟩:=y;obtain⟨vy,hcy,_⟩:=hat1.full;have hcy2:zAA hp2 p1=some (zAK yk yt yc vy):=(zBz hl1 (q2 _ hb1)).trans hcy;have hv2:v2.one=true/\v2.lt n2=true:=by
     rcases q3 with ⟨_,rfl,_⟩ | ⟨q,_,_,_,rfl,_,_,hk,_⟩
     ·exact⟨rfl,rfl⟩
     ·exact⟨rfl,decide_eq_true (q5 q (by rw[hk]; exact List.mem_cons_self)).2⟩
    refine zFk (sz:=4) (cs':=zAK rk rt rc v2) rfl rfl rfl rfl rfl hl1 rfl hcy2 rfl rfl rfl (by simp only[zAK,List.all_cons,List.all_nil,hv2.1]; rfl) (by show AV.ltAll n2 (zAK rk rt rc v2)=true; simp only[zAK,AV.ltAll,hv2.2]; rfl) ?_;show Tri ..;refine zGp [(6,.op 0 0),(8,.op n' 0)] n2 ⟨rfl,rfl,trivial⟩ rfl fun H2 hH2=>?_
    have hH2:∀ m,H2 m=putC hp2 p1 (zAK rk rt rc v2) m:=hH2
    have hcp:zAA H2 p1=some (zAK rk rt rc v2):=(zBz hl1 (hH2 _)).trans (zHe hl1 hcy2)
    have hb2k:∀ m∈keys2,H2 m=hp2 m:=fun m hm=>(hH2 m).trans (zBe (by have hm1:n'+1<=m:=(q5 m hm).1; omega))
    obtain⟨w3,hat3⟩:=At.ofV hcp (q3.frame hb2k)
    obtain⟨keys0,rest,w0',a1,a2,a3,a4,a5⟩:=hole;have hrest:∀ m,m=n'∨m∈rest->m<n'+1:=fun m hm=>by
     rcases hm with rfl | hm
     ·omega
     ·have:=(h5 m (a1.mem_iff.2 (List.mem_append_right _ hm))).2; omega
    obtain⟨keys3,w4,hperm,hfin⟩:=a5 H2 (.mk rk rt rc rks) keys2 w3 (Sim.put (c:=zAK rk rt rc v2) hl1 hcy fun m hm=>(hH2 m).trans (zGw hl1 (q2 m (hrest m hm)) (q2 _ hb1))) hat3;have hput:F (.mk rk rt rc rks)=putL (.mk k t c ks) path (.mk rk rt rc rks):=(hF _).symm;rw[hput]at hfin;have hn0:∀ m,m=n'∨m∈keys3->m ≠ 0:=fun m hm=>by
     have e1:1<=n':=h1;rcases hm with rfl | hm
     ·omega
     ·rcases List.mem_append.1 (hperm.mem_iff.1 hm) with hm | hm
      ·have e2:1<=m:=(h5 m (a1.mem_iff.2 (List.mem_append_right _ hm))).1
       omega
      ·have e2:n'+1<=m:=(q5 m hm).1
       omega
    have hatD:At (fun m=>bif Nat.beq m 0 then none else H2 m) 24 (.op n' 0) (putL (.mk k t c ks) path (.mk rk rt rc rks)) keys3 [] w4:=hfin.frame (.inr ⟨n',rfl⟩) fun m hm=>by rw[zCW (hn0 m hm)]; rfl
    obtain⟨cs,hcs,hrd⟩:=hatD.rd;rcases zBS (sz:=4) (.inr ⟨n',rfl⟩) hcs with ⟨q,i,e,rows,h1,_⟩ | ⟨q,bt,h1,hbt⟩
    ·cases h1
    cases h1;refine zAk (Le.givePart [(6,.op 0 0),(8,.s (.pt (Nd.enc (putL (.mk k t c ks) path (.mk rk rt rc rks)))))] (fun m=>bif Nat.beq m 0 then none else H2 m) (fun m=>bif Nat.beq m 0 then H2 m else none) (fun m ob hm=>by
     cases e:Nat.beq m 0 with
     | true=>rw[e]at hm; cases hm
     | false=>rw[e]at hm; exact hm) (fun m ob hm=>by
     cases e:Nat.beq m 0 with
     | true=>rw[e]at hm; exact hm
     | false=>rw[e]at hm; cases hm) (fun m ob ob' h1 h2=>by
     cases e:Nat.beq m 0 with
     | true=>rw[e]at h1; cases h1
     | false=>rw[e]at h2; cases h2) ⟨.inl rfl,.inr (Rd.box (off:=0) hbt hrd.1 hrd.2),trivial⟩) ?_
    have hb0:0 ≠ zAP p1:=by
     rcases a4 with rfl | a4
     ·exact Ne.symm (hn0 n' (.inl rfl))
     ·exact Ne.symm (hn0 _ (.inr (hperm.mem_iff.2 (List.mem_append_left _ a4))))
    have g3:H2 0=some (.box 24 [.s (.int .i64 0),.s (.str []),.s (.int .i64 0),.nl 4]):=(hH2 0).trans ((zBe hb0).trans ((q2 0 (Nat.succ_pos n')).trans g0))
    clear hrd hcs hatD hfin hput
    generalize putL (.mk k t c ks) path (.mk rk rt rc rks)=T1 at *;obtain⟨k9,t9,c9,ks9⟩:=T1;obtain⟨b3,hb3,h⟩:=zAc h;refine zGp [(6,.op 0 0),(8,.s (.pt (Nd.enc (.mk k9 t9 c9 ks9))))] n2 ⟨rfl,rfl,trivial⟩ rfl fun H3 hH3=>?_
    have g4:H3 0=some (.box 24 [.s (.int .i64 0),.s (.str []),.s (.int .i64 0),.nl 4]):=(hH3 0).trans g3;refine zAa ?_;refine zSV ?_;refine⟨_,⟨f,_,_,hb3,rfl,rfl⟩,?_⟩
    show Tri ..;cases b3 with
    | false =>
     refine zAl rfl (fun _=>?_) (fun h=>by cases h)
     obtain⟨rfl,rfl⟩:=Prod.mk.inj (Option.some.inj h)
     refine zAk (Le.forgetH [(6,.op 0 0)] H3 n2 ⟨rfl,trivial⟩ (fun _=>rfl) rfl) ?_;refine zSV ?_;refine zAd rfl rfl rfl rfl rfl rfl trivial ?_;refine zFk (sz:=4) (cs:=[.s (.int .i64 0),.s (.str []),.s (.int .i64 0),.nl 4]) (cs':=[.s (.int .i64 0),.s (.str []),.s (.int .i64 0),.nl 4]) (p:=.op 0 0) rfl rfl rfl rfl rfl (.inr ⟨0,rfl⟩) rfl (zCX (bt:=24) g4) rfl rfl rfl rfl rfl ?_;refine zAd rfl rfl rfl rfl rfl rfl trivial ?_;refine zAg ?_;unfold zCQ
     refine⟨_,Le.refl _ _,(zGx (bt:=24) (cells:=[.s (.int .i64 0),.s (.str []),.s (.int .i64 0),.nl 4]) rfl ?_ rfl rfl rfl).trans rfl,rfl⟩
     show putC H3 (.op 0 0) _ 0=_;rw[zEH (bt:=24) (cs:=[.s (.int .i64 0),.s (.str []),.s (.int .i64 0),.nl 4]) g4]; rfl
    | true =>
     refine zAl rfl (fun h=>by cases h) (fun _=>?_)
     obtain⟨rfl,rfl⟩:=Prod.mk.inj (Option.some.inj h)
     refine zAe ?_;refine zAk (Le.forgetH [(6,.op 0 0),(8,.s (.pt (Nd.enc (.mk k9 t9 c9 ks9))))] H3 n2 ⟨rfl,rfl,trivial⟩ (fun _=>rfl) rfl) ?_;refine zSV ?_;refine zAd rfl rfl rfl rfl rfl rfl trivial ?_;refine zFk (sz:=4) (cs:=[.s (.int .i64 0),.s (.str []),.s (.int .i64 0),.nl 4]) (cs':=zAK k9 t9 c9 (.s (.sl 4 (Nd.encs ks9)))) (p:=.op 0 0) rfl rfl rfl rfl rfl (.inr ⟨0,rfl⟩) rfl (zCX (bt:=24) g4) rfl rfl rfl rfl rfl ?_;refine zAd rfl rfl rfl rfl rfl rfl trivial ?_;refine zAg ?_;unfold zCQ
     refine⟨_,Le.refl _ _,(zGx (bt:=24) (cells:=zAK k9 t9 c9 (.s (.sl 4 (Nd.encs ks9)))) rfl ?_ rfl rfl rfl).trans rfl,rfl⟩
     show putC H3 (.op 0 0) _ 0=_;rw[zEH (bt:=24) (cs:=[.s (.int .i64 0),.s (.str []),.s (.int .i64 0),.nl 4]) g4]; rfl
end Go.Proofs.Ytffhjiplcfncdaa
namespace Go.Abs
theorem PSound.giveTop {P:Program}{f e sz:Nat}{R:List AV->(Nat->Option Ob)->Nat->(AV->(Nat->Option Ob)->Nat->Prop)->Prop}{S:List AV->List S->List (List S)->Prop} (h:PSound P f (zL2 R))
  (hS:∀ xs cs rs,S xs cs rs->R xs (fun _=>none) 0 fun x hp n=>∃ q rows hpD,x = .agg (cs.map .s++[.orow q])/\hp q=some (.arow e sz rows)/\rows.length=rs.length/\(∀ r∈rs,r.length=sz)/\(∀ k ob,hpD k=some ob->hp k=some ob/\k ≠ q) /\
   ∀ (i:Nat) x s,rows.flatten[i]? = some x->rs.flatten[i]? = some s->Rd hpD x s) :
  PSound P f (zA5 fun xs os x os'=>∃ cs rs,os=[]/\x = .agg (cs.map .s++[.orow 0])/\os'=[some (.row e sz rs)]/\S xs cs rs):=by
 refine PSound.ofOwn h.1 fun G w β xs vs os x os' hlt hgl hv hxl hob ⟨cs,rs,ho,hx,ho',hs⟩=>?_
 subst ho; subst hx; subst ho'
 refine(h.2.2.2 R rfl G w β xs vs (fun _=>none) 0 _ hlt hgl hv hxl ⟨fun k ob hk=>(by cases hk),fun k ob hk=>(by cases hk),fun k k' ob ob' hk=>(by cases hk)⟩ (hS xs cs rs hs)).mono ?_;rintro e' w' ⟨v,G',β',x,hp',n',rfl,⟨q,rows,hpD,rfl,hq,hlen,hsz,hD,hrd⟩,hn,hfr,hsub,hnew,hlt',hx,hxl,hob,hst⟩
 let c:Cx:=zC4 P w β (fun _=>none) 0 G 0
 have hk:Keep G G' w w':=⟨hsub,fun b hb=>hfr.old b (hlt b hb) (by rintro⟨k,ob,h,_⟩; cases h)⟩
 have hc:Conc c G' β' ⟨fun _=>.junk,hpD,n'⟩ { tmps:=#[],defers:=[] } w':={
  defers:=rfl
  size:=rfl
  env:=fun t=>by simp only[AVal]
  envlt:=fun t=>rfl
  hp:=fun k ob hk=>hob.obs k ob (hD k ob hk).1
  hplt:=fun k ob hk=>hob.lts k ob (hD k ob hk).1
  inj:=fun k k' ob ob' hk hk'=>hob.inj k k' ob ob' (hD k ob hk).1 (hD k' ob' hk').1
  lt:=hlt'
  sub:=hsub
  new:=hnew
  fr:=hfr
  stay:=⟨hn,hst⟩
  glob:=hgl.keep hk }
 have hmine:∀ b,c.mine b->w.heap.size<=b:=fun b hb=>by
  rcases hb with ⟨k,ob,h,_⟩ | h
  ·cases h
  ·exact h
 have hk':Keep G' (allG G' β' hpD) w' w':=⟨fun _ h=>.inl h,fun _ _=>rfl⟩
 refine⟨v,allG G' β' hpD,fun _=>β' q,rfl,⟨hfr.os,hfr.tape,hfr.output,hfr.size,fun b hb _=>hfr.old b hb (by rintro⟨k,ob,h,_⟩; cases h)⟩,fun b hb=>.inl (hsub b hb),fun b hb=>?_,fun b hb=>?_,?_,?_,Nat.zero_le _,⟨fun i ob hi=>?_,fun i j ob ob' hi hj hne=>?_⟩,fun i ob hi=>absurd hi (Nat.not_lt_zero _)⟩
 ·rcases hb with hb | ⟨k,ob,h1,h2⟩
  ·exact(hnew b hb).imp id fun h=>.inr (hmine b h)
  ·exact .inr (.inr (hmine b (row_block (hc.hp k ob h1) b h2).2))
 ·rcases hb with hb | ⟨k,ob,h1,h2⟩
  ·exact hlt' b hb
  ·exact hc.blk_lt h1 h2
 ·simp only[AVal]at hx ⊢;obtain⟨us,rfl,hus⟩:=hx;refine⟨us,rfl,AVals.mk (by rw[hus.length]; simp) fun i y u hy hu=>?_⟩
  rw[List.getElem?_append]at hy
  by_cases hi:i<(cs.map AV.s).length
  ·rw[if_pos hi]at hy;obtain⟨u',hu',hr⟩:=hus.get (i:=i) (x:=y) (by rw[List.getElem?_append,if_pos hi]; exact hy)
   rw[hu]at hu'; cases hu'
   rw[List.getElem?_map]at hy;obtain⟨s,_,rfl⟩:=Option.map_eq_some_iff.1 hy;simp only[AVal]at hr ⊢;exact hr.keep hk'
  ·rw[if_neg hi]at hy;have h0:i - (cs.map AV.s).length=0 :=(by have:=(List.getElem?_eq_some_iff.1 hy).1; simpa using this);rw[h0]at hy;cases hy;obtain⟨u',hu',hr⟩:=hus.get (i:=i) (x:=.orow q) (by rw[List.getElem?_append,if_neg hi,h0]; rfl)
   rw[hu]at hu'; cases hu'
   simp only[AVal]at hr ⊢;exact hr
 ·simp only[AV.lt]
  refine zCO fun i y hy=>?_
  rw[List.getElem?_append]at hy;split at hy
  ·rw[List.getElem?_map]at hy;obtain⟨s,_,rfl⟩:=Option.map_eq_some_iff.1 hy
   rfl
  ·rename_i hi
   have h0:i - (cs.map AV.s).length=0 :=(by have:=(List.getElem?_eq_some_iff.1 hy).1; simpa using this);rw[h0]at hy;cases hy
   rfl
 ·match i,hi with
  | 0,hi =>
   cases hi;refine⟨?_,rfl⟩
   obtain⟨hl,hz,ho⟩:=hob.obs q _ hq;refine⟨hsz,hz,?_⟩
   rcases ho with ⟨h1,rfl⟩ | ⟨b,cap,cur,h1,h2,h3,h4,h5,h6,h7⟩
   ·exact .inl ⟨h1,List.length_eq_zero_iff.1 (by simpa using hlen.symm)⟩
   ·refine .inr ⟨b,cap,cur,by rw[← hlen]; exact h1,by rw[← hlen]; exact h2,h3,h4,?_,.inr (hmine b h6),fun i s hi=>?_⟩
    ·rintro(hb | ⟨k,ob,g1,g2⟩)
     ·exact h5 hb
     ·exact hob.inj k q ob _ (hD k ob g1).1 hq (hD k ob g1).2 b g2 (by rw[h1]; rfl)
    ·have hfl:=zAD hl;have hfs:=zAD hsz;have hil:i<rows.flatten.length :=(by rw[hfl,hlen,← hfs]; exact(List.getElem?_eq_some_iff.1 hi).1);obtain⟨u,hu,hr',_⟩:=h7 i _ (List.getElem?_eq_getElem hil)
     exact⟨u,hu,(hrd i _ s (List.getElem?_eq_getElem hil) hi).rep hc hr'⟩
  | i+1,hi=>simp at hi
 ·match i,j,hi,hj with
  | 0,0,_,_=>exact absurd rfl hne
  | 0,j+1,_,hj=>simp at hj
  | i+1,_,hi,_=>simp at hi
end Go.Abs
namespace Go.Proofs.Ytffhjiplcfncdaa
open Go.Abs
theorem VAt.rd {hp:Nat->Option Ob}{e:Nat}{v:AV}{ks:List Nd}{keys:List Nat} (h:VAt hp e v ks keys):Rd hp v (.sl 4 (Nd.encs ks)):=by
 rcases h with ⟨rfl,rfl,_⟩ | ⟨q,rows,keys',w,rfl,hq,hlen,rfl,h⟩
 ·exact .s _
 ·exact Rd.rows hq hlen fun j x hj=>(by have:=LAt.rd h j x hj; rwa [Nat.zero_add]at this)
def zPb (xs:List AV) (cs:List S) (rs:List (List S)):Prop:=∃ (a0:Nd) (k c:Int) (t:List UInt8) (ks:List Nd),zBN a0=some (.mk k t c ks)/\xs=[.agg ((Nd.enc a0).map .s)]/\cs=[.int .i64 k,.str t,.int .i64 c]/\rs=Nd.encs ks
theorem zJ3:PSound Try.prog 25 (zA5 fun xs os x os'=>∃ cs rs,os=[]/\x = .agg (cs.map .s++[.orow 0])/\os'=[some (.row 24 4 rs)]/\zPb xs cs rs):=by
 refine PSound.giveTop zEb fun xs cs rs ⟨⟨k0,t0,c0,ks0⟩,k,c,t,ks,hm,hx,hcs,hrs⟩=>?_
 subst hx; subst hcs; subst hrs
 obtain⟨⟨hq,hne⟩,hm⟩:=zAy hm;cases hm;refine⟨k0,c0,t0,ks0,hq,rfl,fun v hp' n' keys _ _ hv hnd _=>?_⟩
 rcases hv with ⟨rfl,_⟩ | ⟨q,rows,keys',w,rfl,hq,hlen,rfl,hl⟩
 ·exact absurd rfl hne
 refine⟨q,rows,fun k=>if k∈keys' then hp' k else none,rfl,hq,by rw[Nd.encs_eq,List.length_map]; exact hlen,fun r hr=>?_,fun k ob hk=>?_,zOC fun j r s hr hs=>?_⟩
 ·rw[Nd.encs_eq]at hr;obtain⟨x,_,rfl⟩:=List.mem_map.1 hr;cases x; rfl
 ·dsimp only at hk;split at hk
  ·rename_i hm
   exact⟨hk,fun e=>(List.nodup_cons.1 hnd).1 (by rw[← e]; exact hm)⟩
  ·cases hk
 ·rw[Nd.encs_eq,List.getElem?_map]at hs;cases hx:ks0[j]? with
  | none=>rw[hx]at hs; cases hs
  | some x =>
   rw[hx]at hs; cases hs
   obtain⟨keys0,rest,w0,hperm,hat,_⟩:=LAt.hole (i:=0) hl hnd hx;rw[Nat.zero_add]at hat;obtain⟨k2,t2,c2,ks2⟩:=x;obtain⟨v,hc,hv⟩:=hat.full;rw[zDp hq,hr]at hc;cases hc;exact RdC.node (VAt.rd (hv.frame fun k hk=>by
    show(if k∈keys' then hp' k else none)=hp' k;rw[if_pos (hperm.mem_iff.2 (List.mem_append_left _ hk))]))
def zJs (xs:List AV) (os:List Ob) (x:AV) (os':List (Option Ob)):Prop:=∃ (a0:Nd) (y0:Nd),zBN a0=some y0/\xs=[.agg ((Nd.enc a0).map .s)]/\os=[]/\x = .agg (match y0 with | .mk k t c _=>[.s (.int .i64 k),.s (.str t),.s (.int .i64 c),.orow 0])/\os'=[some (.row 24 4 (match y0 with | .mk _ _ _ ks=>Nd.encs ks))]
def zC2:zAp:=zA5 (fun xs os x os'=>zJs xs os x os')
theorem zDY:PSound Try.prog 25 zC2 :=
 PSound.ofOwn zJ3.1 fun G w β xs vs os x os' h1 h2 h3 h4 h5 ⟨a0,⟨k,t,c,ks⟩,hm,hx,ho,hr,ho'⟩ =>
  zJ3.2.2.1 _ rfl G w β xs vs os x os' h1 h2 h3 h4 h5 ⟨[.int .i64 k,.str t,.int .i64 c],Nd.encs ks,ho,hr,ho',a0,k,c,t,ks,hm,hx,rfl,rfl⟩
end Go.Proofs.Ytffhjiplcfncdaa
namespace Go.Proofs
open Go.RowKit Go.Lib
theorem Try.Grow_nil_sNode (w:World) :
  Calls Try.prog 97 #[.slice none 0 0,.int .i64 0] w fun e w'=>e = .returned (.slice none 0 0)/\w'=w:=by
 have h2:wrap64 0=0:=by unfold wrap64; omega
 go_enter Try.func97,Try.ntmps97
 go_wp2
 go_ret
 exact⟨rfl,rfl⟩
set_option maxHeartbeats 4000000 in
theorem Try.Grow_new_sNode (i0:TypeInfo) (z:Value) (hi0:Try.prog.info? 24=some i0) (hz0:i0.zero=some z) (hs0:0<i0.size)
  (n:Nat) (w:World) (hroom:0<n) (hbig:n * i0.bytes<=140737488355328) (h63:n<=4611686018427387904) :
  Calls Try.prog 97 #[.slice none 0 0,.int .i64 n] w fun e w' =>
   e = .returned (.slice (some ⟨w.heap.size,0,none⟩) 0 (grownCap w n 0 24)) /\
   w'=w.drew.alloc (.cells (#[]++Builtin.zeroCells z.cells n++Builtin.zeroCells z.cells (grownCap w n 0 24 - n)) 24):=by
 have h1:¬ ((n:Int)<0) :=(by omega);have h2:wrap64 0=0 :=(by unfold wrap64; omega);have h3:wrap64 (n:Int)=(n:Int) :=(by unfold wrap64; omega);have h4:(n:Int) > 0 :=(by omega);have hold:(Builtin.firstCells i0.size 0 (.slice none 0 0)).run Try.prog w.drew = .ok ([]:List Value).toArray w.drew:=run_firstCells_none w.drew i0.size 0 0 0;have hrz:∀ ty,(Builtin.append_ #[22,3] ty #[.slice none 0 0,.int .i64 (n:Int)]).run Try.prog w =
   .ok (.slice (some ⟨w.heap.size,0,none⟩) n (grownCap w n 0 24)) (w.drew.alloc (.cells (#[]++Builtin.zeroCells z.cells n++Builtin.zeroCells z.cells (grownCap w n 0 24 - n)) 24)):=fun ty=>by
  have h:=Lib.run_append_grow_zeros w 22 3 ty 24 i0 z .i64 .i64 Try.underlying22 Try.underlying3 hi0 hz0 none 0 0 [] hold n (by omega) hs0 (by omega) (by omega) (by omega)
   (by rw[Nat.zero_add]; exact growslice_fits hroom hbig)
  rw[Nat.zero_add]at h;exact h
 have hGn:n<=grownCap w n 0 24:=grownCap_ge w _ _ _;obtain⟨G,hG⟩:∃ G,G=grownCap w n 0 24:=⟨_,rfl⟩
 rw[← hG]at hrz hGn ⊢;have hG63:G<=9223372036854775807:=by
  have:=grownCap_le_maxLen w n 0 24 (by unfold maxLen; omega)
  rw[← hG]at this;unfold maxLen at this
  omega
 clear hold hG
 go_enter Try.func97,Try.ntmps97
 go_wp2_with (at_builtin; refine Lib.wpList_append_run _ rfl _ _ _ _ rfl _ _ rfl rfl _ _ (hrz _) ?_)
 all_goals (go_ret; exact⟨rfl,rfl⟩)
end Go.Proofs
namespace Go.Proofs.Ytffhjiplcfncdaa
open Go.Abs
theorem zSl (z:Array Value) (n:Nat):(Builtin.zeroCells z n).size=n * z.size:=by simp[Builtin.zeroCells]
def zG8 (xs:List AV) (r:Ret):Prop:=∃ (a0:Int) (y0:List Nd),zB1 a0=some y0/\xs=[.nl 4,.s (.int .i64 a0)]/\r = .row 24 4 (Nd.encs y0)
def zCR:zAp:=zSS fun xs r=>zG8 xs r
theorem zD8:PSound Try.prog 97 zCR :=
 ⟨Try.call97,fun G w xs vs r hl hg _ hv ⟨a0,y0,hm,hx,hr⟩=>by
  subst hx; subst hr
  obtain⟨⟨q1,q2⟩,hm⟩:=zAy hm;obtain rfl:=Option.some.inj hm;obtain⟨n,rfl⟩:=Int.eq_ofNat_of_zero_le q1;simp only[AVals,AVal,Rep]at hv;obtain⟨_,_,rfl,rfl,_,_,rfl,rfl,rfl⟩:=hv
  by_cases h0:n=0
  ·subst h0;exact(Try.Grow_nil_sNode w).mono fun e w' ⟨h1,h2⟩=>by
    subst h2;exact⟨_,G,h1,Ext.refl hl,fun r hr=>(by cases hr),by decide,.inl ⟨rfl,rfl⟩⟩
  obtain⟨d,info,z,b1,b2,b3,b4,b5,b6,b7,b8,b9,b10⟩:=tokW 24 _ rfl;have i1:info.size=4:=b4;have i2:info.bytes=56:=b5;have hzs:z.cells.size=4:=zH7 b7 b8 b9;refine(Try.Grow_new_sNode info z b3 b6 (by omega) n w (by omega) (by rw[i2]; omega) (by omega)).mono fun e w' ⟨h1,h2⟩=>?_
  have hge:n<=grownCap w n 0 24 :=(by unfold grownCap Question.cut; simp);generalize grownCap w n 0 24=g at *;refine⟨_,G,h1,?_,fun r hr=>(by cases hr),by decide,.inr ⟨w.heap.size,g,#[]++Builtin.zeroCells z.cells n++Builtin.zeroCells z.cells (g - n),rfl,Nat.zero_le _,?_,by rw[h2]; exact RowBlk.laid (zCq w.drew _),fun h=>Nat.lt_irrefl _ (hl _ h),Nat.le_refl _,fun i s hi=>by cases hi⟩⟩
  ·rw[h2]
   exact(Ext.drew hl).trans (Ext.own (w:=w.drew) hl _)
  ·simp only[Array.size_append,Array.size_empty,zSl,hzs]
   omega,
 fun R hR=>(by cases hR),fun R hR=>(by cases hR)⟩
def zGE (xs:List AV) (r:Ret):Prop:=∃ (a0:List Nd) (y0:List Nd),zD6 a0=some y0/\xs=[.s (.sl 4 (Nd.encs a0))]/\r = .val (.s (.sl 4 (Nd.encs y0)))
def zD5:zAp:=zAr fun xs r=>zGE xs r
theorem zGh:PSound Try.prog 90 zD5:=by
 have gok:=@gok0 Try.prog;refine zAw tokW Try.call90 Try.func90 rfl (fun xs r h=>by obtain⟨_,_,_,rfl,_⟩:=h; show 1<=_; decide) _ rfl ?_;rintro xs r w0 G0 ⟨l,y,h,rfl,rfl⟩ _;obtain⟨hq,h⟩:=zAy h;obtain rfl:=Option.some.inj h;have hlen:(Nd.encs l).length=l.length:=rlen Nd.encs_eq l;refine zSV ?_;refine zAa ?_;refine zSV ?_;intro b hb;show Tri ..;cases b with
 | true =>
  have hl:=hb rfl;refine zAl rfl (fun _=>?_) (fun h=>by cases h)
  refine zSV ?_;refine zAg ?_;unfold zCQ;exact⟨_,Le.refl _ _,congrArg (fun z=>some (AV.s (.sl 4 z))) hl.symm,rfl⟩
 | false =>
  refine zAl rfl (fun h=>by cases h) (fun _=>?_)
  refine zAe ?_;refine zSg [5,7] [] rfl ?_;refine And.intro (show(([]:List (List S)).length+(Nd.encs l).length) * 56<=140737488355328/\([]:List (List S)).length+(Nd.encs l).length<=9223372036854775807 from by rw[hlen]; simp only[List.length_nil]; omega) ?_;refine zAg ?_;unfold zCQ;exact⟨_,Le.giveRow 1 (e:=24) (sz:=4) (rows:=Nd.encs l) rfl,rfl,rfl⟩
def zG7 (xs:List AV) (r:Ret):Prop:=∃ (a0:List Int) (y0:List Int),zEE a0=some y0/\xs=[.s (.sl 1 ((List.map (irow .i64)) a0))]/\r = .val (.s (.sl 1 ((List.map (irow .i64)) y0)))
def zEr:zAp:=zAr fun xs r=>zG7 xs r
theorem zGI:PSound Try.prog 62 zEr:=by
 have gok:=@gok0 Try.prog;refine zAw tokW Try.call62 Try.func62 rfl (fun xs r h=>by obtain⟨_,_,_,rfl,_⟩:=h; show 1<=_; decide) _ rfl ?_;rintro xs r w0 G0 ⟨l,y,h,rfl,rfl⟩ _;obtain⟨hq,h⟩:=zAy h;obtain rfl:=Option.some.inj h;have hlen:((List.map (irow .i64)) l).length=l.length:=rlen (fun _=>rfl) l;refine zSV ?_;refine zAa ?_;refine zSV ?_;intro b hb;show Tri ..;cases b with
 | true =>
  have hl:=hb rfl;refine zAl rfl (fun _=>?_) (fun h=>by cases h)
  refine zSV ?_;refine zAg ?_;unfold zCQ;exact⟨_,Le.refl _ _,congrArg (fun z=>some (AV.s (.sl 1 z))) hl.symm,rfl⟩
 | false =>
  refine zAl rfl (fun h=>by cases h) (fun _=>?_)
  refine zAe ?_;refine zSg [5,7] [] rfl ?_;refine And.intro (show(([]:List (List S)).length+((List.map (irow .i64)) l).length) * 8<=140737488355328/\([]:List (List S)).length+((List.map (irow .i64)) l).length<=9223372036854775807 from by rw[hlen]; simp only[List.length_nil]; omega) ?_;refine zAg ?_;unfold zCQ;exact⟨_,Le.giveRow 1 (e:=3) (sz:=1) (rows:=(List.map (irow .i64)) l) rfl,rfl,rfl⟩
def zAL (p:List Nd):List S:=[.sl 4 (Nd.encs p)]
def zFV (n:Nat) (xs:List AV) (r:Ret):Prop:=∃ (a0:List (List Nd)) (y0:List Nd),zCo n a0=some y0/\xs=[.s (.sl 1 ((List.map zAL) a0))]/\r = .row 24 4 (Nd.encs y0)
def zDE:zAp:=zAr fun xs r=>∃ n,zFV n xs r
theorem zSI {α:Type}{a b:α} (h:a=b:=by simp[List.map_append,List.map_take,List.map_drop,irow,brow,zGq,List.map_cons,List.map_nil,zF2,Nd.encs_eq,Nd.enc,zBA,zAQ,zBM,zAL]):a=b :=
 h
theorem zFQ:PSound Try.prog 93 zDE:=by
 have gok:∀ f s,look? f [(97,zCR)]=some s->PSound Try.prog f s:=zAm (by
  simp only[List.forall_mem_cons]
  exact⟨zD8,by simp⟩)
 refine zAw tokW Try.call93 Try.func93 rfl (fun xs r h=>by obtain⟨n,_,_,_,rfl,_⟩:=h; show 1<=36; decide) 36 rfl ?_;rintro xs r w0 G0 ⟨n,slices1,y0,h,rfl,rfl⟩ _;rw[zCo]at h;refine zSg [2] [] rfl ?_;refine zAk (Le.rnm [] [(0,.s (.sl 1 ((List.map zAL) slices1)))] [] 0 ⟨rfl,trivial⟩ trivial) ?_;refine zSV ?_;refine zAa ?_;refine zSg [] [10] rfl ?_;intro n2 hn2;obtain rfl:(slices1.length:Int)=n2:=(hn2.trans (congrArg (fun m:Nat=>(m:Int)) (rlen (fun _=>rfl) slices1))).symm;show Tri ..
 obtain⟨size5,hl,h⟩:=zAc h;refine zAo ⟨ofL [(0,.s (.sl 1 ((List.map zAL) slices1))),(3,.s (.int .i64 size5))],fun _=>none,0⟩ ?_ (fun σ' hle=>?_)
 ·refine zAi (zAz (X:=Nat×Int×Int) (fun y=>match y with | (k,x3,size4)=>⟨ofL [(0,.s (.sl 1 ((List.map zAL) slices1))),(3,.s (.int .i64 size4)),(9,.s (.sl 1 ((List.map zAL) slices1))),(10,.s (.int .i64 (slices1.length:Int))),(11,.s (.int .i64 x3))],fun _=>none,0⟩) (fun y=>zAT slices1 y.1 y.2.1 y.2.2=some size5) (fun y=>y.1) (n,0,0) hl ?_ ?_)
  ·exact(Le.forget _ ⟨rfl,rfl,rfl,rfl,rfl,trivial⟩)
  ·rintro⟨k,x3,size4⟩ h;cases k with
   | zero=>cases h
   | succ k =>
    replace h:zAT slices1 (k+1) x3 size4=some size5:=h;rw[zAT]at h;refine zSV ?_;refine zAa ?_;refine zAj rfl h (fun hb h=>?_) (fun hb h=>?_)
    ·refine zAe ?_;refine zAa ?_;refine zAi ?_;refine zSg [] [13] rfl ?_;obtain⟨e6,he6,h⟩:=zAc h;refine And.intro (zAO (fun _=>rfl) he6).1 ?_;intro r7 hr7;obtain rfl:[.sl 4 (Nd.encs e6)]=r7:=(hr7.trans (zAO (fun _=>rfl) he6).2.1).symm;refine zSg [] [17] rfl ?_;intro n8 hn8;obtain rfl:(e6.length:Int)=n8:=(hn8.trans (congrArg (fun m:Nat=>(m:Int)) (rlen Nd.encs_eq e6))).symm;refine zSV ?_;refine zAj rfl h (fun hb h=>?_) (fun hb h=>?_)
     ·cases h
     ·refine zAe ?_;refine zSU ?_;refine⟨(k,IntKind.i64.wrap (x3+1),IntKind.i64.wrap (size4+(e6.length:Int))),h,(Le.forget _ ⟨rfl,rfl,rfl,rfl,rfl,trivial⟩),Nat.lt_succ_self k⟩
    ·refine zAx ?_;cases h;exact(Le.forget _ ⟨rfl,rfl,trivial⟩)
 ·refine zAk hle ?_;refine zSg [24] [] rfl ?_;obtain⟨y9,hy9,h⟩:=zAc h;refine⟨_,⟨_,_,hy9,rfl,rfl⟩,?_⟩
  refine zAa ?_;refine zSg [] [26] rfl ?_;intro n10 hn10;obtain rfl:(slices1.length:Int)=n10:=(hn10.trans (congrArg (fun m:Nat=>(m:Int)) (rlen (fun _=>rfl) slices1))).symm;show Tri ..;obtain⟨l14,hl,h⟩:=zAc h;refine zAo ⟨ofL [(6,.orow 0)],ofH [(0,.row 24 4 (Nd.encs l14))],1⟩ ?_ (fun σ' hle=>?_)
  ·refine zAi (zAz (X:=Nat×Int×(List Nd)) (fun y=>match y with | (k,x11,l13)=>⟨ofL [(6,.orow 0),(25,.s (.sl 1 ((List.map zAL) slices1))),(26,.s (.int .i64 (slices1.length:Int))),(27,.s (.int .i64 x11))],ofH [(0,.row 24 4 (Nd.encs l13))],1⟩) (fun y=>zAU slices1 y.1 y.2.1 y.2.2=some l14) (fun y=>y.1) (n,0,y9) hl ?_ ?_)
   ·exact(Le.rnm [(0,0)] _ _ _ ⟨rfl,rfl,rfl,rfl,trivial⟩ ⟨rfl,⟨_,rfl,rfl⟩,trivial⟩)
   ·rintro⟨k,x11,l13⟩ h;cases k with
    | zero=>cases h
    | succ k =>
     replace h:zAU slices1 (k+1) x11 l13=some l14:=h;rw[zAU]at h;refine zSV ?_;refine zAa ?_;refine zAj rfl h (fun hb h=>?_) (fun hb h=>?_)
     ·refine zAe ?_;refine zAa ?_;refine zAi ?_;refine zSg [] [29] rfl ?_;obtain⟨e15,he15,h⟩:=zAc h;refine And.intro (zAO (fun _=>rfl) he15).1 ?_;intro r16 hr16;obtain rfl:[.sl 4 (Nd.encs e15)]=r16:=(hr16.trans (zAO (fun _=>rfl) he15).2.1).symm;refine zAb [33] [] rfl ?_;obtain⟨hq,h⟩:=zAy h;refine And.intro (show((Nd.encs l13).length+(Nd.encs e15).length) * 56<=140737488355328/\(Nd.encs l13).length+(Nd.encs e15).length<=9223372036854775807 from by simp only[List.length_append,List.length_cons,List.length_nil,List.length_map,rlen Nd.encs_eq]at hq ⊢; omega) ?_
      refine zAk (Le.rnm [(1,0)] [(6,.orow 0),(25,.s (.sl 1 ((List.map zAL) slices1))),(26,.s (.int .i64 (slices1.length:Int))),(27,.s (.int .i64 x11))] [(0,.row 24 4 (Nd.encs (l13++e15)))] 1 ⟨rfl,rfl,rfl,rfl,trivial⟩ ⟨rfl,⟨_,rfl,congrArg (Ob.row 24 4) zSI⟩,trivial⟩) ?_;refine zSU ?_
      refine⟨(k,IntKind.i64.wrap (x11+1),l13++e15),h,(Le.rnm [(0,0)] _ _ _ ⟨rfl,rfl,rfl,rfl,trivial⟩ ⟨rfl,⟨_,rfl,rfl⟩,trivial⟩),Nat.lt_succ_self k⟩
     ·refine zAx ?_;cases h;exact(Le.rnm [(0,0)] _ _ _ ⟨rfl,trivial⟩ ⟨rfl,⟨_,rfl,rfl⟩,trivial⟩)
  ·refine zAk hle ?_;refine zSV ?_;refine zAg ?_;have hy:=osi h;subst hy;unfold zCQ;exact⟨_,Le.refl _ _,0,rfl,rfl⟩
def zAC (p:(zO8×List Nd)):List S:=[.int .i64 p.1.1,.sl 1 ((List.map (irow .i64)) p.1.2.1),.int .i64 p.1.2.2.1,.int .i64 p.1.2.2.2.1,.sl 4 (Nd.encs p.1.2.2.2.2.1),.int .i64 p.1.2.2.2.2.2.1,.str p.1.2.2.2.2.2.2.1,.str p.1.2.2.2.2.2.2.2,.sl 4 (Nd.encs p.2)]
def zHz (n:Nat) (xs:List AV) (r:Ret):Prop:=∃ (a0:(zO8×List Nd)) (a1:Int) (a2:List Nd) (y0:List Nd),zAZ n a0 a1 a2=some y0/\xs=[.agg ((zAC a0).map .s),.s (.int .i64 a1),.s (.sl 4 (Nd.encs a2))]/\r = .val (.s (.sl 4 (Nd.encs y0)))
def zBd:zAp:=zAr fun xs r=>∃ n,zHz n xs r
theorem zBt:PSound Try.prog 87 zBd:=by
 have gok:∀ f s,look? f [(93,zDE)]=some s->PSound Try.prog f s:=zAm (by
  simp only[List.forall_mem_cons]
  exact⟨zFQ,by simp⟩)
 refine zAw tokW Try.call87 Try.func87 rfl (fun xs r h=>by obtain⟨n,_,_,_,_,_,rfl,_⟩:=h; show 3<=24; decide) 24 rfl ?_;rintro xs r w0 G0 ⟨n,⟨⟨c1Y,c1Ag,c1P,c1Z,c1T,c1U,c1Af,c1Ad⟩,c1Q⟩,n2,nodes3,y0,h,rfl,rfl⟩ _;rw[zAZ]at h;refine zSV ?_;refine zAa ?_;refine zBx [] [12,21,22] [] rfl (by decide +kernel) ?_;obtain⟨hq,h⟩:=zAy h;refine And.intro ⟨hq.1,hq.2.1,Int.le_trans hq.2.2 (Int.ofNat_le.2 (Nat.le_of_eq (rlen Nd.encs_eq _).symm))⟩ ?_;intro r4 hr4
 obtain rfl:Nd.encs ((c1Q.take c1P.toNat).drop (0:Int).toNat)=r4:=(hr4.trans (rcut Nd.encs_eq _ _ _)).symm;obtain⟨hq,h⟩:=zAy h;refine And.intro ⟨hq.1,Int.le_trans hq.2.1 (Int.ofNat_le.2 (Nat.le_of_eq (rlen Nd.encs_eq _).symm)),Int.le_refl _⟩ ?_;intro r5 hr5;obtain rfl:Nd.encs ((c1Q.take (c1Q.length:Int).toNat).drop (IntKind.i64.wrap (c1P+n2)).toNat)=r5:=(hr5.trans ((congrArg (fun m:Nat=>((Nd.encs c1Q).take m).drop (IntKind.i64.wrap (c1P+n2)).toNat) (rlen Nd.encs_eq _)).trans (rcut Nd.encs_eq _ _ _))).symm;intro r6 hr6
 obtain rfl:(List.map zAL) [(c1Q.take c1P.toNat).drop (0:Int).toNat,nodes3,(c1Q.take (c1Q.length:Int).toNat).drop (IntKind.i64.wrap (c1P+n2)).toNat]=r6:=(hr6.trans zSI).symm;obtain⟨y7,hy7,h⟩:=zAc h;refine⟨_,⟨_,_,_,hy7,rfl,rfl⟩,?_⟩
 refine zAg ?_;have hy:=osi h;subst hy;exact fin0 rfl rfl
def zCU (n:Nat) (xs:List AV) (r:Ret):Prop:=∃ (a0:Nd) (a1:Nd) (y0:Bool),zCk n a0 a1=some y0/\xs=[.agg ((Nd.enc a0).map .s),.agg ((Nd.enc a1).map .s)]/\r = .val (.s (.bool y0))
def zAH (n:Nat) (xs:List AV) (r:Ret):Prop:=∃ (a0:List Nd) (a1:List Nd) (y0:Bool),zAW n a0 a1=some y0/\xs=[.s (.sl 4 (Nd.encs a0)),.s (.sl 4 (Nd.encs a1)),.s (.fn 89)]/\r = .val (.s (.bool y0))
theorem zKt (n:Nat) (ih_node_Equal:PSound Try.prog 89 (zAr (zCU n))) (ih_slices_EqualFunc_sNode:PSound Try.prog 88 (zAr (zAH n))):PSound Try.prog 89 (zAr (zCU (n+1))):=by
 have gok:∀ f s,look? f [(88,zAr (zAH n))]=some s->PSound Try.prog f s:=zAm (by
  simp only[List.forall_mem_cons]
  exact⟨ih_slices_EqualFunc_sNode,by simp⟩)
 refine zAw tokW Try.call89 Try.func89 rfl (fun xs r h=>by obtain⟨_,_,_,_,rfl,_⟩:=h; show 2<=31; decide) 31 rfl ?_;rintro xs r w0 G0 ⟨⟨a1A,a1C,a1D,a1B⟩,⟨b2A,b2C,b2D,b2B⟩,y0,h,rfl,rfl⟩ _;rw[zCk]at h;refine zSV ?_;refine zAa ?_;obtain⟨x3,hj,h⟩:=zAc h;refine zAo ⟨ofL [(4,.s (.bool x3))],fun _=>none,0⟩ ?_ (fun σ' hle=>?_)
 ·replace h:=hj;refine zAb [] [10,17,24] rfl ?_;intro b hb;cases b with
  | true =>
   replace h:=zAu hb.symm h;intro b hb;cases b with
   | true =>
    replace h:=zAu hb.symm h;intro b hb;cases b with
    | true =>
     replace h:=zAu hb.symm h;obtain⟨y4,hy4,h⟩:=zAc h;refine⟨_,⟨_,_,_,hy4,rfl,rfl⟩,?_⟩
     cases h;exact(Le.forget _ ⟨rfl,trivial⟩)
    | false =>
     replace h:=zAt hb.symm h;cases h;exact(Le.forget _ ⟨rfl,trivial⟩)
   | false =>
    replace h:=zAt hb.symm h;intro b hb;subst hb;cases h;exact(Le.forget _ ⟨rfl,trivial⟩)
  | false =>
   replace h:=zAt hb.symm h;intro b hb;subst hb;intro b hb;subst hb;cases h;exact(Le.forget _ ⟨rfl,trivial⟩)
 ·refine zAk hle ?_;refine zAg ?_;have hy:=osi h;subst hy;exact fin0 rfl rfl
theorem zEK (n:Nat) (ih_node_Equal:PSound Try.prog 89 (zAr (zCU n))) (ih_slices_EqualFunc_sNode:PSound Try.prog 88 (zAr (zAH n))):PSound Try.prog 88 (zAr (zAH (n+1))):=by
 have gok:∀ f s,look? f [(89,zAr (zCU n))]=some s->PSound Try.prog f s:=zAm (by
  simp only[List.forall_mem_cons]
  exact⟨ih_node_Equal,by simp⟩)
 refine zAw tokW Try.call88 Try.func88 rfl (fun xs r h=>by obtain⟨_,_,_,_,rfl,_⟩:=h; show 3<=32; decide) 32 rfl ?_;rintro xs r w0 G0 ⟨s11,s22,y0,h,rfl,rfl⟩ _;rw[zAW]at h;refine zSV ?_;refine zAa ?_;refine zSg [] [11,13] rfl ?_;intro n3 hn3;obtain rfl:(s11.length:Int)=n3:=(hn3.trans (congrArg (fun m:Nat=>(m:Int)) (rlen Nd.encs_eq s11))).symm;intro n4 hn4;obtain rfl:(s22.length:Int)=n4:=(hn4.trans (congrArg (fun m:Nat=>(m:Int)) (rlen Nd.encs_eq s22))).symm;refine zAj rfl h (fun hb h=>?_) (fun hb h=>?_)
 ·refine zSV ?_;refine zAg ?_;have hy:=osi h;subst hy;exact fin0 rfl rfl
 ·refine zAe ?_;refine zAa ?_;refine zSg [] [16] rfl ?_;intro n5 hn5;obtain rfl:(s11.length:Int)=n5:=(hn5.trans (congrArg (fun m:Nat=>(m:Int)) (rlen Nd.encs_eq s11))).symm;show Tri ..;obtain⟨fl,hl,ho1⟩:=zAc h;refine zDf (fl:=fl) (fun z=>match z with | _=>⟨ofL [],fun _=>none,0⟩) ?_ (fun z σ' hz hle=>?_)
  ·refine zAi (zAz (X:=Nat×Int) (fun y=>match y with | (k,x6)=>⟨ofL [(1,.s (.sl 4 (Nd.encs s22))),(2,.s (.fn 89)),(15,.s (.sl 4 (Nd.encs s11))),(16,.s (.int .i64 (s11.length:Int))),(17,.s (.int .i64 x6))],fun _=>none,0⟩) (fun y=>zAJ (zCk n) s11 s22 y.1 y.2=some fl) (fun y=>y.1) (n,0) hl ?_ ?_)
   ·exact(Le.forget _ ⟨rfl,rfl,rfl,rfl,rfl,trivial⟩)
   ·rintro⟨k,x6⟩ h;cases k with
    | zero=>cases h
    | succ k =>
     replace h:zAJ (zCk n) s11 s22 (k+1) x6=some fl:=h;rw[zAJ]at h;refine zSV ?_;refine zAa ?_;refine zAj rfl h (fun hb h=>?_) (fun hb h=>?_)
     ·refine zAe ?_;refine zAa ?_;refine zAi ?_;refine zSg [8] [20] rfl ?_;obtain⟨⟨e7A,e7C,e7D,e7B⟩,he7,h⟩:=zAc h;refine And.intro (zAO Nd.encs_eq he7).1 ?_;intro r8 hr8;obtain rfl:[.int .i64 e7A,.str e7C,.int .i64 e7D,.sl 4 (Nd.encs e7B)]=r8:=(hr8.trans (zAO Nd.encs_eq he7).2.1).symm;refine zAk (Le.giveBox 0 [.int .i64 e7A,.str e7C,.int .i64 e7D,.sl 4 (Nd.encs e7B)] rfl rfl) ?_;refine zSg [9] [24] rfl ?_;obtain⟨⟨e9A,e9C,e9D,e9B⟩,he9,h⟩:=zAc h;refine And.intro (zAO Nd.encs_eq he9).1 ?_
      intro r10 hr10;obtain rfl:[.int .i64 e9A,.str e9C,.int .i64 e9D,.sl 4 (Nd.encs e9B)]=r10:=(hr10.trans (zAO Nd.encs_eq he9).2.1).symm;refine zAk (Le.giveBox 1 [.int .i64 e9A,.str e9C,.int .i64 e9D,.sl 4 (Nd.encs e9B)] rfl rfl) ?_;refine zSV ?_;obtain⟨y11,hy11,h⟩:=zAc h;refine⟨_,⟨_,_,_,hy11,rfl,rfl⟩,?_⟩
      refine zAj rfl h (fun hb h=>?_) (fun hb h=>?_)
      ·refine zSV ?_;refine zAg ?_;cases h;replace h:some _=some _:=ho1;have hy:=osi h;subst hy;exact fin0 rfl rfl
      ·refine zAe ?_;refine zSU ?_;refine⟨(k,IntKind.i64.wrap (x6+1)),h,(Le.rnm [] _ [] 0 ⟨rfl,rfl,rfl,rfl,rfl,trivial⟩ trivial),Nat.lt_succ_self k⟩
     ·refine zAx ?_;cases h;exact⟨_,rfl,(Le.forget _ trivial)⟩
  ·subst hz;obtain _:=z;replace h:=ho1;refine zAk hle ?_;refine zSV ?_;refine zAg ?_;have hy:=osi h;subst hy;exact fin0 rfl rfl
theorem zF0:∀ n,PSound Try.prog 89 (zAr (zCU n))/\PSound Try.prog 88 (zAr (zAH n)):=by
 intro n
 induction n with
 | zero =>
  refine⟨?_,?_⟩
  ·exact zBL Try.call89 (fun xs r h=>by obtain⟨_,_,_,h,_⟩:=h; rw[zCk]at h; cases h)
  ·exact zBL Try.call88 (fun xs r h=>by obtain⟨_,_,_,h,_⟩:=h; rw[zAW]at h; cases h)
 | succ n ih =>
  obtain⟨ih_node_Equal,ih_slices_EqualFunc_sNode⟩:=ih;exact⟨zKt n ih_node_Equal ih_slices_EqualFunc_sNode,zEK n ih_node_Equal ih_slices_EqualFunc_sNode⟩
def zIC:zAp:=zAr fun xs r=>∃ n,zCU n xs r
theorem zMe:PSound Try.prog 89 zIC:=zCB (fun n=>(zF0 n).1)
def zCV:zAp:=zAr fun xs r=>∃ n,zAH n xs r
theorem zFb:PSound Try.prog 88 zCV:=zCB (fun n=>(zF0 n).2)
def zE2 (n:Nat) (xs:List AV) (r:Ret):Prop:=∃ (a0:(zO8×List Nd)) (y0:List Nd) (y1:Int),zBG n a0=some (y0,y1)/\xs=[.agg ((zAC a0).map .s)]/\r = .val (.tup [.s (.sl 4 (Nd.encs y0)),.s (.int .i64 y1)])
def zE5:zAp:=zAr fun xs r=>∃ n,zE2 n xs r
theorem zEM:PSound Try.prog 80 zE5:=by
 have gok:∀ f s,look? f [(25,zC2),(86,zET),(89,zIC),(87,zBd)]=some s->PSound Try.prog f s:=zAm (by
  simp only[List.forall_mem_cons]
  exact⟨zDY,zFF,zMe,zBt,by simp⟩)
 refine zAw tokW Try.call80 Try.func80 rfl (fun xs r h=>by obtain⟨n,_,_,_,_,rfl,_⟩:=h; show 1<=54; decide) 54 rfl ?_;rintro xs r w0 G0 ⟨n,⟨⟨c1Y,c1Ag,c1P,c1Z,c1T,c1U,c1Af,c1Ad⟩,c1Q⟩,y0,y1,h,rfl,rfl⟩ _;rw[zBG]at h;refine zSV ?_;refine zSg [4] [11] rfl ?_;obtain⟨⟨e2A,e2C,e2D,e2B⟩,he2,h⟩:=zAc h;refine And.intro (zAO Nd.encs_eq he2).1 ?_;intro r3 hr3;obtain rfl:[.int .i64 e2A,.str e2C,.int .i64 e2D,.sl 4 (Nd.encs e2B)]=r3:=(hr3.trans (zAO Nd.encs_eq he2).2.1).symm
 obtain⟨⟨y4A,y4C,y4D,y4B⟩,hy4,h⟩:=zAc h;refine⟨_,_,⟨_,_,hy4,rfl,rfl,rfl,rfl⟩,?_⟩
 refine zAa ?_;refine zAa ?_;refine zBx [] [] [3,4] rfl (by decide +kernel) ?_;obtain⟨y5,hy5,h⟩:=zAc h;refine⟨_,⟨_,_,hy5,rfl,rfl⟩,?_⟩
 refine zAj rfl h (fun hb h=>?_) (fun hb h=>?_)
 ·refine zSV ?_;refine zAg ?_;obtain⟨hj1,hk1⟩:=pij h;subst hj1 hk1;exact fin0 rfl rfl
 ·refine zAe ?_;refine zSV ?_;obtain⟨⟨e6A,e6C,e6D,e6B⟩,he6,h⟩:=zAc h;refine And.intro (zAO Nd.encs_eq he6).1 ?_;refine And.intro (zAO Nd.encs_eq he6).2.2 ?_;refine⟨_,(zAO Nd.encs_eq he6).2.1,?_⟩
  refine zSV ?_;obtain⟨⟨e7A,e7C,e7D,e7B⟩,he7,h⟩:=zAc h;refine And.intro (zAO Nd.encs_eq he7).1 ?_;have hset8:=(rset (R:=Nd.encs) (f:=Nd.enc) Nd.encs_eq he7 (Nd.mk e7A e7C e7D []) 3 4 [.sl 4 (Nd.encs [])] rfl)
  have hat8:=at_set he7 (Nd.mk e7A e7C e7D [])
  refine And.intro (zAO Nd.encs_eq he7).2.2 ?_;refine zAk (Le.rnm [(1,0),(0,1)] [(1,.s (.pt [.int .i64 c1Y,.sl 1 ((List.map (irow .i64)) c1Ag),.int .i64 c1P,.int .i64 c1Z,.sl 4 (Nd.encs c1T),.int .i64 c1U,.str c1Af,.str c1Ad,.sl 4 (Nd.encs c1Q)])),(4,.op 0 0),(5,.s (.sl 4 (Nd.encs e6B)))] [(0,.box 24 [.s (.int .i64 y4A),.s (.str y4C),.s (.int .i64 y4D),.orow 1]),(1,.row 24 4 (Nd.encs (y4B.set c1U.toNat (Nd.mk e7A e7C e7D []))))] 2 ⟨rfl,rfl,rfl,trivial⟩ ⟨rfl,⟨_,rfl,rfl⟩,rfl,⟨_,rfl,congrArg (Ob.row 24 4) hset8⟩,trivial⟩) ?_;refine zAa ?_
  refine zAa ?_;obtain⟨x9,hj,h⟩:=zAc h;refine zAo ⟨ofL [(1,.s (.pt [.int .i64 c1Y,.sl 1 ((List.map (irow .i64)) c1Ag),.int .i64 c1P,.int .i64 c1Z,.sl 4 (Nd.encs c1T),.int .i64 c1U,.str c1Af,.str c1Ad,.sl 4 (Nd.encs c1Q)])),(5,.s (.sl 4 (Nd.encs e6B))),(50,.s (.bool x9))],fun _=>none,0⟩ ?_ (fun σ' hle=>?_)
  ·replace h:=hj;refine zBx [] [36,41,46] [7,13] rfl (by decide +kernel) ?_;intro n10 hn10;obtain rfl:(e6B.length:Int)=n10:=(hn10.trans (congrArg (fun m:Nat=>(m:Int)) (rlen Nd.encs_eq e6B))).symm;intro b hb;cases b with
   | true =>
    replace h:=zAu hb.symm h;cases h;exact(Le.rnm [] _ [] 0 ⟨rfl,rfl,rfl,trivial⟩ trivial)
   | false =>
    replace h:=zAt hb.symm h;obtain⟨⟨e11A,e11C,e11D,e11B⟩,he11,h⟩:=zAc h;refine And.intro (zAO Nd.encs_eq he11).1 ?_;intro r12 hr12;obtain rfl:[.int .i64 e11A,.str e11C,.int .i64 e11D,.sl 4 (Nd.encs e11B)]=r12:=(hr12.trans (zAO Nd.encs_eq he11).2.1).symm;obtain⟨y13,hy13,h⟩:=zAc h;refine⟨_,⟨_,_,_,_,hy13,rfl,rfl⟩,?_⟩
    cases h;exact(Le.rnm [] _ [] 0 ⟨rfl,rfl,rfl,trivial⟩ trivial)
  ·refine zAk hle ?_;refine zAj rfl h (fun hb h=>?_) (fun hb h=>?_)
   ·refine zSV ?_;refine zAg ?_;obtain⟨hj1,hk1⟩:=pij h;subst hj1 hk1;exact fin0 rfl rfl
   ·refine zAe ?_;refine zSV ?_;obtain⟨y14,hy14,h⟩:=zAc h;refine⟨_,⟨_,_,_,_,_,hy14,rfl,rfl⟩,?_⟩
    refine zAg ?_;obtain⟨hj1,hk1⟩:=pij h;subst hj1 hk1;exact fin0 rfl rfl
def zE3 (xs:List AV) (r:Ret):Prop:=∃ (a0:(zO8×List Nd)) (y0:List Nd) (y1:Int),zBH a0=some (y0,y1)/\xs=[.agg ((zAC a0).map .s)]/\r = .val (.tup [.s (.sl 4 (Nd.encs y0)),.s (.int .i64 y1)])
def zE6:zAp:=zAr fun xs r=>zE3 xs r
theorem zEN:PSound Try.prog 80 zE6:=by
 have gok:∀ f s,look? f [(25,zBq),(86,zET)]=some s->PSound Try.prog f s:=zAm (by
  simp only[List.forall_mem_cons]
  exact⟨zBl,zFF,by simp⟩)
 refine zAw tokW Try.call80 Try.func80 rfl (fun xs r h=>by obtain⟨_,_,_,_,rfl,_⟩:=h; show 1<=54; decide) 54 rfl ?_;rintro xs r w0 G0 ⟨⟨⟨c1Y,c1Ag,c1P,c1Z,c1T,c1U,c1Af,c1Ad⟩,c1Q⟩,y0,y1,h,rfl,rfl⟩ _;rw[zBH]at h;refine zSV ?_;refine zSg [4] [11] rfl ?_;obtain⟨⟨e2A,e2C,e2D,e2B⟩,he2,h⟩:=zAc h;refine And.intro (zAO Nd.encs_eq he2).1 ?_;intro r3 hr3;obtain rfl:[.int .i64 e2A,.str e2C,.int .i64 e2D,.sl 4 (Nd.encs e2B)]=r3:=(hr3.trans (zAO Nd.encs_eq he2).2.1).symm
 obtain⟨⟨y4A,y4C,y4D,y4B⟩,hy4,h⟩:=zAc h;refine⟨_,⟨_,_,hy4,rfl,rfl⟩,?_⟩
 refine zAa ?_;refine zAa ?_;refine zBx [] [] [3] rfl (by decide +kernel) ?_;obtain⟨y5,hy5,h⟩:=zAc h;refine⟨_,⟨_,_,hy5,rfl,rfl⟩,?_⟩
 refine zAj rfl h (fun hb h=>?_) (fun hb h=>?_)
 ·refine zSV ?_;refine zAg ?_;obtain⟨hj1,hk1⟩:=pij h;subst hj1 hk1;exact fin0 rfl rfl
 ·refine zAe ?_;refine zAa ?_;cases h
def zHA (n:Nat) (xs:List AV) (r:Ret):Prop:=∃ (a0:(zO8×List Nd)) (y0:List Nd) (y1:Int),zC9 n a0=some (y0,y1)/\xs=[.agg ((zAC a0).map .s)]/\r = .val (.tup [.s (.sl 4 (Nd.encs y0)),.s (.int .i64 y1)])
def zES:zAp:=zAr fun xs r=>∃ n,zHA n xs r
theorem zSJ {α:Type}{a b:α} (h:a=b:=by simp[List.map_append,List.map_take,List.map_drop,irow,brow,zGq,List.map_cons,List.map_nil,zF2,Nd.encs_eq,Nd.enc,zBA,zAQ,zBM,zAL,zAC]):a=b :=
 h
theorem zHn:PSound Try.prog 79 zES:=by
 have gok:∀ f s,look? f [(25,zC2),(90,zD5),(87,zBd)]=some s->PSound Try.prog f s:=zAm (by
  simp only[List.forall_mem_cons]
  exact⟨zDY,zGh,zBt,by simp⟩)
 refine zAw tokW Try.call79 Try.func79 rfl (fun xs r h=>by obtain⟨n,_,_,_,_,rfl,_⟩:=h; show 1<=39; decide) 39 rfl ?_;rintro xs r w0 G0 ⟨n,⟨⟨c1Y,c1Ag,c1P,c1Z,c1T,c1U,c1Af,c1Ad⟩,c1Q⟩,y0,y1,h,rfl,rfl⟩ _;rw[zC9]at h;refine zSV ?_;refine zSg [4] [8] rfl ?_;obtain⟨⟨e2A,e2C,e2D,e2B⟩,he2,h⟩:=zAc h;refine And.intro (zAO Nd.encs_eq he2).1 ?_;intro r3 hr3;obtain rfl:[.int .i64 e2A,.str e2C,.int .i64 e2D,.sl 4 (Nd.encs e2B)]=r3:=(hr3.trans (zAO Nd.encs_eq he2).2.1).symm
 obtain⟨⟨y4A,y4C,y4D,y4B⟩,hy4,h⟩:=zAc h;refine⟨_,_,⟨_,_,hy4,rfl,rfl,rfl,rfl⟩,?_⟩
 refine zAa ?_;refine zBx [] [28] [1,19,21] rfl (by decide +kernel) ?_;obtain⟨hq,h⟩:=zAy h;refine And.intro ⟨hq.1,hq.2.1,Int.le_trans hq.2.2 (Int.ofNat_le.2 (Nat.le_of_eq (rlen Nd.encs_eq _).symm))⟩ ?_;intro r5 hr5;obtain rfl:Nd.encs ((c1Q.take (IntKind.i64.wrap (c1P+c1Z)).toNat).drop c1P.toNat)=r5:=(hr5.trans (rcut Nd.encs_eq _ _ _)).symm;obtain⟨y6,hy6,h⟩:=zAc h;refine⟨_,⟨_,_,hy6,rfl,rfl⟩,?_⟩
 obtain⟨⟨e7A,e7C,e7D,e7B⟩,he7,h⟩:=zAc h;refine And.intro (zAO Nd.encs_eq he7).1 ?_;have hset8:=(rset (R:=Nd.encs) (f:=Nd.enc) Nd.encs_eq he7 (Nd.mk e7A e7C e7D y6) 3 4 [.sl 4 (Nd.encs y6)] rfl)
 have hat8:=at_set he7 (Nd.mk e7A e7C e7D y6)
 refine And.intro (zAO Nd.encs_eq he7).2.2 ?_;show Tri ..
 refine zAk (Le.trans (Le.trans (Le.trans (Le.rnm [(1,0),(0,1)] [(1,.s (.pt [.int .i64 c1Y,.sl 1 ((List.map (irow .i64)) c1Ag),.int .i64 c1P,.int .i64 c1Z,.sl 4 (Nd.encs c1T),.int .i64 c1U,.str c1Af,.str c1Ad,.sl 4 (Nd.encs c1Q)])),(4,.op 0 0)] [(0,.box 24 [.s (.int .i64 y4A),.s (.str y4C),.s (.int .i64 y4D),.orow 1]),(1,.row 24 4 (Nd.encs (y4B.set c1U.toNat (Nd.mk e7A e7C e7D y6))))] 2 ⟨rfl,rfl,trivial⟩ ⟨rfl,⟨_,rfl,rfl⟩,rfl,⟨_,rfl,congrArg (Ob.row 24 4) hset8⟩,trivial⟩) (Le.giveRow 1 rfl)) (Le.rnm [(0,0)] [(1,.s (.pt [.int .i64 c1Y,.sl 1 ((List.map (irow .i64)) c1Ag),.int .i64 c1P,.int .i64 c1Z,.sl 4 (Nd.encs c1T),.int .i64 c1U,.str c1Af,.str c1Ad,.sl 4 (Nd.encs c1Q)])),(4,.op 0 0)] [(0,.box 24 [.s (.int .i64 y4A),.s (.str y4C),.s (.int .i64 y4D),.s (.sl 4 (Nd.encs (y4B.set c1U.toNat (Nd.mk e7A e7C e7D y6))))])] 1 ⟨rfl,rfl,trivial⟩ ⟨rfl,⟨_,rfl,rfl⟩,trivial⟩)) (Le.giveBox 0 [.int .i64 y4A,.str y4C,.int .i64 y4D,.sl 4 (Nd.encs (y4B.set c1U.toNat (Nd.mk e7A e7C e7D y6)))] rfl rfl)) ?_
 refine zSg [] [37] rfl ?_;intro r9 hr9;obtain rfl:Nd.encs [Nd.mk y4A y4C y4D (y4B.set c1U.toNat (Nd.mk e7A e7C e7D y6))]=r9:=(hr9.trans zSJ).symm;obtain⟨y10,hy10,h⟩:=zAc h;refine⟨_,⟨_,_,_,_,_,hy10,rfl,rfl⟩,?_⟩
 refine zAg ?_;obtain⟨hj1,hk1⟩:=pij h;subst hj1 hk1;exact fin0 rfl rfl
def zGA (n:Nat) (xs:List AV) (r:Ret):Prop:=∃ (a0:(zO8×List Nd)) (y0:List Nd) (y1:Int),zCG n a0=some (y0,y1)/\xs=[.agg ((zAC a0).map .s)]/\r = .val (.tup [.s (.sl 4 (Nd.encs y0)),.s (.int .i64 y1)])
def zD1:zAp:=zAr fun xs r=>∃ n,zGA n xs r
theorem zGd:PSound Try.prog 77 zD1:=by
 have gok:∀ f s,look? f [(87,zBd)]=some s->PSound Try.prog f s:=zAm (by
  simp only[List.forall_mem_cons]
  exact⟨zBt,by simp⟩)
 refine zAw tokW Try.call77 Try.func77 rfl (fun xs r h=>by obtain⟨n,_,_,_,_,rfl,_⟩:=h; show 1<=9; decide) 9 rfl ?_;rintro xs r w0 G0 ⟨n,⟨⟨c1Y,c1Ag,c1P,c1Z,c1T,c1U,c1Af,c1Ad⟩,c1Q⟩,y0,y1,h,rfl,rfl⟩ _;rw[zCG]at h;refine zSV ?_;refine zSV ?_;obtain⟨y2,hy2,h⟩:=zAc h;refine⟨_,⟨_,_,_,_,_,hy2,rfl,rfl⟩,?_⟩
 refine zAg ?_;obtain⟨hj1,hk1⟩:=pij h;subst hj1 hk1;exact fin0 rfl rfl
def zGB (n:Nat) (xs:List AV) (r:Ret):Prop:=∃ (a0:(zO8×List Nd)) (y0:List Nd) (y1:Int),zCH n a0=some (y0,y1)/\xs=[.agg ((zAC a0).map .s)]/\r = .val (.tup [.s (.sl 4 (Nd.encs y0)),.s (.int .i64 y1)])
def zD2:zAp:=zAr fun xs r=>∃ n,zGB n xs r
theorem zGe:PSound Try.prog 78 zD2:=by
 have gok:∀ f s,look? f [(88,zCV),(87,zBd)]=some s->PSound Try.prog f s:=zAm (by
  simp only[List.forall_mem_cons]
  exact⟨zFb,zBt,by simp⟩)
 refine zAw tokW Try.call78 Try.func78 rfl (fun xs r h=>by obtain⟨n,_,_,_,_,rfl,_⟩:=h; show 1<=28; decide) 28 rfl ?_;rintro xs r w0 G0 ⟨n,⟨⟨c1Y,c1Ag,c1P,c1Z,c1T,c1U,c1Af,c1Ad⟩,c1Q⟩,y0,y1,h,rfl,rfl⟩ _;rw[zCH]at h;refine zSV ?_;refine zSg [] [8] rfl ?_;intro n2 hn2;obtain rfl:(c1T.length:Int)=n2:=(hn2.trans (congrArg (fun m:Nat=>(m:Int)) (rlen Nd.encs_eq c1T))).symm;refine zAa ?_;refine zAa ?_;refine zBx [] [19] [] rfl (by decide +kernel) ?_
 obtain⟨hq,h⟩:=zAy h;refine And.intro ⟨hq.1,hq.2.1,Int.le_trans hq.2.2 (Int.ofNat_le.2 (Nat.le_of_eq (rlen Nd.encs_eq _).symm))⟩ ?_;intro r3 hr3;obtain rfl:Nd.encs ((c1Q.take (IntKind.i64.wrap (c1P+(c1T.length:Int))).toNat).drop c1P.toNat)=r3:=(hr3.trans (rcut Nd.encs_eq _ _ _)).symm;obtain⟨y4,hy4,h⟩:=zAc h;refine⟨_,⟨_,_,_,_,hy4,rfl,rfl⟩,?_⟩
 refine zAj rfl h (fun hb h=>?_) (fun hb h=>?_)
 ·refine zSV ?_;refine zAg ?_;obtain⟨hj1,hk1⟩:=pij h;subst hj1 hk1;exact fin0 rfl rfl
 ·refine zAe ?_;refine zSV ?_;obtain⟨y5,hy5,h⟩:=zAc h;refine⟨_,⟨_,_,_,_,_,hy5,rfl,rfl⟩,?_⟩
  refine zAg ?_;obtain⟨hj1,hk1⟩:=pij h;subst hj1 hk1;exact fin0 rfl rfl
def zH8 (n:Nat) (xs:List AV) (r:Ret):Prop:=∃ (a0:(zO8×List Nd)) (y0:List Nd) (y1:Int),zDu n a0=some (y0,y1)/\xs=[.agg ((zAC a0).map .s)]/\r = .val (.tup [.s (.sl 4 (Nd.encs y0)),.s (.int .i64 y1)])
def zFh:zAp:=zAr fun xs r=>∃ n,zH8 n xs r
theorem zHS:PSound Try.prog 81 zFh:=by
 have gok:∀ f s,look? f [(87,zBd)]=some s->PSound Try.prog f s:=zAm (by
  simp only[List.forall_mem_cons]
  exact⟨zBt,by simp⟩)
 refine zAw tokW Try.call81 Try.func81 rfl (fun xs r h=>by obtain⟨n,_,_,_,_,rfl,_⟩:=h; show 1<=34; decide) 34 rfl ?_;rintro xs r w0 G0 ⟨n,⟨⟨c1Y,c1Ag,c1P,c1Z,c1T,c1U,c1Af,c1Ad⟩,c1Q⟩,y0,y1,h,rfl,rfl⟩ _;rw[zDu]at h;refine zSV ?_;refine zSg [4] [10] rfl ?_;obtain⟨⟨e2A,e2C,e2D,e2B⟩,he2,h⟩:=zAc h;refine And.intro (zAO Nd.encs_eq he2).1 ?_;intro r3 hr3;obtain rfl:[.int .i64 e2A,.str e2C,.int .i64 e2D,.sl 4 (Nd.encs e2B)]=r3:=(hr3.trans (zAO Nd.encs_eq he2).2.1).symm
 refine zAa ?_;refine zSV ?_;show Tri ..;obtain⟨fl,hj,ho1⟩:=zAc h;refine zDf (fl:=fl) (fun z=>match z with | _=>⟨ofL [(1,.s (.pt [.int .i64 c1Y,.sl 1 ((List.map (irow .i64)) c1Ag),.int .i64 c1P,.int .i64 c1Z,.sl 4 (Nd.encs c1T),.int .i64 c1U,.str c1Af,.str c1Ad,.sl 4 (Nd.encs c1Q)])),(4,.op 0 0)],ofH [(0,.box 24 [.s (.int .i64 e2A),.s (.str e2C),.s (.int .i64 e2D),.s (.sl 4 (Nd.encs e2B))])],1⟩) ?_ (fun z σ' hz hle=>?_)
 ·replace h:=hj;refine zAi ?_;refine zAa ?_;refine zSV ?_;show Tri ..;obtain⟨x4,hj,h⟩:=zAc h;refine zAo ⟨ofL [(1,.s (.pt [.int .i64 c1Y,.sl 1 ((List.map (irow .i64)) c1Ag),.int .i64 c1P,.int .i64 c1Z,.sl 4 (Nd.encs c1T),.int .i64 c1U,.str c1Af,.str c1Ad,.sl 4 (Nd.encs c1Q)])),(4,.op 0 0),(14,.s (.bool x4))],ofH [(0,.box 24 [.s (.int .i64 e2A),.s (.str e2C),.s (.int .i64 e2D),.s (.sl 4 (Nd.encs e2B))])],1⟩ ?_ (fun σ' hle=>?_)
  ·replace h:=hj;refine zAj rfl h (fun hb h=>?_) (fun hb h=>?_)
   ·refine zAe ?_;cases h;exact(Le.rnm [(0,0)] _ _ _ ⟨rfl,rfl,rfl,trivial⟩ ⟨rfl,⟨_,rfl,rfl⟩,trivial⟩)
   ·refine zSV ?_;refine zAj rfl h (fun hb h=>?_) (fun hb h=>?_)
    ·refine zAe ?_;cases h;exact(Le.rnm [(0,0)] _ _ _ ⟨rfl,rfl,rfl,trivial⟩ ⟨rfl,⟨_,rfl,rfl⟩,trivial⟩)
    ·refine zSV ?_;refine zAj rfl h (fun hb h=>?_) (fun hb h=>?_)
     ·refine zAe ?_;cases h;exact(Le.rnm [(0,0)] _ _ _ ⟨rfl,rfl,rfl,trivial⟩ ⟨rfl,⟨_,rfl,rfl⟩,trivial⟩)
     ·refine zSV ?_;refine zAj rfl h (fun hb h=>?_) (fun hb h=>?_)
      ·refine zAe ?_;cases h;exact(Le.rnm [(0,0)] _ _ _ ⟨rfl,rfl,rfl,trivial⟩ ⟨rfl,⟨_,rfl,rfl⟩,trivial⟩)
      ·refine zSU ?_;cases h;exact(Le.rnm [(0,0)] _ _ _ ⟨rfl,rfl,rfl,trivial⟩ ⟨rfl,⟨_,rfl,rfl⟩,trivial⟩)
  ·refine zAk hle ?_;refine zAj rfl h (fun hb h=>?_) (fun hb h=>?_)
   ·refine zAe ?_;cases h;exact⟨_,rfl,(Le.rnm [(0,0)] _ _ _ ⟨rfl,rfl,trivial⟩ ⟨rfl,⟨_,rfl,rfl⟩,trivial⟩)⟩
   ·refine zSV ?_;refine zAg ?_;cases h;replace h:some _=some _:=ho1;obtain⟨hj1,hk1⟩:=pij h;subst hj1 hk1;exact fin0 rfl rfl
 ·subst hz;obtain _:=z;replace h:=ho1;refine zAk hle ?_;refine zAa ?_;refine zSV ?_;refine zAj rfl h (fun hb h=>?_) (fun hb h=>?_)
  ·refine zSV ?_;refine zAg ?_;obtain⟨hj1,hk1⟩:=pij h;subst hj1 hk1;exact fin0 rfl rfl
  ·refine zAe ?_;refine zSV ?_;refine zSg [] [32] rfl ?_;intro r5 hr5;obtain rfl:Nd.encs [Nd.mk e2A c1Ad e2D e2B]=r5:=(hr5.trans zSJ).symm;obtain⟨y6,hy6,h⟩:=zAc h;refine⟨_,⟨_,_,_,_,_,hy6,rfl,rfl⟩,?_⟩
   refine zAg ?_;obtain⟨hj1,hk1⟩:=pij h;subst hj1 hk1;exact fin0 rfl rfl
def zGz (xs:List AV) (r:Ret):Prop:=∃ (a0:(zO8×List Nd)) (y0:Int),zBg a0=some y0/\xs=[.agg ((zAC a0).map .s)]/\r = .val (.s (.int .i64 y0))
def zCF:zAp:=zAr fun xs r=>zGz xs r
theorem zDR:PSound Try.prog 76 zCF:=by
 have gok:=@gok0 Try.prog;refine zAw tokW Try.call76 Try.func76 rfl (fun xs r h=>by obtain⟨_,_,_,rfl,_⟩:=h; show 1<=44; decide) 44 rfl ?_;rintro xs r w0 G0 ⟨⟨⟨c1Y,c1Ag,c1P,c1Z,c1T,c1U,c1Af,c1Ad⟩,c1Q⟩,y0,h,rfl,rfl⟩ _;rw[zBg]at h;refine zSV ?_;refine zSV ?_;refine zAa ?_;refine zSV ?_;show Tri ..;obtain⟨need2,hj,h⟩:=zAc h
 refine zAo ⟨ofL [(1,.s (.pt [.int .i64 c1Y,.sl 1 ((List.map (irow .i64)) c1Ag),.int .i64 c1P,.int .i64 c1Z,.sl 4 (Nd.encs c1T),.int .i64 c1U,.str c1Af,.str c1Ad,.sl 4 (Nd.encs c1Q)])),(3,.s (.int .i64 need2))],fun _=>none,0⟩ ?_ (fun σ' hle=>?_)
 ·replace h:=hj;refine zAi ?_;refine zSV ?_;refine zAj rfl h (fun hb h=>?_) (fun hb h=>?_)
  ·refine zSU ?_;cases h;exact(Le.forget _ ⟨rfl,rfl,trivial⟩)
  ·refine zSV ?_;refine zAj rfl h (fun hb h=>?_) (fun hb h=>?_)
   ·refine zAb [] [14] rfl ?_;intro n3 hn3;obtain rfl:(c1T.length:Int)=n3:=(hn3.trans (congrArg (fun m:Nat=>(m:Int)) (rlen Nd.encs_eq c1T))).symm;cases h;exact(Le.forget _ ⟨rfl,rfl,trivial⟩)
   ·refine zSV ?_;refine zAj rfl h (fun hb h=>?_) (fun hb h=>?_)
    ·refine zSU ?_;cases h;exact(Le.forget _ ⟨rfl,rfl,trivial⟩)
    ·refine zAe ?_;cases h;exact(Le.forget _ ⟨rfl,rfl,trivial⟩)
 ·refine zAk hle ?_;refine zAa ?_;refine zAa ?_;obtain⟨x4,hj,h⟩:=zAc h;refine zAo ⟨ofL [(43,.s (.bool x4))],fun _=>none,0⟩ ?_ (fun σ' hle=>?_)
  ·replace h:=hj;refine zAb [] [24,30,33,37] rfl ?_;intro b hb;cases b with
   | true =>
    replace h:=zAu hb.symm h;intro b hb;subst hb;cases h;exact(Le.forget _ ⟨rfl,trivial⟩)
   | false =>
    replace h:=zAt hb.symm h;intro n5 hn5;obtain rfl:(c1Q.length:Int)=n5:=(hn5.trans (congrArg (fun m:Nat=>(m:Int)) (rlen Nd.encs_eq c1Q))).symm;intro b hb;cases b with
    | true =>
     replace h:=zAu hb.symm h;cases h;exact(Le.forget _ ⟨rfl,trivial⟩)
    | false =>
     replace h:=zAt hb.symm h;intro n6 hn6;obtain rfl:(c1Q.length:Int)=n6:=(hn6.trans (congrArg (fun m:Nat=>(m:Int)) (rlen Nd.encs_eq c1Q))).symm;cases h;exact(Le.forget _ ⟨rfl,trivial⟩)
  ·refine zAk hle ?_;refine zAj rfl h (fun hb h=>?_) (fun hb h=>?_)
   ·refine zSV ?_;refine zAg ?_;have hy:=osi h;subst hy;exact fin0 rfl rfl
   ·refine zAe ?_;refine zSV ?_;refine zAg ?_;have hy:=osi h;subst hy;exact fin0 rfl rfl
def zI3 (n:Nat) (xs:List AV) (r:Ret):Prop:=∃ (a0:List Nd) (a1:Int) (y0:Bool),zDX n a0 a1=some y0/\xs=[.s (.sl 4 (Nd.encs a0)),.s (.int .i64 a1)]/\r = .val (.s (.bool y0))
def zFM:zAp:=zAr fun xs r=>∃ n,zI3 n xs r
theorem zIj:PSound Try.prog 74 zFM:=by
 have gok:∀ f s,look? f [(73,zDo),(86,zET)]=some s->PSound Try.prog f s:=zAm (by
  simp only[List.forall_mem_cons]
  exact⟨zE0,zFF,by simp⟩)
 refine zAw tokW Try.call74 Try.func74 rfl (fun xs r h=>by obtain⟨n,_,_,_,_,rfl,_⟩:=h; show 2<=35; decide) 35 rfl ?_;rintro xs r w0 G0 ⟨n,l1,slot2,y0,h,rfl,rfl⟩ _;rw[zDX]at h;refine zSV ?_;refine zAa ?_;refine zAa ?_;obtain⟨x3,hj,h⟩:=zAc h;refine zAo ⟨ofL [(0,.s (.sl 4 (Nd.encs l1))),(1,.s (.int .i64 slot2)),(24,.s (.bool x3))],fun _=>none,0⟩ ?_ (fun σ' hle=>?_)
 ·replace h:=hj;refine zAb [] [6,8,13,17,20] rfl ?_;intro n4 hn4;obtain rfl:(l1.length:Int)=n4:=(hn4.trans (congrArg (fun m:Nat=>(m:Int)) (rlen Nd.encs_eq l1))).symm;intro b hb;cases b with
  | true =>
   replace h:=zAu hb.symm h;intro b hb;subst hb;intro b hb;subst hb;cases h;exact(Le.forget _ ⟨rfl,rfl,rfl,trivial⟩)
  | false =>
   replace h:=zAt hb.symm h;obtain⟨y5,hy5,h⟩:=zAc h;refine⟨_,⟨_,_,_,hy5,rfl,rfl⟩,?_⟩
   intro b hb;cases b with
   | true =>
    replace h:=zAu hb.symm h;intro b hb;subst hb;cases h;exact(Le.forget _ ⟨rfl,rfl,rfl,trivial⟩)
   | false =>
    replace h:=zAt hb.symm h;intro b hb;cases b with
    | true =>
     replace h:=zAu hb.symm h;cases h;exact(Le.forget _ ⟨rfl,rfl,rfl,trivial⟩)
    | false =>
     replace h:=zAt hb.symm h;obtain⟨⟨e6A,e6C,e6D,e6B⟩,he6,h⟩:=zAc h;refine And.intro (zAO Nd.encs_eq he6).1 ?_;intro r7 hr7;obtain rfl:[.int .i64 e6A,.str e6C,.int .i64 e6D,.sl 4 (Nd.encs e6B)]=r7:=(hr7.trans (zAO Nd.encs_eq he6).2.1).symm;obtain⟨y8,hy8,h⟩:=zAc h;refine⟨_,⟨_,_,hy8,rfl,rfl⟩,?_⟩
     cases h;exact(Le.forget _ ⟨rfl,rfl,rfl,trivial⟩)
 ·refine zAk hle ?_;refine zAj rfl h (fun hb h=>?_) (fun hb h=>?_)
  ·refine zSV ?_;refine zAg ?_;have hy:=osi h;subst hy;exact fin0 rfl rfl
  ·refine zAe ?_;refine zSg [] [26,30,33] rfl ?_;obtain⟨⟨e9A,e9C,e9D,e9B⟩,he9,h⟩:=zAc h;refine And.intro (zAO Nd.encs_eq he9).1 ?_;intro r10 hr10;obtain rfl:[.int .i64 e9A,.str e9C,.int .i64 e9D,.sl 4 (Nd.encs e9B)]=r10:=(hr10.trans (zAO Nd.encs_eq he9).2.1).symm;obtain⟨⟨e11A,e11C,e11D,e11B⟩,he11,h⟩:=zAc h;refine And.intro (zAO Nd.encs_eq he11).1 ?_;intro r12 hr12;obtain rfl:[.int .i64 e11A,.str e11C,.int .i64 e11D,.sl 4 (Nd.encs e11B)]=r12:=(hr12.trans (zAO Nd.encs_eq he11).2.1).symm;intro n13 hn13
   obtain rfl:(e11B.length:Int)=n13:=(hn13.trans (congrArg (fun m:Nat=>(m:Int)) (rlen Nd.encs_eq e11B))).symm;refine zAg ?_;have hy:=osi h;subst hy;exact fin0 rfl rfl
def zAs (p:zO8):List S:=[.int .i64 p.1,.sl 1 ((List.map (irow .i64)) p.2.1),.int .i64 p.2.2.1,.int .i64 p.2.2.2.1,.sl 4 (Nd.encs p.2.2.2.2.1),.int .i64 p.2.2.2.2.2.1,.str p.2.2.2.2.2.2.1,.str p.2.2.2.2.2.2.2]
def zLG (n:Nat) (xs:List AV) (r:Ret):Prop:=∃ (a0:zO8) (y0:Bool),zBD n a0=some y0/\xs=[.agg ((zAs a0).map .s)]/\r = .val (.s (.bool y0))
def zFw:zAp:=zAr fun xs r=>∃ n,zLG n xs r
theorem zG0:PSound Try.prog 56 zFw:=by
 have gok:∀ f s,look? f [(73,zDo),(74,zFM)]=some s->PSound Try.prog f s:=zAm (by
  simp only[List.forall_mem_cons]
  exact⟨zE0,zIj,by simp⟩)
 refine zAw tokW Try.call56 Try.func56 rfl (fun xs r h=>by obtain⟨n,_,_,_,rfl,_⟩:=h; show 1<=80; decide) 80 rfl ?_;rintro xs r w0 G0 ⟨n,⟨a1A,a1Ac,a1Ae,a1Aa,a1G,a1Ab,a1X,a1C⟩,y0,h,rfl,rfl⟩ _;rw[zBD]at h;refine zSV ?_;refine zAa ?_;obtain⟨x2,hj,h⟩:=zAc h;refine zAo ⟨ofL [(1,.s (.pt [.int .i64 a1A,.sl 1 ((List.map (irow .i64)) a1Ac),.int .i64 a1Ae,.int .i64 a1Aa,.sl 4 (Nd.encs a1G),.int .i64 a1Ab,.str a1X,.str a1C])),(3,.s (.bool x2))],fun _=>none,0⟩ ?_ (fun σ' hle=>?_)
 ·replace h:=hj;refine zAb [] [7] rfl ?_;intro b hb;cases b with
  | true =>
   replace h:=zAu hb.symm h;cases h;exact(Le.forget _ ⟨rfl,rfl,trivial⟩)
  | false =>
   replace h:=zAt hb.symm h;cases h;exact(Le.forget _ ⟨rfl,rfl,trivial⟩)
 ·refine zAk hle ?_;refine zAa ?_;refine zSV ?_;show Tri ..;obtain⟨fl,hj,ho1⟩:=zAc h;refine zDf (fl:=fl) (fun z=>match z with | _=>⟨ofL [],fun _=>none,0⟩) ?_ (fun z σ' hz hle=>?_)
  ·replace h:=hj;refine zAi ?_;refine zAa ?_;refine zSV ?_;show Tri ..;obtain⟨x3,hj,h⟩:=zAc h;refine zAo ⟨ofL [(1,.s (.pt [.int .i64 a1A,.sl 1 ((List.map (irow .i64)) a1Ac),.int .i64 a1Ae,.int .i64 a1Aa,.sl 4 (Nd.encs a1G),.int .i64 a1Ab,.str a1X,.str a1C])),(3,.s (.bool x2)),(13,.s (.int .i64 a1A)),(14,.s (.bool x3))],fun _=>none,0⟩ ?_ (fun σ' hle=>?_)
   ·replace h:=hj;refine zAj rfl h (fun hb h=>?_) (fun hb h=>?_)
    ·refine zAe ?_;cases h;exact(Le.forget _ ⟨rfl,rfl,rfl,rfl,trivial⟩)
    ·refine zSU ?_;cases h;exact(Le.forget _ ⟨rfl,rfl,rfl,rfl,trivial⟩)
   ·refine zAk hle ?_;refine zAj rfl h (fun hb h=>?_) (fun hb h=>?_)
    ·refine zAa ?_;obtain⟨x4,hj,h⟩:=zAc h;refine zAo ⟨ofL [(2,.s (.bool x4))],fun _=>none,0⟩ ?_ (fun σ' hle=>?_)
     ·replace h:=hj;refine zAb [] [20,25,29,32,35] rfl ?_;intro b hb;cases b with
      | true =>
       replace h:=zAu hb.symm h;intro b hb;cases b with
       | true =>
        replace h:=zAu hb.symm h;intro b hb;cases b with
        | true =>
         replace h:=zAu hb.symm h;intro n5 hn5;obtain rfl:(a1G.length:Int)=n5:=(hn5.trans (congrArg (fun m:Nat=>(m:Int)) (rlen Nd.encs_eq a1G))).symm;intro b hb;cases b with
         | true =>
          replace h:=zAu hb.symm h;obtain⟨y6,hy6,h⟩:=zAc h;refine⟨_,⟨_,_,_,hy6,rfl,rfl⟩,?_⟩
          cases h;exact(Le.forget _ ⟨rfl,trivial⟩)
         | false =>
          replace h:=zAt hb.symm h;cases h;exact(Le.forget _ ⟨rfl,trivial⟩)
        | false =>
         replace h:=zAt hb.symm h;intro b hb;subst hb;cases h;exact(Le.forget _ ⟨rfl,trivial⟩)
       | false =>
        replace h:=zAt hb.symm h;intro b hb;subst hb;intro b hb;subst hb;cases h;exact(Le.forget _ ⟨rfl,trivial⟩)
      | false =>
       replace h:=zAt hb.symm h;intro b hb;subst hb;intro b hb;subst hb;intro b hb;subst hb;cases h;exact(Le.forget _ ⟨rfl,trivial⟩)
     ·refine zAk hle ?_;refine zAg ?_;cases h;replace h:some _=some _:=ho1;have hy:=osi h;subst hy;exact fin0 rfl rfl
    ·refine zAa ?_;refine zSV ?_;show Tri ..;obtain⟨x7,hj,h⟩:=zAc h;refine zAo ⟨ofL [(1,.s (.pt [.int .i64 a1A,.sl 1 ((List.map (irow .i64)) a1Ac),.int .i64 a1Ae,.int .i64 a1Aa,.sl 4 (Nd.encs a1G),.int .i64 a1Ab,.str a1X,.str a1C])),(3,.s (.bool x2)),(13,.s (.int .i64 a1A)),(40,.s (.bool x7))],fun _=>none,0⟩ ?_ (fun σ' hle=>?_)
     ·replace h:=hj;refine zAj rfl h (fun hb h=>?_) (fun hb h=>?_)
      ·refine zAe ?_;cases h;exact(Le.forget _ ⟨rfl,rfl,rfl,rfl,trivial⟩)
      ·refine zSU ?_;cases h;exact(Le.forget _ ⟨rfl,rfl,rfl,rfl,trivial⟩)
     ·refine zAk hle ?_;refine zAj rfl h (fun hb h=>?_) (fun hb h=>?_)
      ·refine zAa ?_;obtain⟨x8,hj,h⟩:=zAc h;refine zAo ⟨ofL [(2,.s (.bool x8))],fun _=>none,0⟩ ?_ (fun σ' hle=>?_)
       ·replace h:=hj;refine zAb [] [46,50] rfl ?_;intro b hb;cases b with
        | true =>
         replace h:=zAu hb.symm h;intro b hb;cases b with
         | true =>
          replace h:=zAu hb.symm h;obtain⟨y9,hy9,h⟩:=zAc h;refine⟨_,⟨_,_,_,_,hy9,rfl,rfl⟩,?_⟩
          cases h;exact(Le.forget _ ⟨rfl,trivial⟩)
         | false =>
          replace h:=zAt hb.symm h;cases h;exact(Le.forget _ ⟨rfl,trivial⟩)
        | false =>
         replace h:=zAt hb.symm h;intro b hb;subst hb;cases h;exact(Le.forget _ ⟨rfl,trivial⟩)
       ·refine zAk hle ?_;refine zAg ?_;cases h;replace h:some _=some _:=ho1;have hy:=osi h;subst hy;exact fin0 rfl rfl
      ·refine zSV ?_;refine zAj rfl h (fun hb h=>?_) (fun hb h=>?_)
       ·refine zAa ?_;obtain⟨x10,hj,h⟩:=zAc h;refine zAo ⟨ofL [(2,.s (.bool x10))],fun _=>none,0⟩ ?_ (fun σ' hle=>?_)
        ·replace h:=hj;refine zAb [] [62,67,70,73] rfl ?_;intro b hb;cases b with
         | true =>
          replace h:=zAu hb.symm h;intro b hb;cases b with
          | true =>
           replace h:=zAu hb.symm h;intro n11 hn11;obtain rfl:(a1G.length:Int)=n11:=(hn11.trans (congrArg (fun m:Nat=>(m:Int)) (rlen Nd.encs_eq a1G))).symm;intro b hb;cases b with
           | true =>
            replace h:=zAu hb.symm h;cases h;exact(Le.forget _ ⟨rfl,trivial⟩)
           | false =>
            replace h:=zAt hb.symm h;cases h;exact(Le.forget _ ⟨rfl,trivial⟩)
          | false =>
           replace h:=zAt hb.symm h;intro b hb;subst hb;cases h;exact(Le.forget _ ⟨rfl,trivial⟩)
         | false =>
          replace h:=zAt hb.symm h;intro b hb;subst hb;intro b hb;subst hb;cases h;exact(Le.forget _ ⟨rfl,trivial⟩)
        ·refine zAk hle ?_;refine zAg ?_;cases h;replace h:some _=some _:=ho1;have hy:=osi h;subst hy;exact fin0 rfl rfl
       ·refine zAe ?_;cases h;exact⟨_,rfl,(Le.forget _ trivial)⟩
  ·subst hz;obtain _:=z;replace h:=ho1;refine zAk hle ?_;refine zSV ?_;refine zAg ?_;have hy:=osi h;subst hy;exact fin0 rfl rfl
def zN7 (xs:List AV) (r:Ret):Prop:=∃ (a0:List Int) (y0:List Int),zDt a0=some y0/\xs=[.s (.sl 1 ((List.map (irow .i64)) a0))]/\r = .val (.s (.sl 1 ((List.map (irow .i64)) y0)))
def zDn:zAp:=zAr fun xs r=>zN7 xs r
theorem zDQ:PSound Try.prog 42 zDn:=by
 have gok:∀ f s,look? f [(62,zEr)]=some s->PSound Try.prog f s:=zAm (by
  simp only[List.forall_mem_cons]
  exact⟨zGI,by simp⟩)
 refine zAw tokW Try.call42 Try.func42 rfl (fun xs r h=>by obtain⟨_,_,_,rfl,_⟩:=h; show 1<=5; decide) 5 rfl ?_;rintro xs r w0 G0 ⟨l1,y0,h,rfl,rfl⟩ _;rw[zDt]at h;refine zSV ?_;refine zSV ?_;obtain⟨y2,hy2,h⟩:=zAc h;refine⟨_,⟨_,_,hy2,rfl,rfl⟩,?_⟩
 refine zAg ?_;have hy:=osi h;subst hy;exact fin0 rfl rfl
def zML (n:Nat) (xs:List AV) (r:Ret):Prop:=∃ (a0:List Nd) (y0:List Nd),zF9 n a0=some y0/\xs=[.s (.sl 4 (Nd.encs a0))]/\r = .row 24 4 (Nd.encs y0)
def zIA:zAp:=zAr fun xs r=>∃ n,zML n xs r
theorem zR8 {α:Type}{a b:α} (h:a=b:=by simp[List.map_append,List.map_take,List.map_drop,irow,brow,zGq,List.map_cons,List.map_nil,zF2,Nd.encs_eq,Nd.enc,zBA,zAQ,zBM,zAL,zAC,zAs]):a=b :=
 h
theorem zMc:PSound Try.prog 82 zIA:=by
 have gok:∀ f s,look? f [(25,zBq)]=some s->PSound Try.prog f s:=zAm (by
  simp only[List.forall_mem_cons]
  exact⟨zBl,by simp⟩)
 refine zAw tokW Try.call82 Try.func82 rfl (fun xs r h=>by obtain⟨n,_,_,_,rfl,_⟩:=h; show 1<=20; decide) 20 rfl ?_;rintro xs r w0 G0 ⟨n,l1,y0,h,rfl,rfl⟩ _;rw[zF9]at h;refine zSg [2] [] rfl ?_;refine zAk (Le.rnm [] [(0,.s (.sl 4 (Nd.encs l1)))] [] 0 ⟨rfl,trivial⟩ trivial) ?_;refine zSg [3] [] rfl ?_;show Tri ..
 refine zAk (Le.rnm [(0,0)] [(0,.s (.sl 4 (Nd.encs l1))),(3,.orow 0)] [(0,.row 24 4 (Nd.encs []))] 1 ⟨rfl,rfl,trivial⟩ ⟨rfl,⟨_,rfl,congrArg (Ob.row 24 4) zR8⟩,trivial⟩) ?_;refine zAa ?_;refine zSg [] [6] rfl ?_;intro n2 hn2;obtain rfl:(l1.length:Int)=n2:=(hn2.trans (congrArg (fun m:Nat=>(m:Int)) (rlen Nd.encs_eq l1))).symm;show Tri ..;obtain⟨l6,hl,h⟩:=zAc h
 refine zAo ⟨ofL [(3,.orow 0)],ofH [(0,.row 24 4 (Nd.encs l6))],1⟩ ?_ (fun σ' hle=>?_)
 ·refine zAi (zAz (X:=Nat×Int×(List Nd)) (fun y=>match y with | (k,x4,l5)=>⟨ofL [(0,.s (.sl 4 (Nd.encs l1))),(3,.orow 0),(6,.s (.int .i64 (l1.length:Int))),(7,.s (.int .i64 x4))],ofH [(0,.row 24 4 (Nd.encs l5))],1⟩) (fun y=>zCj l1 y.1 y.2.1 y.2.2=some l6) (fun y=>y.1) (n,0,[]) hl ?_ ?_)
  ·exact(Le.rnm [(0,0)] _ _ _ ⟨rfl,rfl,rfl,rfl,trivial⟩ ⟨rfl,⟨_,rfl,rfl⟩,trivial⟩)
  ·rintro⟨k,x4,l5⟩ h;cases k with
   | zero=>cases h
   | succ k =>
    replace h:zCj l1 (k+1) x4 l5=some l6:=h;rw[zCj]at h;refine zSV ?_;refine zAa ?_;refine zAj rfl h (fun hb h=>?_) (fun hb h=>?_)
    ·refine zAe ?_;refine zAa ?_;refine zAi ?_;refine zSV ?_;refine zAb [17] [13,16] rfl ?_;obtain⟨⟨e7A,e7C,e7D,e7B⟩,he7,h⟩:=zAc h;refine And.intro (zAO Nd.encs_eq he7).1 ?_;intro r8 hr8;obtain rfl:[.int .i64 e7A,.str e7C,.int .i64 e7D,.sl 4 (Nd.encs e7B)]=r8:=(hr8.trans (zAO Nd.encs_eq he7).2.1).symm;obtain⟨⟨y9A,y9C,y9D,y9B⟩,hy9,h⟩:=zAc h;refine⟨_,⟨_,_,hy9,rfl,rfl⟩,?_⟩
     intro r10 hr10;obtain rfl:Nd.encs [Nd.mk y9A y9C y9D y9B]=r10:=(hr10.trans zR8).symm;obtain⟨hq,h⟩:=zAy h
     refine And.intro (show((Nd.encs l5).length+(Nd.encs [Nd.mk y9A y9C y9D y9B]).length) * 56<=140737488355328/\(Nd.encs l5).length+(Nd.encs [Nd.mk y9A y9C y9D y9B]).length<=9223372036854775807 from by simp only[List.length_append,List.length_cons,List.length_nil,List.length_map,rlen Nd.encs_eq]at hq ⊢; omega) ?_;show Tri ..
     refine zAk (Le.rnm [(1,0)] [(0,.s (.sl 4 (Nd.encs l1))),(3,.orow 0),(6,.s (.int .i64 (l1.length:Int))),(7,.s (.int .i64 x4))] [(0,.row 24 4 (Nd.encs (l5++[Nd.mk y9A y9C y9D y9B])))] 1 ⟨rfl,rfl,rfl,rfl,trivial⟩ ⟨rfl,⟨_,rfl,congrArg (Ob.row 24 4) zR8⟩,trivial⟩) ?_;refine zSU ?_
     refine⟨(k,IntKind.i64.wrap (x4+1),l5++[Nd.mk y9A y9C y9D y9B]),h,(Le.rnm [(0,0)] _ _ _ ⟨rfl,rfl,rfl,rfl,trivial⟩ ⟨rfl,⟨_,rfl,rfl⟩,trivial⟩),Nat.lt_succ_self k⟩
    ·refine zAx ?_;cases h;exact(Le.rnm [(0,0)] _ _ _ ⟨rfl,trivial⟩ ⟨rfl,⟨_,rfl,rfl⟩,trivial⟩)
 ·refine zAk hle ?_;refine zSV ?_;refine zAg ?_;have hy:=osi h;subst hy;unfold zCQ;exact⟨_,Le.refl _ _,0,rfl,rfl⟩
def zPO (n:Nat) (xs:List AV) (r:Ret):Prop:=∃ (a0:zO8) (y0:zO8),zHQ n a0=some y0/\xs=[.agg ((zAs a0).map .s)]/\r = .val (.agg ((zAs y0).map .s))
def zJw:zAp:=zAr fun xs r=>∃ n,zPO n xs r
theorem zLm:PSound Try.prog 60 zJw:=by
 have gok:∀ f s,look? f [(42,zDn),(82,zIA)]=some s->PSound Try.prog f s:=zAm (by
  simp only[List.forall_mem_cons]
  exact⟨zDQ,zMc,by simp⟩)
 refine zAw tokW Try.call60 Try.func60 rfl (fun xs r h=>by obtain⟨n,_,_,_,rfl,_⟩:=h; show 1<=12; decide) 12 rfl ?_;rintro xs r w0 G0 ⟨n,⟨op1A,op1Ac,op1Ae,op1Aa,op1G,op1Ab,op1X,op1C⟩,y0,h,rfl,rfl⟩ _;rw[zHQ]at h;refine zSg [1,2] [] rfl ?_;refine zSV ?_;obtain⟨y2,hy2,h⟩:=zAc h;refine⟨_,⟨_,_,hy2,rfl,rfl⟩,?_⟩
 refine zSV ?_;obtain⟨y3,hy3,h⟩:=zAc h;refine⟨_,⟨_,_,_,hy3,rfl,rfl⟩,?_⟩
 refine zSV ?_;refine zAg ?_;have hy:=osi h;subst hy;exact fin0 rfl rfl
theorem zQv {P:Program}{f:Nat}{A B:List AV->Ret->Prop} (hA:PSound P f (zAr A)) (hB:PSound P f (zAr B)):PSound P f (zAr fun xs r=>A xs r∨B xs r) :=
 ⟨hA.1,fun G w xs vs r hl hg hp hv hs=>hs.elim (hA.2.1 G w xs vs r hl hg hp hv) (hB.2.1 G w xs vs r hl hg hp hv),fun R hR=>(by cases hR),fun R hR=>(by cases hR)⟩
theorem zOz {P:Program}{f:Nat}{A B:List AV->Ret->Prop} (hA:PSound P f (zAr A)) (h:∀ xs r,B xs r->A xs r):PSound P f (zAr B) :=
 ⟨hA.1,fun G w xs vs r hl hg hp hv hs=>hA.2.1 G w xs vs r hl hg hp hv (h xs r hs),fun R hR=>(by cases hR),fun R hR=>(by cases hR)⟩
def zGC (n:Nat) (xs:List AV) (r:Ret):Prop:=∃ (a0:(zO8×List Nd)) (y0:List Nd) (y1:Int),zCI n a0=some (y0,y1)/\xs=[.agg ((zAC a0).map .s)]/\r = .val (.tup [.s (.sl 4 (Nd.encs y0)),.s (.int .i64 y1)])
def zD3:zAp:=zAr fun xs r=>∃ n,zGC n xs r
theorem zGf:PSound Try.prog 80 zD3 :=
 zOz (zQv zEN zEM) fun xs r ⟨n,a,y,z,hm,hx,hr⟩=>by
  unfold zCI at hm;split at hm
  ·rename_i q hq
   obtain rfl:=Option.some.inj hm;exact .inl ⟨a,y,z,hq,hx,hr⟩
  ·exact .inr ⟨n,a,y,z,hm,hx,hr⟩
def zG6 (n:Nat) (xs:List AV) (r:Ret):Prop:=∃ (a0:(zO8×List Nd)) (y0:List Nd) (y1:Int),zCS n a0=some (y0,y1)/\xs=[.agg ((zAC a0).map .s)]/\r = .val (.tup [.s (.sl 4 (Nd.encs y0)),.s (.int .i64 y1)])
def zEp:zAp:=zAr fun xs r=>∃ n,zG6 n xs r
theorem zGF:PSound Try.prog 58 zEp:=by
 have gok:∀ f s,look? f [(76,zCF),(77,zD1),(78,zD2),(79,zES),(80,zD3),(81,zFh)]=some s->PSound Try.prog f s:=zAm (by
  simp only[List.forall_mem_cons]
  exact⟨zDR,zGd,zGe,zHn,zGf,zHS,by simp⟩)
 refine zAw tokW Try.call58 Try.func58 rfl (fun xs r h=>by obtain⟨n,_,_,_,_,rfl,_⟩:=h; show 1<=41; decide) 41 rfl ?_;rintro xs r w0 G0 ⟨n,⟨⟨c1Y,c1Ag,c1P,c1Z,c1T,c1U,c1Af,c1Ad⟩,c1Q⟩,y0,y1,h,rfl,rfl⟩ _;rw[zCS]at h;refine zSV ?_;refine zAa ?_;refine zSV ?_;obtain⟨y2,hy2,h⟩:=zAc h;refine⟨_,⟨_,_,hy2,rfl,rfl⟩,?_⟩
 refine zSV ?_;refine zAj rfl h (fun hb h=>?_) (fun hb h=>?_)
 ·refine zSV ?_;refine zAg ?_;obtain⟨hj1,hk1⟩:=pij h;subst hj1 hk1;exact fin0 rfl rfl
 ·refine zAe ?_;refine zAa ?_;refine zSV ?_;refine zAi ?_;refine zSV ?_;refine zAj rfl h (fun hb h=>?_) (fun hb h=>?_)
  ·refine zSV ?_;obtain⟨⟨y3,y4⟩,hy3,h⟩:=zAc h;refine⟨_,⟨_,_,_,_,hy3,rfl,rfl⟩,?_⟩
   refine zAg ?_;obtain⟨hj1,hk1⟩:=pij h;subst hj1 hk1;exact fin0 rfl rfl
  ·refine zSV ?_;refine zAj rfl h (fun hb h=>?_) (fun hb h=>?_)
   ·refine zSV ?_;obtain⟨⟨y5,y6⟩,hy5,h⟩:=zAc h;refine⟨_,⟨_,_,_,_,hy5,rfl,rfl⟩,?_⟩
    refine zAg ?_;obtain⟨hj1,hk1⟩:=pij h;subst hj1 hk1;exact fin0 rfl rfl
   ·refine zSV ?_;refine zAj rfl h (fun hb h=>?_) (fun hb h=>?_)
    ·refine zSV ?_;obtain⟨⟨y7,y8⟩,hy7,h⟩:=zAc h;refine⟨_,⟨_,_,_,_,hy7,rfl,rfl⟩,?_⟩
     refine zAg ?_;obtain⟨hj1,hk1⟩:=pij h;subst hj1 hk1;exact fin0 rfl rfl
    ·refine zSV ?_;refine zAj rfl h (fun hb h=>?_) (fun hb h=>?_)
     ·refine zSV ?_;obtain⟨⟨y9,y10⟩,hy9,h⟩:=zAc h;refine⟨_,⟨_,_,_,_,hy9,rfl,rfl⟩,?_⟩
      refine zAg ?_;obtain⟨hj1,hk1⟩:=pij h;subst hj1 hk1;exact fin0 rfl rfl
     ·refine zAe ?_;refine zSV ?_;obtain⟨⟨y11,y12⟩,hy11,h⟩:=zAc h;refine⟨_,⟨_,_,_,_,hy11,rfl,rfl⟩,?_⟩
      refine zAg ?_;obtain⟨hj1,hk1⟩:=pij h;subst hj1 hk1;exact fin0 rfl rfl
def zMM (n:Nat) (xs:List AV) (r:Ret):Prop:=∃ (a0:Nd) (a1:zO8) (y0:Nd) (y1:Int),zGa n a0 a1=some (y0,y1)/\xs=[.agg ((Nd.enc a0).map .s),.agg ((zAs a1).map .s)]/\r = .val (.tup [.agg ((Nd.enc y0).map .s),.s (.int .i64 y1)])
def zIB:zAp:=zAr fun xs r=>∃ n,zMM n xs r
theorem zMd:PSound Try.prog 38 zIB:=by
 have gok:∀ f s,look? f [(24,zBj),(56,zFw),(57,zIb),(58,zEp),(59,zHc)]=some s->PSound Try.prog f s:=zAm (by
  simp only[List.forall_mem_cons]
  exact⟨zBi,zG0,zJ4,zGF,zIU,by simp⟩)
 refine zAw tokW Try.call38 Try.func38 rfl (fun xs r h=>by obtain⟨n,_,_,_,_,_,rfl,_⟩:=h; show 2<=53; decide) 53 rfl ?_;rintro xs r w0 G0 ⟨n,⟨n1A,n1C,n1D,n1B⟩,⟨op2A,op2Ac,op2Ae,op2Aa,op2G,op2Ab,op2X,op2C⟩,y0,y1,h,rfl,rfl⟩ _;rw[zGa]at h;refine zSg [4] [] rfl ?_;refine zAa ?_;refine zSV ?_;obtain⟨y3,hy3,h⟩:=zAc h;refine⟨_,⟨_,_,_,hy3,rfl,rfl⟩,?_⟩
 refine zAj rfl h (fun hb h=>?_) (fun hb h=>?_)
 ·refine zSV ?_;refine zAg ?_;obtain⟨hj1,hk1⟩:=pij h;subst hj1 hk1;exact fin0 rfl rfl
 ·refine zAe ?_;refine zAa ?_;refine zSV ?_;obtain⟨y4,hy4,h⟩:=zAc h;refine⟨_,⟨_,_,_,hy4,rfl,rfl⟩,?_⟩
  refine zAj rfl h (fun hb h=>?_) (fun hb h=>?_)
  ·refine zSV ?_;refine zAg ?_;obtain⟨hj1,hk1⟩:=pij h;subst hj1 hk1;exact fin0 rfl rfl
  ·refine zAe ?_;refine zSg [6] [] rfl ?_;obtain⟨⟨⟨y5A,y5C,y5D,y5B⟩,y6⟩,hy5,h⟩:=zAc h;refine⟨_,⟨_,_,_,_,_,hy5,rfl,rfl⟩,?_⟩
   refine zAa ?_;refine zSV ?_;refine zAj rfl h (fun hb h=>?_) (fun hb h=>?_)
   ·refine zSV ?_;refine zAg ?_;obtain⟨hj1,hk1⟩:=pij h;subst hj1 hk1;exact fin0 rfl rfl
   ·refine zAe ?_;refine zSV ?_;obtain⟨⟨y7,y8⟩,hy7,h⟩:=zAc h;refine⟨_,⟨_,_,_,_,hy7,rfl,rfl⟩,?_⟩
    refine zAa ?_;refine zSV ?_;refine zAj rfl h (fun hb h=>?_) (fun hb h=>?_)
    ·refine zSV ?_;refine zAg ?_;obtain⟨hj1,hk1⟩:=pij h;subst hj1 hk1;exact fin0 rfl rfl
    ·refine zAe ?_;refine zSg [8] [] rfl ?_;obtain⟨⟨⟨y9A,y9C,y9D,y9B⟩,y10⟩,hy9,h⟩:=zAc h;refine⟨_,⟨_,_,_,_,_,_,hy9,rfl,rfl⟩,?_⟩
     refine zAk (Le.giveBox 2 [.int .i64 y9A,.str y9C,.int .i64 y9D,.sl 4 (Nd.encs y9B)] rfl rfl) ?_;refine zAa ?_;refine zSV ?_;refine zAj rfl h (fun hb h=>?_) (fun hb h=>?_)
     ·refine zSV ?_;refine zAg ?_;obtain⟨hj1,hk1⟩:=pij h;subst hj1 hk1;exact fin0 rfl rfl
     ·refine zAe ?_;refine zSV ?_;refine zAg ?_;obtain⟨hj1,hk1⟩:=pij h;subst hj1 hk1;exact fin0 rfl rfl
def zJt (n:Nat) (xs:List AV) (r:Ret):Prop:=∃ (a0:Nd) (a1:List zO8) (y0:Nd) (y1:Int) (y2:Int),zC7 n a0 a1=some (y0,y1,y2)/\xs=[.agg ((Nd.enc a0).map .s),.s (.sl 8 ((List.map zAs) a1))]/\r = .val (.tup [.agg ((Nd.enc y0).map .s),.s (.int .i64 y1),.s (.int .i64 y2)])
def zEo:zAp:=zAr fun xs r=>∃ n,zJt n xs r
theorem zFN:PSound Try.prog 26 zEo:=by
 have gok:∀ f s,look? f [(24,zBj),(25,zBq),(38,zIB)]=some s->PSound Try.prog f s:=zAm (by
  simp only[List.forall_mem_cons]
  exact⟨zBi,zBl,zMd,by simp⟩)
 refine zAw tokW Try.call26 Try.func26 rfl (fun xs r h=>by obtain⟨n,_,_,_,_,_,_,rfl,_⟩:=h; show 2<=39; decide) 39 rfl ?_;rintro xs r w0 G0 ⟨n,⟨n1A,n1C,n1D,n1B⟩,ops2,y0,y1,y2,h,rfl,rfl⟩ _;rw[zC7]at h;refine zSg [4] [] rfl ?_;refine zAa ?_;refine zSV ?_;obtain⟨y3,hy3,h⟩:=zAc h;refine⟨_,⟨_,_,_,hy3,rfl,rfl⟩,?_⟩
 refine zAj rfl h (fun hb h=>?_) (fun hb h=>?_)
 ·refine zSV ?_;refine zAg ?_;obtain⟨hj1,hk1⟩:=pij h;subst hj1;obtain⟨hj2,hk2⟩:=Prod.mk.inj hk1;subst hj2;subst hk2;exact fin0 rfl rfl
 ·refine zAe ?_;refine zSg [7] [] rfl ?_;obtain⟨⟨y4A,y4C,y4D,y4B⟩,hy4,h⟩:=zAc h;refine⟨_,⟨_,_,hy4,rfl,rfl⟩,?_⟩
  refine zAa ?_;refine zSg [] [19] rfl ?_;intro n5 hn5;obtain rfl:(ops2.length:Int)=n5:=(hn5.trans (congrArg (fun m:Nat=>(m:Int)) (rlen (fun _=>rfl) ops2))).symm;show Tri ..;obtain⟨fl,hl,ho1⟩:=zAc h;refine zDf (fl:=fl) (fun z=>match z with | ⟨x12,x13,x14,x15⟩=>⟨ofL [(4,.op 0 0),(7,.op 1 0)],ofH [(0,.box 24 [.s (.int .i64 0),.s (.str []),.s (.int .i64 0),.nl 4]),(1,.box 24 [.s (.int .i64 x12),.s (.str x13),.s (.int .i64 x14),.s (.sl 4 (Nd.encs x15))])],2⟩) ?_ (fun z σ' hz hle=>?_)
  ·refine zAi (zAz (X:=Nat×Int×(List UInt8)×Int×(List Nd)×Int) (fun y=>match y with | (k,x7,x8,x9,x10,x11)=>⟨ofL [(4,.op 0 0),(7,.op 1 0),(18,.s (.sl 8 ((List.map zAs) ops2))),(19,.s (.int .i64 (ops2.length:Int))),(20,.s (.int .i64 x11))],ofH [(0,.box 24 [.s (.int .i64 0),.s (.str []),.s (.int .i64 0),.nl 4]),(1,.box 24 [.s (.int .i64 x7),.s (.str x8),.s (.int .i64 x9),.s (.sl 4 (Nd.encs x10))])],2⟩) (fun y=>zBC n ops2 y.1 y.2.1 y.2.2.1 y.2.2.2.1 y.2.2.2.2.1 y.2.2.2.2.2=some fl) (fun y=>y.1) (n,y4A,y4C,y4D,y4B,0) hl ?_ ?_)
   ·exact(Le.rnm [(0,0),(1,1)] _ _ _ ⟨rfl,rfl,rfl,rfl,rfl,trivial⟩ ⟨rfl,⟨_,rfl,rfl⟩,rfl,⟨_,rfl,rfl⟩,trivial⟩)
   ·rintro⟨k,x7,x8,x9,x10,x11⟩ h;cases k with
    | zero=>cases h
    | succ k =>
     replace h:zBC n ops2 (k+1) x7 x8 x9 x10 x11=some fl:=h;rw[zBC]at h;refine zSV ?_;refine zAa ?_;refine zAj rfl h (fun hb h=>?_) (fun hb h=>?_)
     ·refine zAe ?_;refine zAa ?_;refine zAi ?_;refine zSg [9] [23] rfl ?_;obtain⟨⟨e16A,e16Ac,e16Ae,e16Aa,e16G,e16Ab,e16X,e16C⟩,he16,h⟩:=zAc h;refine And.intro (zAO (fun _=>rfl) he16).1 ?_;intro r17 hr17;obtain rfl:[.int .i64 e16A,.sl 1 ((List.map (irow .i64)) e16Ac),.int .i64 e16Ae,.int .i64 e16Aa,.sl 4 (Nd.encs e16G),.int .i64 e16Ab,.str e16X,.str e16C]=r17:=(hr17.trans (zAO (fun _=>rfl) he16).2.1).symm;show Tri ..
      refine zAk (Le.giveBox 2 [.int .i64 e16A,.sl 1 ((List.map (irow .i64)) e16Ac),.int .i64 e16Ae,.int .i64 e16Aa,.sl 4 (Nd.encs e16G),.int .i64 e16Ab,.str e16X,.str e16C] rfl rfl) ?_;refine zSg [10] [] rfl ?_;obtain⟨⟨⟨y18A,y18C,y18D,y18B⟩,y19⟩,hy18,h⟩:=zAc h;refine⟨_,⟨_,_,_,_,_,hy18,rfl,rfl⟩,?_⟩
      refine zAk (Le.giveBox 3 [.int .i64 y18A,.str y18C,.int .i64 y18D,.sl 4 (Nd.encs y18B)] rfl rfl) ?_;refine zAa ?_;refine zSV ?_;refine zAj rfl h (fun hb h=>?_) (fun hb h=>?_)
      ·refine zSV ?_;refine zAg ?_;cases h;replace h:some _=some _:=ho1;obtain⟨hj1,hk1⟩:=pij h;subst hj1;obtain⟨hj2,hk2⟩:=Prod.mk.inj hk1;subst hj2;subst hk2;exact fin0 rfl rfl
      ·refine zAe ?_;refine zSU ?_;refine zSU ?_;refine⟨(k,y18A,y18C,y18D,y18B,IntKind.i64.wrap (x11+1)),h,(Le.rnm [(0,0),(1,1)] _ _ _ ⟨rfl,rfl,rfl,rfl,rfl,trivial⟩ ⟨rfl,⟨_,rfl,rfl⟩,rfl,⟨_,rfl,rfl⟩,trivial⟩),Nat.lt_succ_self k⟩
     ·refine zAx ?_;cases h;exact⟨_,rfl,(Le.rnm [(0,0),(1,1)] _ _ _ ⟨rfl,rfl,trivial⟩ ⟨rfl,⟨_,rfl,rfl⟩,rfl,⟨_,rfl,rfl⟩,trivial⟩)⟩
  ·subst hz;obtain⟨x12,x13,x14,x15⟩:=z;replace h:=ho1;refine zAk hle ?_;refine zSV ?_;refine zAg ?_;obtain⟨hj1,hk1⟩:=pij h;subst hj1;obtain⟨hj2,hk2⟩:=Prod.mk.inj hk1;subst hj2;subst hk2;exact fin0 rfl rfl
def zLH (n:Nat) (xs:List AV) (r:Ret):Prop:=∃ (a0:zO8) (y0:zO8),zC8 n a0=some y0/\xs=[.agg ((zAs a0).map .s)]/\r = .val (.agg ((zAs y0).map .s))
def zHD:zAp:=zAr fun xs r=>∃ n,zLH n xs r
theorem zKH:PSound Try.prog 41 zHD:=by
 have gok:∀ f s,look? f [(60,zJw)]=some s->PSound Try.prog f s:=zAm (by
  simp only[List.forall_mem_cons]
  exact⟨zLm,by simp⟩)
 refine zAw tokW Try.call41 Try.func41 rfl (fun xs r h=>by obtain⟨n,_,_,_,rfl,_⟩:=h; show 1<=29; decide) 29 rfl ?_;rintro xs r w0 G0 ⟨n,⟨op1A,op1Ac,op1Ae,op1Aa,op1G,op1Ab,op1X,op1C⟩,y0,h,rfl,rfl⟩ _;rw[zC8]at h;refine zSg [2] [] rfl ?_;refine zSg [3] [] rfl ?_;obtain⟨⟨y2A,y2Ac,y2Ae,y2Aa,y2G,y2Ab,y2X,y2C⟩,hy2,h⟩:=zAc h;refine⟨_,⟨_,_,_,hy2,rfl,rfl⟩,?_⟩
 refine zAa ?_;refine zSV ?_;show Tri ..;obtain⟨⟨x3,x4,x5⟩,hj,h⟩:=zAc h;refine zAo ⟨ofL [(2,.op 0 0),(3,.op 1 0)],ofH [(0,.box 35 [.s (.int .i64 0),.nl 1,.s (.int .i64 0),.s (.int .i64 0),.nl 4,.s (.int .i64 0),.s (.str []),.s (.str [])]),(1,.box 35 [.s (.int .i64 x3),.s (.sl 1 ((List.map (irow .i64)) y2Ac)),.s (.int .i64 y2Ae),.s (.int .i64 y2Aa),.s (.sl 4 (Nd.encs y2G)),.s (.int .i64 y2Ab),.s (.str x4),.s (.str x5)])],2⟩ ?_ (fun σ' hle=>?_)
 ·replace h:=hj;refine zAi ?_;refine zSV ?_;refine zAj rfl h (fun hb h=>?_) (fun hb h=>?_)
  ·refine zSU ?_;cases h;exact(Le.rnm [(0,0),(1,1)] _ _ _ ⟨rfl,rfl,trivial⟩ ⟨rfl,⟨_,rfl,rfl⟩,rfl,⟨_,rfl,rfl⟩,trivial⟩)
  ·refine zSV ?_;refine zAj rfl h (fun hb h=>?_) (fun hb h=>?_)
   ·refine zSU ?_;cases h;exact(Le.rnm [(0,0),(1,1)] _ _ _ ⟨rfl,rfl,trivial⟩ ⟨rfl,⟨_,rfl,rfl⟩,rfl,⟨_,rfl,rfl⟩,trivial⟩)
   ·refine zSV ?_;refine zAj rfl h (fun hb h=>?_) (fun hb h=>?_)
    ·refine zSU ?_;cases h;exact(Le.rnm [(0,0),(1,1)] _ _ _ ⟨rfl,rfl,trivial⟩ ⟨rfl,⟨_,rfl,rfl⟩,rfl,⟨_,rfl,rfl⟩,trivial⟩)
    ·refine zSV ?_;refine zAj rfl h (fun hb h=>?_) (fun hb h=>?_)
     ·refine zSU ?_;cases h;exact(Le.rnm [(0,0),(1,1)] _ _ _ ⟨rfl,rfl,trivial⟩ ⟨rfl,⟨_,rfl,rfl⟩,rfl,⟨_,rfl,rfl⟩,trivial⟩)
     ·refine zSV ?_;refine zAj rfl h (fun hb h=>?_) (fun hb h=>?_)
      ·refine zBx [] [] [5,7] rfl (by decide +kernel) ?_;cases h;exact(Le.rnm [(0,0),(1,1)] _ _ _ ⟨rfl,rfl,trivial⟩ ⟨rfl,⟨_,rfl,rfl⟩,rfl,⟨_,rfl,rfl⟩,trivial⟩)
      ·refine zAe ?_;cases h;exact(Le.rnm [(0,0),(1,1)] _ _ _ ⟨rfl,rfl,trivial⟩ ⟨rfl,⟨_,rfl,rfl⟩,rfl,⟨_,rfl,rfl⟩,trivial⟩)
 ·refine zAk hle ?_;refine zSV ?_;refine zAg ?_;have hy:=osi h;subst hy;exact fin0 rfl rfl
end Go.Proofs.Ytffhjiplcfncdaa
namespace Go.Abs
def ownB (β:Nat->Value) (hp:Nat->Option Ob):Nat->Prop:=fun b=>∃ k ob,hp k=some ob/\blk (β k)=some b
def rcx (P:Program) (N m l:Nat) (w:World) (X G:Nat->Prop) (B:Nat->Value):Cx:={ P:=P,w0:=w,X:=X,G0:=G,N:=N,n0:=m,B0:=B,ro:=some l }
def lcx (P:Program) (N m:Nat) (w:World) (X G:Nat->Prop) (B:Nat->Value) (D:Nat):Cx:={ P:=P,w0:=w,X:=X,G0:=G,N:=N,n0:=m,B0:=B,ds:=[{ target:=.collected D,args:=#[] }] }
theorem ObAt.turn {c1 c2:Cx}{G:Nat->Prop}{w w2:World}{β:Nat->Value}{v:Value}{o:Ob} (hk:Keep G G w w2) (hb:∀ b,blk v=some b->w2.heap[b]? = w.heap[b]?) (hm:∀ b,blk v=some b->c2.mine b) (h:ObAt c1 G w β v o):ObAt c2 G w2 β v o:=by
 cases o with
 | box xs =>
  obtain⟨b,e,cur,q1,q2,q3,q4,q5,q6⟩:=h;exact⟨b,e,cur,q1,(hb b (by rw[q1]; rfl)).trans q2,q3,hm b (by rw[q1]; rfl),q5.keep hk,q6⟩
 | row e sz rows =>
  obtain⟨q1,q2,q3⟩:=h;refine⟨q1,q2,q3.imp id ?_⟩
  rintro⟨b,cap,cur,g1,g2,g3,⟨mk,hmk,g4⟩,g5,g6,g7⟩
  exact⟨b,cap,cur,g1,g2,g3,⟨mk,hmk,(hb b (by rw[g1]; rfl)).trans g4⟩,g5,hm b (by rw[g1]; rfl),fun i s hi=>let ⟨u,hu,hr⟩:=g7 i s hi; ⟨u,hu,hr.keep hk⟩⟩
 | arow e sz rows =>
  obtain⟨q1,q2,q3⟩:=h;refine⟨q1,q2,q3.imp id ?_⟩
  rintro⟨b,cap,cur,g1,g2,g3,⟨mk,hmk,g4⟩,g5,g6,g7⟩
  exact⟨b,cap,cur,g1,g2,g3,⟨mk,hmk,(hb b (by rw[g1]; rfl)).trans g4⟩,g5,hm b (by rw[g1]; rfl),fun i s hi=>let ⟨u,hu,hr,h1⟩:=g7 i s hi; ⟨u,hu,hr.keep hk,h1⟩⟩
theorem ObAt.cells {c:Cx}{G:Nat->Prop}{w:World}{β:Nat->Value}{v:Value}{o:Ob} (h:ObAt c G w β v o):∀ b,blk v=some b->∃ cur e f,w.heap[b]? = some (.cells cur e f):=fun b hb=>by
 cases o with
 | box xs =>
  obtain⟨b',e,cur,rfl,q2,_⟩:=h;cases hb; exact⟨_,_,_,q2⟩
 | row e sz rows =>
  obtain⟨_,_,h | ⟨b',cap,cur,rfl,_,_,q2,_⟩⟩:=h
  ·rw[h.1]at hb; cases hb
  ·cases hb; obtain⟨mk,_,q2⟩:=q2; exact⟨_,_,_,q2⟩
 | arow e sz rows =>
  obtain⟨_,_,h | ⟨b',cap,cur,rfl,_,_,q2,_⟩⟩:=h
  ·rw[h.1]at hb; cases hb
  ·cases hb; obtain⟨mk,_,q2⟩:=q2; exact⟨_,_,_,q2⟩
section
variable {c:Cx} {G:Nat->Prop} {β:Nat->Value} {σ:St} {a:Act} {w:World}
theorem Conc.not_own (hc:Conc c G β σ a w){l:Nat}{o:Obj} (hl:w.heap[l]? = some o) (ho:o.isCells=false):¬ ownB β σ.hp l:=fun⟨k,ob,h1,h2⟩=>by
 obtain⟨cur,e,f,h3⟩:=(hc.hp k ob h1).cells l h2;rw[hl]at h3;cases h3;cases ho
theorem Conc.re (hc:Conc c G β σ a w){c2:Cx}{w2:World}{a2:Act}{env2:Nat->AV} (hk:∀ b,G b->w2.heap[b]? = w.heap[b]?) (ho:∀ b,ownB β σ.hp b->w2.heap[b]? = w.heap[b]?) (hs:w.heap.size<=w2.heap.size)
  (hd:a2.defers=c2.ds) (hN:a2.tmps.size=c2.N) (he:∀ t,AVal G w β (env2 t) (a2.tmps.getD t undef)) (hel:∀ t,(env2 t).lt σ.nx=true) (hm:∀ b,ownB β σ.hp b->c2.mine b)
  (hsub:∀ b,c2.G0 b->G b) (hnew:∀ b,G b->c2.G0 b∨c2.mine b) (hfr:Fr c2.X c2.w0 w2) (hst:c2.n0<=σ.nx/\∀ k,k<c2.n0->β k=c2.B0 k):Conc c2 G β ⟨env2,σ.hp,σ.nx⟩ a2 w2:=by
 have hkp:Keep G G w w2:=⟨fun _ h=>h,hk⟩
 exact {
  defers:=hd
  size:=hN
  env:=fun t=>(he t).keep hkp
  envlt:=hel
  hp:=fun k ob h=>(hc.hp k ob h).turn hkp (fun b hb=>ho b ⟨k,ob,h,hb⟩) (fun b hb=>hm b ⟨k,ob,h,hb⟩)
  hplt:=hc.hplt
  inj:=hc.inj
  lt:=fun b hb=>Nat.lt_of_lt_of_le (hc.lt b hb) hs
  sub:=hsub
  new:=hnew
  fr:=hfr
  stay:=hst
  glob:=hc.glob.keep hkp }
theorem Ext.alloc0 (h:∀ b,G b->b<w.heap.size) (o:Obj):Ext G G w (w.alloc o) :=
 ⟨rfl,rfl,rfl,by rw[World.size_alloc]; omega,fun b hb=>zBh w o hb,fun _ h=>h,fun _ h=>.inl h,fun b hb=>by rw[World.size_alloc]; have:=h b hb; omega⟩
end
structure Grown (A B:World):Prop where
 os:B.os=A.os
 tape:B.tape=A.tape
 output:B.output=A.output
 size:A.heap.size<=B.heap.size
 old:∀ b,b<A.heap.size->B.heap[b]? = A.heap[b]?
theorem Grown.ext {A B:World}{G:Nat->Prop} (h:Grown A B) (hl:∀ b,G b->b<A.heap.size):Ext G G A B:=⟨h.os,h.tape,h.output,h.size,h.old,fun _ h=>h,fun _ h=>.inl h,fun b hb=>Nat.lt_of_lt_of_le (hl b hb) h.size⟩
def zLD (P:Program) (fid sz:Nat):Prop :=
 ∀ (G:Nat->Prop) (w0:World) (v:Value) (rows:List (List S)),(∀ b,G b->b<w0.heap.size)->GlobOk G w0->Rep G w0 (.pt [.sl sz rows]) v->(∀ r∈rows,r.length=sz)->rows.length<=4611686018427387904 ->
  ∀ (l:Nat) (J:Nat->World->Prop) (W:World),w0.heap.size<=W.heap.size->(∀ b,G b->W.heap[b]? = w0.heap[b]?)->(∀ i A B,J i A->Grown A B->J i B) ->
   (∀ i j row u W1,i+j+1=rows.length->rows[j]? = some row->J i W1->w0.heap.size<=W1.heap.size->(∀ b,G b->W1.heap[b]? = w0.heap[b]?)->(∀ β,AVal G W1 β (.agg (row.map .s)) u) ->
    YieldAt Fence.wide 0 P l #[.int .i64 (j:Int),u] W1 fun e W2=>e = .returned (.bool true)/\J (i+1) W2/\w0.heap.size<=W2.heap.size/\∀ b,G b->W2.heap[b]? = w0.heap[b]?) ->
   J 0 W->CallsIn Fence.wide 1 P fid #[.func (.yield l) #[] #[],v] W fun e W'=>(∃ u,e = .returned u)/\J rows.length W'
structure Sw (c c2:Cx) (D:Nat):Prop where
 fr:Fr c.X c.w0 c2.w0
 mine:∀ b,c2.X b->c.mine b
 sub:∀ b,c.G0 b->c2.G0 b
 new:∀ b,c2.G0 b->c.G0 b∨c.mine b
 blk:c2.w0.heap[D]? = some (.deferred (some []))
 nX:¬ c2.X D
 nG:¬ c2.G0 D
 ge:c.w0.heap.size<=D
def zOD (σ:St) (p1 p2:Nat) (j:Nat) (row:List S) (e:(Nat->Option Ob)×Nat):St :=
 ⟨fun t=>bif Nat.beq t p2 then .agg (row.map .s) else bif Nat.beq t p1 then .s (.int .i64 (j:Int)) else σ.env t,e.1,e.2⟩
def Rl (w:World) (X:Nat->Prop) (l:Nat):Prop:=(∃ r,w.heap[l]? = some (.loop r))/\¬ X l
theorem zJh {tm:Array Value}{p t:Nat}{v:Value} (hp:p<tm.size):(tm.setIfInBounds p v).getD t undef=if t=p then v else tm.getD t undef:=by
 rw[Array.getD_eq_getD_getElem?,Array.getD_eq_getD_getElem?]
 by_cases h:t=p
 ·subst h;rw[if_pos rfl,Array.getElem?_setIfInBounds_self_of_lt hp]
  rfl
 ·rw[if_neg h,Array.getElem?_setIfInBounds_ne (Ne.symm h)]
theorem zip2 {α β:Type} (a b:α) (x y:β) : #[a,b].zip #[x,y] = #[(a,x),(b,y)]:=by
 apply Array.ext'
 simp[Array.toList_zip]
theorem nbeq {a b:Nat} (h:a ≠ b):Nat.beq a b=false:=by
 cases e:Nat.beq a b with
 | false=>rfl
 | true=>exact absurd (Nat.eq_of_beq_eq_true e) h
theorem zOm {n:Nat}:∀ (row:List S),AV.ltAll n (row.map .s)=true
 | []=>rfl
 | s::r=>by simp only[List.map_cons,AV.ltAll,Bool.and_eq_true]; exact⟨rfl,zOm r⟩
theorem zRC {c:Cx}{G:Nat->Prop}{β:Nat->Value}{σ:St}{a:Act}{w:World} (hc:Conc c G β σ a w) (hro:c.ro=none) (hds:c.ds=[]){tg p1 p2 fid sz:Nat}{rows:List (List S)}{assign body:Code}
  (hit:zLD c.P fid sz) (hcall:∀ args w,(callFunc fid args).run c.P w = .ok (.enter fid args) w) (he:σ.env tg = .clo fid [.s (.pt [.sl sz rows])]) (hrl:∀ r∈rows,r.length=sz) (hlen:rows.length<=4611686018427387904)
  (E:Nat->(Nat->Option Ob)×Nat) (hE:E 0=(σ.hp,σ.nx)) (m:Nat) (hm:∀ t,(σ.env t).lt m=true) (hm0:c.n0<=m) (hmE:∀ i,m<=(E i).2) (hp1:p1<c.N) (hp2:p2<c.N)
  (hround:∀ i j row,i+j+1=rows.length->rows[j]? = some row->∀ l w X G B,Rl w X l->Tri (rcx c.P c.N m l w X G B) assign (zOD σ p1 p2 j row (E i)) (fun e σ1=>e = .normal/\∀ w X G B,Rl w X l ->
   Tri (rcx c.P c.N m l w X G B) body σ1 (fun e σ2=>e = .normal/\∃ σ3,Le (rcx c.P c.N m l w X G B) σ2 σ3/\σ3.hp=(E (i+1)).1/\σ3.nx=(E (i+1)).2)))
  (hfid:Nat.ble 1048576 fid=false) {Φ:Exit->Act->World->Prop} (hdone:∀ D w2 X G2 G' β' a2,Sw c (lcx c.P c.N c.n0 w2 X G2 c.B0 D) D->Conc (lcx c.P c.N c.n0 w2 X G2 c.B0 D) G' β' ⟨σ.env,(E rows.length).1,(E rows.length).2⟩ a2 w2->Φ .normal a2 w2) :
  (Code.rangeFunc (.tmp tg) #[p1,p2] assign body).wpIn (rF none) 2 c.P Φ a w:=by
 have hg:=hc.env tg;rw[he]at hg;simp only[AVal,AVals]at hg;obtain⟨vs,hg,v,vs',rfl,hv,rfl⟩:=hg;have hg:a.eval (.tmp tg) = .func (.func fid) #[] #[v] :=(by rw[zPX hfid]at hg; exact hg);have hiter:=hit G w v rows hc.lt hc.glob hv hrl hlen;refine wpIn_rangeFunc fun fn _=>?_
 obtain⟨rec,hrec⟩:∃ rec:LoopState->Loop,rec=fun st=>{ state:=st,pending:=none,fn:=fn,tmps:=a.tmps,params:=#[p1,p2],assign:=assign,body:=body,defers:=w.heap.size }:=⟨_,rfl⟩
 obtain⟨l,hl0⟩:∃ l,l=w.heap.size+1:=⟨_,rfl⟩
 obtain⟨D,hD0⟩:∃ D,D=w.heap.size:=⟨_,rfl⟩
 obtain⟨W1,hW1⟩:∃ W1,(w.alloc (.deferred (some []))).alloc (.loop (rec .ready))=W1:=⟨_,rfl⟩
 have hL1:W1.heap[l]? = some (.loop (rec .ready)):=by
  have:=World.alloc_heap_new (w.alloc (.deferred (some []))) (.loop (rec .ready))
  rw[World.size_alloc]at this;rw[← hW1,hl0]; exact this
 have hDD:W1.heap[D]? = some (.deferred (some [])):=by
  have:=zBh (w.alloc (.deferred (some []))) (.loop (rec .ready)) (b:=w.heap.size) (by rw[World.size_alloc]; omega)
  rw[← hW1,hD0,this]
  exact World.alloc_heap_new w _
 have hc1:Conc c G β σ a W1:=by
  rw[← hW1]
  have h1:=hc.ext (Ext.alloc0 hc.lt (.deferred (some [])))
  exact h1.ext (Ext.alloc0 h1.lt (.loop (rec .ready)))
 have hlD:l ≠ D :=(by omega);have hcl:c.w0.heap.size<=D :=(by rw[hD0]; exact hc.fr.size);refine⟨l,[{ target:=.collected D,args:=#[] }],W1,{ target:=.fn (.func fid) #[v],args:=#[.func (.yield l) #[] #[]] },W1,fid,#[.func (.yield l) #[] #[]]++#[v],W1,?_,?_,?_,?_,fun h=>(by cases h),?_⟩
 ·rw[← hW1,hrec,hl0,hD0]; exact run_enterLoop_outer _ _ _ _ _
 ·simp only[resolve,hg]
  simp[go_sem]
 ·intro f' hf'; trivial
 ·simp[invoke,go_sem,hcall]
 have key:=hiter l (fun i W=>W.heap[l]? = some (.loop (rec .ready))/\W.heap[D]? = some (.deferred (some []))/\∃ G' β',Conc c G' β' ⟨σ.env,(E i).1,(E i).2⟩ a W/\(∀ b,G b->G' b)/\¬ G' l/\¬ G' D) W1 (by rw[← hW1,World.size_alloc,World.size_alloc]; omega)
  (fun b hb=>by
   have hb':=hc.lt b hb;rw[← hW1,zBh _ _ (by rw[World.size_alloc]; omega),zBh _ _ hb'])
  (fun i A B ⟨h1,h2,G',β',h3,h4⟩ hg=>⟨(hg.old l (Array.getElem?_eq_some_iff.1 h1).1).trans h1,(hg.old D (Array.getElem?_eq_some_iff.1 h2).1).trans h2,G',β',h3.ext (hg.ext h3.lt),h4⟩)
  ?_ ⟨hL1,hDD,G,β,by rw[hE]; exact hc1,fun _ h=>h,fun h=>by have:=hc.lt _ h; omega,fun h=>by have:=hc.lt _ h; omega⟩
 ·refine key.mono ?_;rintro e W3 ⟨⟨u,rfl⟩,h1,h2,G3,β3,hc3,hG3,hnl,hnD⟩
  have hend:=run_endLoop (P:=c.P) h1 (by rw[hrec]; simp)
  rw[hrec]at hend;refine⟨none,_,hend,?_⟩
  dsimp only;have hnol:¬ ownB β3 (E rows.length).1 l:=hc3.not_own h1 rfl;have hnoD:¬ ownB β3 (E rows.length).1 D:=hc3.not_own h2 rfl;have hl3:l<W3.heap.size:=(Array.getElem?_eq_some_iff.1 h1).1;generalize hW4:W3.putObj l _=W4;have hoth:∀ b,b ≠ l->W4.heap[b]? = W3.heap[b]?:=fun b hb=>by rw[← hW4]; exact World.putObj_heap_other hb
  have hsz:W4.heap.size=W3.heap.size :=(by rw[← hW4]; exact World.putObj_size);have hfr4:Fr c.X c.w0 W4:=⟨by rw[← hW4]; exact hc3.fr.os,by rw[← hW4]; exact hc3.fr.tape,by rw[← hW4]; exact hc3.fr.output,by rw[hsz]; exact hc3.fr.size,fun b hb hx=>(hoth b (by omega)).trans (hc3.fr.old b hb hx)⟩
  refine hdone D W4 (ownB β3 (E rows.length).1) G3 G3 β3 _ ⟨hfr4,fun b ⟨k,ob,q1,q2⟩=>(row_block (hc3.hp k ob q1) b q2).2,hc3.sub,hc3.new,(hoth D (Ne.symm hlD)).trans h2,hnoD,hnD,hcl⟩ ?_;exact hc3.re (c2:=lcx c.P c.N c.n0 W4 (ownB β3 (E rows.length).1) G3 c.B0 D) (fun b hb=>hoth b fun h=>hnl (h ▸ hb)) (fun b hb=>hoth b fun h=>hnol (h ▸ hb)) (by rw[hsz]; exact Nat.le_refl _)
   (by show _::a.defers=_; rw[hc.defers,hds]; rfl) hc.size hc3.env hc3.envlt (fun b hb=>.inl hb) (fun b hb=>hb) (fun b hb=>.inl hb) (Fr.refl _ _) hc3.stay
 ·rintro i j row u W hiN hrow ⟨h1,h2,G',β',hcW,hGG,hnl,hnD⟩ hszW hGk hval;have hy:=run_yield (P:=c.P) (args:=#[.int .i64 (j:Int),u]) h1 (by rw[hrec]; rfl)
  rw[hrec]at hy;have hnol:¬ ownB β' (E i).1 l:=hcW.not_own h1 rfl;have hnoD:¬ ownB β' (E i).1 D:=hcW.not_own h2 rfl;have hlW:l<W.heap.size:=(Array.getElem?_eq_some_iff.1 h1).1;have hDW:D<W.heap.size:=(Array.getElem?_eq_some_iff.1 h2).1;have hkW:Keep G G' w W:=⟨hGG,fun b hb=>(hGk b hb)⟩
  have htm:((#[p1,p2].zip #[Value.int .i64 (j:Int),u]).foldl (fun tmps (x:Nat×Value)=>tmps.setIfInBounds x.1 x.2) a.tmps)=(a.tmps.setIfInBounds p1 (.int .i64 (j:Int))).setIfInBounds p2 (u) :=(by rw[zip2]; rfl);have hy:(Instr.yield l #[.int .i64 (j:Int),u]).run c.P W = .ok (.round l fn ((a.tmps.setIfInBounds p1 (.int .i64 (j:Int))).setIfInBounds p2 (u)) assign body) W :=(by rw[← htm]; exact hy);refine⟨fn,_,assign,body,hy,roundIn_of_wpIn trivial ?_⟩
  have hs1:p1<a.tmps.size :=(by rw[hcW.size]; exact hp1);have hs2:p2<(a.tmps.setIfInBounds p1 (.int .i64 (j:Int))).size :=(by rw[Array.size_setIfInBounds,hcW.size]; exact hp2);have hA:Conc (rcx c.P c.N m l W (ownB β' (E i).1) G' β') G' β' (zOD σ p1 p2 j row (E i)) { tmps:=(a.tmps.setIfInBounds p1 (.int .i64 (j:Int))).setIfInBounds p2 (u),defers:=[] } W:=by
   refine hcW.re (c2:=rcx c.P c.N m l W (ownB β' (E i).1) G' β') (fun _ _=>rfl) (fun _ _=>rfl) (Nat.le_refl _) rfl (by show _=c.N; rw[Array.size_setIfInBounds,Array.size_setIfInBounds]; exact hcW.size) (fun t=>?_) (fun t=>?_) (fun b hb=>.inl hb) (fun _ h=>h) (fun _ h=>.inl h) (Fr.refl _ _) ⟨hmE i,fun _ _=>rfl⟩
   ·dsimp only;rw[zJh hs2,zJh hs1]
    by_cases e2:t=p2
    ·subst e2;rw[if_pos rfl,Nat.beq_refl,cond_true]
     exact(hval β').keep ⟨hGG,fun _ _=>rfl⟩
    ·rw[if_neg e2,nbeq e2,cond_false]
     by_cases e1:t=p1
     ·subst e1;rw[if_pos rfl,Nat.beq_refl,cond_true]
      simp[AVal,Rep]
     ·rw[if_neg e1,nbeq e1,cond_false]
      exact hcW.env t
   ·dsimp only
    by_cases e2:t=p2
    ·subst e2; rw[Nat.beq_refl,cond_true]; simp only[AV.lt]; exact zOm row
    ·rw[nbeq e2,cond_false]
     by_cases e1:t=p1
     ·subst e1; rw[Nat.beq_refl,cond_true]; rfl
     ·rw[nbeq e1,cond_false]; exact hcW.envlt t
  have hTri:=hround i j row hiN hrow l W (ownB β' (E i).1) G' β' ⟨⟨_,h1⟩,hnol⟩
  unfold Tri at hTri;refine wpIn_mono (zRO (m:=0) (hTri _ _ _ _ hA)) ?_;rintro e a1 Wb ⟨e',G2,β2,σ1,rfl,⟨rfl,hbody⟩,hB⟩
  have bl:Wb.heap[l]? = W.heap[l]?:=hB.fr.old l hlW hnol;have bD:Wb.heap[D]? = W.heap[D]?:=hB.fr.old D hDW hnoD;have hlb:l<Wb.heap.size:=Nat.lt_of_lt_of_le hlW hB.fr.size;have hn2l:¬ G2 l:=fun h=>(hB.new l h).elim hnl (fun h=>h.elim hnol (fun h=>by have:W.heap.size<=l:=h; omega))
  have hn2D:¬ G2 D:=fun h=>(hB.new D h).elim hnD (fun h=>h.elim hnoD (fun h=>by have:W.heap.size<=D:=h; omega))
  refine⟨_,run_beginRound (bl.trans h1) (by rw[hrec]),?_⟩
  generalize hW2:Wb.putObj l _=W2;have oth2:∀ b,b ≠ l->W2.heap[b]? = Wb.heap[b]?:=fun b hb=>by rw[← hW2]; exact World.putObj_heap_other hb
  have sz2:W2.heap.size=Wb.heap.size :=(by rw[← hW2]; exact World.putObj_size);have l2:W2.heap[l]? = some (.loop { rec .ready with state:=.busy }) :=(by rw[← hW2]; exact World.putObj_heap_same hlb);have hno1l:¬ ownB β2 σ1.hp l:=hB.not_own (bl.trans h1) rfl;have hno1D:¬ ownB β2 σ1.hp D:=hB.not_own (bD.trans h2) rfl;have hB2:Conc (rcx c.P c.N m l W2 (ownB β2 σ1.hp) G2 β') G2 β2 σ1 a1 W2 :=
   hB.re (c2:=rcx c.P c.N m l W2 (ownB β2 σ1.hp) G2 β') (fun b hb=>oth2 b fun h=>hn2l (h ▸ hb)) (fun b hb=>oth2 b fun h=>hno1l (h ▸ hb)) (by rw[sz2]; exact Nat.le_refl _) hB.defers hB.size hB.env hB.envlt (fun b hb=>.inl hb) (fun _ h=>h) (fun _ h=>.inl h) (Fr.refl _ _) hB.stay
  have hTri2:=hbody W2 (ownB β2 σ1.hp) G2 β' ⟨⟨_,l2⟩,hno1l⟩
  unfold Tri at hTri2;refine wpIn_mono (zRO (m:=0) (hTri2 _ _ _ _ hB2)) ?_;rintro e a2 Wc ⟨e',G3,β3,σ2,rfl,⟨rfl,σ3,hle,hhp,hnx⟩,hC0⟩
  unfold Le at hle;obtain⟨G4,β4,hC⟩:=hle _ _ _ _ hC0;have hl2:l<W2.heap.size :=(by omega);have hD2:D<W2.heap.size :=(by have:=hB.fr.size; simp only[rcx]at this; omega);have cl:Wc.heap[l]? = W2.heap[l]?:=hC.fr.old l hl2 hno1l;have cD:Wc.heap[D]? = W2.heap[D]?:=hC.fr.old D hD2 hno1D;have hlc:l<Wc.heap.size:=Nat.lt_of_lt_of_le hl2 hC.fr.size;have hend:=run_endRound (P:=c.P) none (cl.trans l2)
  refine⟨_,_,hend,rfl,?_⟩
  generalize hW5:Wc.putObj l _=W5;have oth5:∀ b,b ≠ l->W5.heap[b]? = Wc.heap[b]?:=fun b hb=>by rw[← hW5]; exact World.putObj_heap_other hb
  have sz5:W5.heap.size=Wc.heap.size :=(by rw[← hW5]; exact World.putObj_size);have l5:W5.heap[l]? = some (.loop (rec .ready)) :=(by rw[← hW5,World.putObj_heap_same hlc,hrec]; rfl);have hnol3:¬ ownB β4 σ3.hp l:=hC.not_own (cl.trans l2) rfl;have hn4l:¬ G4 l:=fun h=>(hC.new l h).elim hn2l (fun h=>h.elim hno1l (fun h=>by have:W2.heap.size<=l:=h; omega))
  have hn4D:¬ G4 D:=fun h=>(hC.new D h).elim hn2D (fun h=>h.elim hno1D (fun h=>by have:W2.heap.size<=D:=h; omega))
  have hsub4:∀ b,G' b->G4 b:=fun b h=>hC.sub b (hB.sub b h)
  have hgl:∀ b,G' b->b ≠ l:=fun b h e=>hnl (e ▸ h)
  have hkeep:∀ b,G' b->Wc.heap[b]? = W.heap[b]?:=fun b h=>by
   have hno:¬ ownB β' (E i).1 b:=fun⟨k,ob,q1,q2⟩=>(row_block (hcW.hp k ob q1) b q2).1 h
   have hno2:¬ ownB β2 σ1.hp b:=fun⟨k,ob,q1,q2⟩=>(row_block (hB.hp k ob q1) b q2).1 (hB.sub b h)
   have hb1:=hcW.lt b h;have hb2:b<W2.heap.size :=(by have:=hB.lt b (hB.sub b h); omega);exact(hC.fr.old b hb2 hno2).trans ((oth2 b (hgl b h)).trans (hB.fr.old b hb1 hno))
  have hbeta:∀ k,k<m->β4 k=β' k:=fun k hk=>hC.stay.2 k hk
  have hnxle:m<=σ3.nx:=hC.stay.1;have hmine1:∀ b,ownB β2 σ1.hp b->c.mine b:=fun b ⟨k,ob,q1,q2⟩=>by
   rcases(row_block (hB.hp k ob q1) b q2).2 with ⟨k',ob',r1,r2⟩ | h
   ·exact(row_block (hcW.hp k' ob' r1) b r2).2
   ·exact .inr (Nat.le_trans hcW.fr.size h)
  have hmine3:∀ b,ownB β4 σ3.hp b->c.mine b:=fun b ⟨k,ob,q1,q2⟩=>by
   rcases(row_block (hC.hp k ob q1) b q2).2 with h | h
   ·exact hmine1 b h
   ·have h:W2.heap.size<=b:=h;have:=hB.fr.size;simp only[rcx]at this;exact .inr (by have:=hcW.fr.size; omega)
  have hfr5:Fr c.X c.w0 W5:=by
   refine⟨?_,?_,?_,?_,fun b hb hx=>?_⟩
   ·rw[← hW5]; show Wc.os=_; rw[hC.fr.os]; show W2.os=_; rw[← hW2]; show Wb.os=_; rw[hB.fr.os]; exact hcW.fr.os
   ·rw[← hW5]; show Wc.tape=_; rw[hC.fr.tape]; show W2.tape=_; rw[← hW2]; show Wb.tape=_; rw[hB.fr.tape]; exact hcW.fr.tape
   ·rw[← hW5]; show Wc.output=_; rw[hC.fr.output]; show W2.output=_; rw[← hW2]; show Wb.output=_; rw[hB.fr.output]; exact hcW.fr.output
   ·have h1:=hC.fr.size;have h2:=hB.fr.size;have h3:=hcW.fr.size;simp only[rcx]at h1 h2
    omega
   ·have hno:¬ ownB β' (E i).1 b:=fun⟨k,ob,q1,q2⟩=>(row_block (hcW.hp k ob q1) b q2).2.elim hx (fun h=>by omega)
    have hno2:¬ ownB β2 σ1.hp b:=fun h=>(hmine1 b h).elim hx (fun h=>by omega)
    have hb1:b<W.heap.size :=(by have:=hcW.fr.size; omega);have hb2:b<W2.heap.size :=(by have:=hB.fr.size; simp only[rcx]at this; omega);have hbl:b ≠ l :=(by omega);exact(oth5 b hbl).trans ((hC.fr.old b hb2 hno2).trans ((oth2 b hbl).trans ((hB.fr.old b hb1 hno).trans (hcW.fr.old b hb hx))))
  refine⟨⟨l5,(oth5 D (Ne.symm hlD)).trans (cD.trans ((oth2 D (Ne.symm hlD)).trans (bD.trans h2))),G4,β4,?_,fun b h=>hsub4 b (hGG b h),hn4l,hn4D⟩,by have h1:=hC.fr.size; have h2:=hB.fr.size; simp only[rcx]at h1 h2; omega,fun b hb=>(oth5 b (hgl b (hGG b hb))).trans ((hkeep b (hGG b hb)).trans (hGk b hb))⟩
  rw[← hhp,← hnx]
  refine hC.re (c2:=c) (fun b hb=>oth5 b fun h=>hn4l (h ▸ hb)) (fun b hb=>oth5 b fun h=>hnol3 (h ▸ hb)) (by rw[sz5]; exact Nat.le_refl _) hc.defers hc.size (fun t=>((hcW.env t).keep ⟨hsub4,hkeep⟩).beta hbeta (hm t)) (fun t=>AV.lt_mono hnxle (hm t)) hmine3
   (fun b hb=>hsub4 b (hcW.sub b hb)) (fun b hb=>?_) hfr5 ⟨Nat.le_trans hm0 hnxle,fun k hk=>(hbeta k (Nat.lt_of_lt_of_le hk hm0)).trans (hcW.stay.2 k hk)⟩
  rcases hC.new b hb with h | h
  ·rcases hB.new b h with h | h
   ·exact hcW.new b h
   ·rcases h with ⟨k',ob',r1,r2⟩ | h
    ·exact .inr (row_block (hcW.hp k' ob' r1) b r2).2
    ·exact .inr (.inr (Nat.le_trans hcW.fr.size h))
  ·rcases h with h | h
   ·exact .inr (hmine1 b h)
   ·have h:W2.heap.size<=b:=h;have h2:=hB.fr.size;have h3:=hcW.fr.size;simp only[rcx]at h2;exact .inr (.inr (by omega))
def TriX (c:Cx) (code:Code) (σ:St) (Φ:Exit->Act->World->Prop):Prop:=∀ G β a w,Conc c G β σ a w->code.wpIn (rF none) 2 c.P Φ a w
section
variable {c:Cx} {σ:St} {Φ:Exit->Act->World->Prop}
theorem zRy {x y:Code} (h:TriX c x σ (Exit.then (y.wpIn (rF none) 2 c.P Φ) Φ)):TriX c (.seq x y) σ Φ:=fun G β a w hc=>wpIn_seq (h G β a w hc)
theorem zPI {x:Code}{id:Nat} (h:TriX c x σ (Exit.inBlock id Φ)):TriX c (.block id x) σ Φ:=fun G β a w hc=>wpIn_block (h G β a w hc)
theorem zME {x y:Code} (hro:c.ro=none) (h:Tri c x σ (fun e σ'=>e = .normal/\TriX c y σ' Φ)):TriX c (.seq x y) σ Φ:=fun G β a w hc=>by
 unfold Tri at h;rw[hro]at h;refine wpIn_seq (wpIn_mono (h G β a w hc) ?_)
 rintro e a' w' ⟨e',G',β',σ',rfl,⟨rfl,hq⟩,hc'⟩
 exact hq G' β' a' w' hc'
theorem zPJ (hro:c.ro=none) (hds:c.ds=[]){tg p1 p2 fid sz:Nat}{rows:List (List S)}{assign body:Code}
  (hit:zLD c.P fid sz) (hcall:∀ args w,(callFunc fid args).run c.P w = .ok (.enter fid args) w) (he:σ.env tg = .clo fid [.s (.pt [.sl sz rows])]) (hrl:∀ r∈rows,r.length=sz) (hlen:rows.length<=4611686018427387904)
  (E:Nat->(Nat->Option Ob)×Nat) (hE:E 0=(σ.hp,σ.nx)) (m:Nat) (hm:∀ t,(σ.env t).lt m=true) (hm0:c.n0<=m) (hmE:∀ i,m<=(E i).2) (hp1:p1<c.N) (hp2:p2<c.N)
  (hround:∀ i j row,i+j+1=rows.length->rows[j]? = some row->∀ l w X G B,Rl w X l->Tri (rcx c.P c.N m l w X G B) assign (zOD σ p1 p2 j row (E i)) (fun e σ1=>e = .normal/\∀ w X G B,Rl w X l ->
   Tri (rcx c.P c.N m l w X G B) body σ1 (fun e σ2=>e = .normal/\∃ σ3,Le (rcx c.P c.N m l w X G B) σ2 σ3/\σ3.hp=(E (i+1)).1/\σ3.nx=(E (i+1)).2)))
  (hdone:∀ D w2 X G2 G' β' a2,Sw c (lcx c.P c.N c.n0 w2 X G2 c.B0 D) D->Conc (lcx c.P c.N c.n0 w2 X G2 c.B0 D) G' β' ⟨σ.env,(E rows.length).1,(E rows.length).2⟩ a2 w2->Φ .normal a2 w2) (hfid:Nat.ble 1048576 fid=false:=by rfl) :
  TriX c (.rangeFunc (.tmp tg) #[p1,p2] assign body) σ Φ:=fun G β a w hc=>zRC hc hro hds hit hcall he hrl hlen E hE m hm hm0 hmE hp1 hp2 hround hfid hdone
end
theorem zP8 {c c2:Cx}{D:Nat}{T:Nat->Option TI} (hT:TOk c2.P T){fn:Func}{r:Ret}{code:Code}{σ:St} (hsw:Sw c c2 D) (hX:∀ b,¬ c.X b) (hro:c2.ro=none) (hds:c2.ds=[{ target:=.collected D,args:=#[] }])
  (h:Tri c2 code σ (fun e σ'=>match e with | .exit _=>False | _=>zCQ c2 T fn.results.toList r σ')) :
  TriX c2 code σ (bodyPostM (rF none) 2 c2.P fn fun e W'=>∃ v G',e = .returned v/\Ext c.G0 G' c.w0 W'/\RetAt G' c.w0 W' r v):=fun G β a w hc=>by
 unfold Tri at h;rw[hro]at h;refine wpIn_mono (h G β a w hc) ?_;rintro e a' w' ⟨e',G',β',σ',rfl,hq,hc'⟩
 have fin:zCQ c2 T fn.results.toList r σ'->LeavesInM (rF none) 2 c2.P fn a'.tmps (fun e W'=>∃ v G',e = .returned v/\Ext c.G0 G' c.w0 W'/\RetAt G' c.w0 W' r v) a'.defers .returning w':=fun hq=>by
  unfold zCQ at hq;obtain⟨σ2,hle,hr⟩:=hq;unfold Le at hle;obtain⟨G2,β2,hc2⟩:=hle G' β' a' w' hc';have hDl:D<c2.w0.heap.size:=(Array.getElem?_eq_some_iff.1 hsw.blk).1;have hD:w'.heap[D]? = some (.deferred (some [])):=(hc2.fr.old D hDl hsw.nX).trans hsw.blk;have hnG:¬ G2 D:=fun h=>(hc2.new D h).elim hsw.nG (fun h=>h.elim hsw.nX (fun h=>by omega))
  have hnO:¬ ownB β2 σ2.hp D:=hc2.not_own hD rfl;rw[hc'.defers,hds]
  refine⟨by simp,.inl ⟨_,_,rfl,run_takeDeferred hD,?_⟩⟩
  generalize hW:w'.putObj D (.deferred none)=W;have oth:∀ b,b ≠ D->W.heap[b]? = w'.heap[b]?:=fun b hb=>by rw[← hW]; exact World.putObj_heap_other hb
  have sz:W.heap.size=w'.heap.size :=(by rw[← hW]; exact World.putObj_size);have hge:=hsw.ge;have hmine:∀ b,c2.mine b->c.w0.heap.size<=b:=fun b hb=>by
   rcases hb with hb | hb
   ·exact(hsw.mine b hb).elim (fun h=>absurd h (hX b)) id
   ·exact Nat.le_trans hsw.fr.size hb
  have hc3:Conc { P:=c2.P,w0:=W,X:=fun b=>c.w0.heap.size<=b,G0:=G2,N:=c2.N } G2 β2 ⟨σ2.env,σ2.hp,σ2.nx⟩ { a' with defers:=[] } W :=
   hc2.re (c2:={ P:=c2.P,w0:=W,X:=fun b=>c.w0.heap.size<=b,G0:=G2,N:=c2.N }) (fun b hb=>oth b fun h=>hnG (h ▸ hb)) (fun b hb=>oth b fun h=>hnO (h ▸ hb)) (by rw[sz]; exact Nat.le_refl _) rfl hc2.size hc2.env hc2.envlt
    (fun b ⟨k,ob,q1,q2⟩=>.inl (hmine b (row_block (hc2.hp k ob q1) b q2).2)) (fun b h=>h) (fun b h=>.inl h) (Fr.refl _ _) ⟨Nat.zero_le _,fun k hk=>by cases hk⟩
  have hext:Ext c.G0 G2 c.w0 W:=by
   refine⟨?_,?_,?_,?_,fun b hb=>?_,fun b hb=>hc2.sub b (hsw.sub b hb),fun b hb=>?_,fun b hb=>by rw[sz]; exact hc2.lt b hb⟩
   ·rw[← hW]; show w'.os=_; rw[hc2.fr.os]; exact hsw.fr.os
   ·rw[← hW]; show w'.tape=_; rw[hc2.fr.tape]; exact hsw.fr.tape
   ·rw[← hW]; show w'.output=_; rw[hc2.fr.output]; exact hsw.fr.output
   ·have h1:=hc2.fr.size; have h2:=hsw.fr.size; omega
   ·have h2:=hsw.fr.size;exact(oth b (by omega)).trans ((hc2.fr.old b (by omega) (fun h=>(hsw.mine b h).elim (hX b) (fun h=>by omega))).trans (hsw.fr.old b hb (hX b)))
   ·rcases hc2.new b hb with h | h
    ·exact(hsw.new b h).imp id (fun h=>h.elim (fun h=>absurd h (hX b)) id)
    ·exact .inr (hmine b h)
  unfold RetAt;split at hr
  ·rename_i x
   obtain⟨v,h1,h2⟩:=zFu (c:={ P:=c2.P,w0:=W,X:=fun b=>c.w0.heap.size<=b,G0:=G2,N:=c2.N }) hT hc3 hr.1;exact⟨v,h1,v,G2,rfl,hext,hr.2,AVal.pers hr.2 h2⟩
  ·rename_i e sz' rows
   obtain⟨k,hk1,hk2⟩:=hr;obtain⟨v,h1,h2⟩:=zFu (c:={ P:=c2.P,w0:=W,X:=fun b=>c.w0.heap.size<=b,G0:=G2,N:=c2.N }) hT hc3 hk1;refine⟨v,h1,v,G2,rfl,hext,?_⟩
   simp only[AVal]at h2;obtain⟨rfl,_⟩:=h2;obtain⟨q1,q2,q3⟩:=hc3.hp k _ hk2;refine⟨q1,q2,q3.imp id ?_⟩
   rintro⟨b,cap,cur,g1,g2,g3,g4,g5,g6,g7⟩
   refine⟨b,cap,cur,g1,g2,g3,g4,g5,g6.elim id (fun h=>?_),g7⟩
   have h:W.heap.size<=b:=h;have:=g4.lt
   omega
 cases e' with
 | normal=>exact fin hq
 | ret=>exact fin hq
 | exit id=>exact hq.elim
theorem zR6 {P:Program}{f:Nat}{fn:Func}{code:Code}{s:zAp} (hcall:∀ args w,(callFunc f args).run P w = .ok (.enter f args) w)
  (hf:P.funcs[f]? = some fn) (hb:fn.body=some code) (hn:∀ xs r,s.spec xs r->xs.length<=fn.ntmps)
  (N:Nat) (hN:fn.ntmps=N)
  (h:∀ xs r w0 G0,s.spec xs r->AV.persAll xs=true->TriX (zDT P w0 G0 N) code (start xs) (bodyPostM (rF none) 2 P fn fun e W'=>∃ v G',e = .returned v/\Ext G0 G' w0 W'/\RetAt G' w0 W' r v)) (hown:s.own=none:=by rfl) (hheap:s.heap=none:=by rfl):PSound P f s:=by
 subst hN;refine⟨hcall,fun G w xs vs r hlt hgl hp hv hpre=>?_,fun R hR=>(by rw[hown]at hR; cases hR),fun R hR=>(by rw[hheap]at hR; cases hR)⟩
 have hlen:=hv.length;have hxn:=hn xs r hpre;have hc:Conc (zDT P w G fn.ntmps) G (fun _=>.tuple #[]) (start xs) { tmps:=vs.toArray++Array.replicate (fn.ntmps - vs.toArray.size) undef,defers:=[] } w:={
  defers:=rfl
  size:=by simp only[Array.size_append,List.size_toArray,Array.size_replicate]; show _=fn.ntmps; omega
  env:=fun t=>by
   simp only[start]
   by_cases ht:t<xs.length
   ·obtain⟨v,h1,h2⟩:=hv.get (i:=t) (x:=xs[t]) (List.getElem?_eq_getElem ht)
    have e1:xs.getD t .junk=xs[t] :=(by simp[List.getElem?_eq_getElem ht]);have e2:(vs.toArray++Array.replicate (fn.ntmps - vs.toArray.size) undef).getD t undef=v:=by
     rw[Array.getD_eq_getD_getElem?,Array.getElem?_append_left (by simpa [hlen] using ht)]
     simp[h1]
    rw[e1,e2]; exact h2
   ·have:xs.getD t .junk = .junk :=(by simp[List.getElem?_eq_none (by omega:xs.length<=t)]);rw[this]; simp only[AVal]
  envlt:=fun t=>by
   simp only[start]
   by_cases ht:t<xs.length
   ·have e1:xs.getD t .junk=xs[t] :=(by simp[List.getElem?_eq_getElem ht]);rw[e1]; exact zAR (AV.persAll_lt hp) (List.getElem?_eq_getElem ht)
   ·have:xs.getD t .junk = .junk :=(by simp[List.getElem?_eq_none (by omega:xs.length<=t)]);rw[this]; rfl
  hp:=fun k ob hk=>by simp[start]at hk
  hplt:=fun k ob hk=>by simp[start]at hk
  inj:=fun k k' ob ob' hk=>by simp[start]at hk
  lt:=hlt
  sub:=fun b hb=>hb
  new:=fun b hb=>.inl hb
  fr:=Fr.refl _ _
  stay:=⟨Nat.le_refl _,fun k hk=>by cases hk⟩
  glob:=hgl }
 exact callsIn_wide.1 (callsIn_of_wp_marks hf hb trivial (h xs r w G hpre hp G _ _ w hc))
theorem zKf {a:Act}{d:Option Nat}{v:Value}{t:Nat} (h:d ≠ some t):(a.put d v).tmps.getD t undef=a.tmps.getD t undef:=by
 cases d with
 | none=>rfl
 | some d =>
  have hdt:d ≠ t:=fun e=>h (by rw[e])
  simp only[Act.put,Array.getD_eq_getD_getElem?]
  rw[Array.getElem?_setIfInBounds_ne hdt]
theorem zSN {P:Program}{W:World}{G:Nat->Prop}{β:Nat->Value}{N:Nat}{a:Act}{env:Nat->AV} (hd:a.defers=[]) (hs:a.tmps.size=N) (hl:∀ b,G b->b<W.heap.size) (hg:GlobOk G W) (he:∀ t,AVal G W β (env t) (a.tmps.getD t undef)) (hlt:∀ t,(env t).lt 0=true) :
  Conc (zDT P W G N) G β ⟨env,fun _=>none,0⟩ a W:={
 defers:=hd
 size:=hs
 env:=he
 envlt:=hlt
 hp:=fun k ob hk=>by cases hk
 hplt:=fun k ob hk=>by cases hk
 inj:=fun k k' ob ob' hk=>by cases hk
 lt:=hl
 sub:=fun b hb=>hb
 new:=fun b hb=>.inl hb
 fr:=Fr.refl _ _
 stay:=⟨Nat.le_refl _,fun k hk=>by cases hk⟩
 glob:=hg }
def evP (T:Nat->Option TI) (N:Nat) (ts:List Nat):List Oper->St->(St->Prop)->Prop
 | [],σ,K=>K σ
 | o::os,σ,K =>
  match o.dst,o.guard,zL7 o&&zL8 o with
  | some d,none,true=>match Nat.blt d N&&zNx d ts with
   | true=>match zBw T false o σ.env with
    | some (φ,x)=>andO φ (evP T N ts os (σ.put (some d) x) K)
    | none=>False
   | false=>False
  | _,_,_=>False
theorem zJS {P:Program}{W0:World}{G0:Nat->Prop}{T:Nat->Option TI} (hT:TOk P T){N n:Nat}{ops rest:List Oper}{K:St->Prop}{Q:Exit->Act->World->Prop}{ts:List Nat}{v0:Nat->Value}
  (hr:∀ σ G β a w,K σ->Conc (zDT P W0 G0 N) G β σ a w->w.heap.size=W0.heap.size->(∀ t∈ts,a.tmps.getD t undef=v0 t)->wpListIn Fence.wide n P ops.toArray Q rest a w) :
  ∀ (l:List Oper) (σ:St) (G:Nat->Prop) (β:Nat->Value) (a:Act) (w:World),evP T N ts l σ K->Conc (zDT P W0 G0 N) G β σ a w->w.heap.size=W0.heap.size->(∀ t∈ts,a.tmps.getD t undef=v0 t)->wpListIn Fence.wide n P ops.toArray Q (l++rest) a w
 | [],σ,G,β,a,w,h,hc,hs,ht=>hr σ G β a w h hc hs ht
 | o::os,σ,G,β,a,w,h,hc,hs,ht=>by
  unfold evP at h;split at h
  ·rename_i d hd hg hnn
   simp only[Bool.and_eq_true]at hnn;split at h
   ·rename_i hdN
    simp only[Bool.and_eq_true]at hdN;have hdN1:d<N:=Nat.le_of_ble_eq_true hdN.1;have hdts:=zEF hdN.2;split at h
    ·rename_i φ x hp
     obtain⟨hφ,h⟩:=zJf h;rw[List.cons_append]
     unfold wpListIn;rw[if_pos (by simp[Region.wanted,hg])]
     refine zRd (ro:=none) (K:=fun a' w'=>wpListIn Fence.wide n P ops.toArray Q (os++rest) a' w') (fun c e=>?_) (fun _ _ h=>h) ?_
     ·have:=hnn.2;unfold zL8 at this;rw[e]at this;cases this
     ·refine zQu (c:=zDT P W0 G0 N) hT hc hp hφ fun G' w' v he hna hv=>?_
      have hww:=hna hnn.1;subst hww;rw[hd]
      have hput:=(hc.ext he).put (d:=some d) (fun t e=>by cases e; exact hdN1) hv (zO1 hc.envlt hp)
      refine zJS hT hr os _ G' β _ _ h hput hs fun t htt=>?_
      rw[zKf (fun e=>hdts (by cases e; exact htt))]
      exact ht t htt
    ·exact h.elim
   ·exact h.elim
  ·exact h.elim
theorem zOQ {P:Program}{W0:World}{G0:Nat->Prop}{T:Nat->Option TI} (hT:TOk P T){N n:Nat}{ops l:List Oper} (m:Nat){K:St->Prop}{Q:Exit->Act->World->Prop} (ts:List Nat){σ:St}{G:Nat->Prop}{β:Nat->Value}{a:Act}{w:World}
  (h:evP T N ts (l.take m) σ K) (hc:Conc (zDT P W0 G0 N) G β σ a w) (hs:w.heap.size=W0.heap.size)
  (hr:∀ σ G β a' w,K σ->Conc (zDT P W0 G0 N) G β σ a' w->w.heap.size=W0.heap.size->(∀ t∈ts,a'.tmps.getD t undef=a.tmps.getD t undef)->wpListIn Fence.wide n P ops.toArray Q (l.drop m) a' w):wpListIn Fence.wide n P ops.toArray Q l a w:=by
 have:=zJS (v0:=fun t=>a.tmps.getD t undef) hT hr (l.take m) σ G β a w h hc hs (fun _ _=>rfl)
 rwa [List.take_append_drop]at this
theorem zLZ {P:Program}{W0:World}{G0:Nat->Prop}{T:Nat->Option TI} (hT:TOk P T){N n:Nat}{ops l:List Oper}{K:St->Prop}{Q:Exit->Act->World->Prop} (ts:List Nat){σ:St}{G:Nat->Prop}{β:Nat->Value}{a:Act}{w:World}
  (h:evP T N ts l σ K) (hc:Conc (zDT P W0 G0 N) G β σ a w) (hs:w.heap.size=W0.heap.size)
  (hr:∀ σ G β a' w,K σ->Conc (zDT P W0 G0 N) G β σ a' w->w.heap.size=W0.heap.size->(∀ t∈ts,a'.tmps.getD t undef=a.tmps.getD t undef)->Q .normal a' w):wpListIn Fence.wide n P ops.toArray Q l a w:=by
 have:=zJS (rest:=[]) (v0:=fun t=>a.tmps.getD t undef) (ops:=ops) (n:=n) (Q:=Q) hT hr l σ G β a w h hc hs (fun _ _=>rfl)
 rwa [List.append_nil]at this
theorem zQp {G:Nat->Prop}{w:World}{β:Nat->Value}{a:Act}:∀ {L:List (Nat×AV)},(∀ p∈L,AVal G w β p.2 (a.tmps.getD p.1 undef))->∀ t,AVal G w β (ofL L t) (a.tmps.getD t undef)
 | [],_,t=>by simp only[ofL,AVal]
 | (s,x)::r,h,t=>by
  simp only[ofL]
  cases e:Nat.beq t s with
  | true=>obtain rfl:=Nat.eq_of_beq_eq_true e; exact h _ List.mem_cons_self
  | false=>exact zQp (fun p hp=>h p (List.mem_cons_of_mem _ hp)) t
theorem zPj {P:Program}{W:World}{G:Nat->Prop}{N:Nat}{a:Act} (L:List (Nat×AV)) (hd:a.defers=[]) (hs:a.tmps.size=N) (hl:∀ b,G b->b<W.heap.size) (hg:GlobOk G W) (hL:ltL 0 L=true) (he:∀ p∈L,AVal G W (fun _=>.tuple #[]) p.2 (a.tmps.getD p.1 undef)) :
  Conc (zDT P W G N) G (fun _=>.tuple #[]) ⟨ofL L,fun _=>none,0⟩ a W:=zSN hd hs hl hg (zQp he) (zJj hL)
theorem zI0 {n:Nat}{P:Program}{ops:Array Oper}{Q:Exit->Act->World->Prop}{o:Oper}{rest:List Oper}{a:Act}{w:World} (hg:o.guard=none) (h:o.wpIn Fence.wide n P a w (wpListIn Fence.wide n P ops Q rest) Q):wpListIn Fence.wide n P ops Q (o::rest) a w:=by
 unfold wpListIn;rw[if_pos (by simp[Region.wanted,hg])]
 exact h
theorem zRD {P:Program}{o:Oper}{f x y:Operand}{ts:Array TypeId}{l:Nat}{a:Act}{w:World}{K:Act->World->Prop}{Q:Exit->Act->World->Prop}{R:Ending->World->Prop}{u:Value} (ho:o.op = .call { callee:=.value f,args:=#[x,y],argTypes:=ts })
  (hf:a.eval f = .func (.yield l) #[] #[]) (hY:YieldAt Fence.wide 0 P l #[a.eval x,a.eval y] w R) (hR:∀ e w',R e w'->e = .returned u/\K (a.put o.dst u) w'):o.wpIn Fence.wide 1 P a w K Q:=by
 obtain⟨fn,tmps,assign,body,hy,hr⟩:=hY;refine⟨fun _ _=>trivial,?_⟩
 rw[Oper.semAt_eq _ _ _ (by rw[ho]; intro c e; cases e)]
 have:(execOp a.eval o).run P w = .ok (.round l fn tmps assign body) w:=by
  simp[execOp,ho,resolve,hf,Deferred.ofValue,invoke,hy]
 rw[this]
 refine⟨fun h=>(by cases h),hr.mono fun e w' he=>?_⟩
 obtain⟨rfl,h⟩:=hR e w' he;exact h
theorem Conc.back {P:Program}{W:World}{G G':Nat->Prop}{N:Nat}{β:Nat->Value}{σ:St}{a:Act}{w:World} (hc:Conc (zDT P W G N) G' β σ a w) (hs:w.heap.size=W.heap.size):(∀ b,G' b->G b)/\∀ b,b<W.heap.size->w.heap[b]? = W.heap[b]? :=
 ⟨fun b hb=>(hc.new b hb).elim id (fun h=>h.elim False.elim (fun h=>by have:=hc.lt b hb; have h:W.heap.size<=b:=h; omega)),fun b hb=>hc.fr.old b hb (fun h=>h)⟩
end Go.Abs
