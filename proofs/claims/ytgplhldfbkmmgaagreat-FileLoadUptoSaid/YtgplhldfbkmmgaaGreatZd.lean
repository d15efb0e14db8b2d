/-
  Joined out of: FzVA, FzVB, LibG, LibH, LibW, AbsY, LibO, LibR, FzE, LibE, FzF, RwA, LibL.
-/
import Derived.WalkKit
import Derived.Lib.Walk
import Derived.Lib.SliceRun
import Derived.Lib.AppendZerosOnto
import Derived.Shelf.RegionOpenPlain
import Derived.Test.YtgplhldfbkmmgaaGreatZc
set_option linter.unusedVariables false
set_option linter.unusedSimpArgs false
set_option maxHeartbeats 2000000
set_option maxRecDepth 100000
namespace Go.Proofs.YtgplhldfbkmmgaaGreat
open Go.Abs
def zSH (xs:List AV) (r:Ret):Prop:=∃ (a0:List UInt8) (y0:Bool),zCF a0=some y0/\xs=[.s (.str a0)]/\r = .val (.s (.bool y0))
def zM2:zAr:=zAq fun xs r=>zSH xs r
theorem zRX:PSound Tryz.prog 138 zM2:=by
 have gok:=@gok0 Tryz.prog;refine zAs tokW Tryz.call138 Tryz.func138 rfl (fun xs r h=>by obtain⟨_,_,_,rfl,_⟩:=h; show 1<=5; decide) 5 rfl ?_;rintro xs r w0 G0 ⟨s1,y0,h,rfl,rfl⟩ _;rw[zCF]at h;refine yAW ?_;refine yAW ?_;refine zAd ?_;have hy:=osi h;subst hy;exact fin0 rfl rfl
def zPP (n:Nat) (xs:List AV) (r:Ret):Prop:=∃ (a0:List UInt8) (y0:Bool),zD3 n a0=some y0/\xs=[.s (.str a0)]/\r = .val (.s (.bool y0))
def zKD:zAr:=zAq fun xs r=>∃ n,zPP n xs r
theorem zO7:PSound Tryz.prog 170 zKD:=by
 have gok:=@gok0 Tryz.prog;refine zAs tokW Tryz.call170 Tryz.func170 rfl (fun xs r h=>by obtain⟨n,_,_,_,rfl,_⟩:=h; show 1<=21; decide) 21 rfl ?_;rintro xs r w0 G0 ⟨n,s1,y0,h,rfl,rfl⟩ _;rw[zD3]at h;refine yAW ?_;refine zAa ?_;refine yAW ?_;show Tri ..;obtain⟨fl,hl,ho1⟩:=zAc h;refine zBA (fl:=fl) (fun z=>match z with | _=>⟨ofL [],fun _=>none,0⟩) ?_ (fun z σ' hz hle=>?_)
 ·refine zAi (zAt (X:=Nat×Int) (fun y=>match y with | (k,i2)=>⟨ofL [(0,.s (.str s1)),(3,.s (.int .i64 i2))],fun _=>none,0⟩) (fun y=>zBF s1 y.1 y.2=some fl) (fun y=>y.1) (n,0) hl ?_ ?_)
  ·exact(Le.forget _ ⟨rfl,rfl,trivial⟩)
  ·rintro⟨k,i2⟩ h;cases k with
   | zero=>cases h
   | succ k =>
    replace h:zBF s1 (k+1) i2=some fl:=h;rw[zBF]at h;refine zAa ?_;refine yAW ?_;refine zAf rfl h (fun hb h=>?_) (fun hb h=>?_)
    ·refine zAe ?_;refine zAa ?_;refine zAi ?_;refine yAh [] [13] rfl ?_;obtain⟨c3,hc3,h⟩:=zAc h;refine And.intro (zB9 hc3).1 ?_;intro v4 hv4;obtain rfl:(c3.toNat:Int)=v4:=(hv4.trans (zB9 hc3).2).symm;refine zAa ?_;obtain⟨x5,hj,h⟩:=zAc h;refine zAl ⟨ofL [(0,.s (.str s1)),(3,.s (.int .i64 i2)),(20,.s (.bool x5))],fun _=>none,0⟩ ?_ (fun σ' hle=>?_)
     ·replace h:=hj;refine zAb [] [17] rfl ?_;intro b hb;cases b with
      | true =>
       replace h:=zAv hb.symm h;cases h;exact(Le.forget _ ⟨rfl,rfl,rfl,trivial⟩)
      | false =>
       replace h:=zAu hb.symm h;cases h;exact(Le.forget _ ⟨rfl,rfl,rfl,trivial⟩)
     ·refine zAh hle ?_;refine zAf rfl h (fun hb h=>?_) (fun hb h=>?_)
      ·refine yAW ?_;refine zAd ?_;cases h;replace h:some _=some _:=ho1;have hy:=osi h;subst hy;exact fin0 rfl rfl
      ·refine zAe ?_;refine yAV ?_;refine⟨(k,IntKind.i64.wrap (i2+1)),h,(Le.forget _ ⟨rfl,rfl,trivial⟩),Nat.lt_succ_self k⟩
    ·refine zAy ?_;cases h;exact⟨_,rfl,(Le.forget _ trivial)⟩
 ·subst hz;obtain _:=z;replace h:=ho1;refine zAh hle ?_;refine yAW ?_;refine zAd ?_;have hy:=osi h;subst hy;exact fin0 rfl rfl
def zPO (xs:List AV) (r:Ret):Prop:=∃ (a0:List UInt8) (y0:Bool),zEY a0=some y0/\xs=[.s (.str a0)]/\r = .val (.s (.bool y0))
def zKC:zAr:=zAq fun xs r=>zPO xs r
theorem zO6:PSound Tryz.prog 172 zKC:=by
 have gok:=@gok0 Tryz.prog;refine zAs tokW Tryz.call172 Tryz.func172 rfl (fun xs r h=>by obtain⟨_,_,_,rfl,_⟩:=h; show 1<=9; decide) 9 rfl ?_;rintro xs r w0 G0 ⟨s1,y0,h,rfl,rfl⟩ _;rw[zEY]at h;refine yAW ?_;refine zAa ?_;refine yAW ?_;show Tri ..;obtain⟨fl,hj,ho1⟩:=zAc h;refine zBA (fl:=fl) (fun z=>match z with | _=>⟨ofL [],fun _=>none,0⟩) ?_ (fun z σ' hz hle=>?_)
 ·replace h:=hj;refine zAi ?_;refine zAa ?_;refine yAW ?_;show Tri ..;obtain⟨x2,hj,h⟩:=zAc h;refine zAl ⟨ofL [(4,.s (.bool x2))],fun _=>none,0⟩ ?_ (fun σ' hle=>?_)
  ·replace h:=hj;refine zAf rfl h (fun hb h=>?_) (fun hb h=>?_)
   ·refine zAe ?_;cases h;exact(Le.forget _ ⟨rfl,trivial⟩)
   ·refine yAW ?_;refine zAf rfl h (fun hb h=>?_) (fun hb h=>?_)
    ·refine zAe ?_;cases h;exact(Le.forget _ ⟨rfl,trivial⟩)
    ·refine yAW ?_;refine zAf rfl h (fun hb h=>?_) (fun hb h=>?_)
     ·refine zAe ?_;cases h;exact(Le.forget _ ⟨rfl,trivial⟩)
     ·refine yAV ?_;cases h;exact(Le.forget _ ⟨rfl,trivial⟩)
  ·refine zAh hle ?_;refine zAf rfl h (fun hb h=>?_) (fun hb h=>?_)
   ·refine yAW ?_;refine zAd ?_;cases h;replace h:some _=some _:=ho1;have hy:=osi h;subst hy;exact fin0 rfl rfl
   ·refine zAe ?_;cases h;exact⟨_,rfl,(Le.forget _ trivial)⟩
 ·subst hz;obtain _:=z;replace h:=ho1;refine zAh hle ?_;refine yAW ?_;refine zAd ?_;have hy:=osi h;subst hy;exact fin0 rfl rfl
def zRm (xs:List AV) (r:Ret):Prop:=∃ (a0:List UInt8) (y0:Bool),zEB a0=some y0/\xs=[.s (.str a0)]/\r = .val (.s (.bool y0))
def zIE:zAr:=zAq fun xs r=>zRm xs r
theorem zKP:PSound Tryz.prog 142 zIE:=by
 have gok:=@gok0 Tryz.prog;refine zAs tokW Tryz.call142 Tryz.func142 rfl (fun xs r h=>by obtain⟨_,_,_,rfl,_⟩:=h; show 1<=11; decide) 11 rfl ?_;rintro xs r w0 G0 ⟨s1,y0,h,rfl,rfl⟩ _;rw[zEB]at h;refine yAW ?_;refine zAa ?_;refine yAW ?_;show Tri ..;obtain⟨fl,hj,ho1⟩:=zAc h;refine zBA (fl:=fl) (fun z=>match z with | _=>⟨ofL [],fun _=>none,0⟩) ?_ (fun z σ' hz hle=>?_)
 ·replace h:=hj;refine zAi ?_;refine zAa ?_;refine yAW ?_;show Tri ..;obtain⟨x2,hj,h⟩:=zAc h;refine zAl ⟨ofL [(4,.s (.bool x2))],fun _=>none,0⟩ ?_ (fun σ' hle=>?_)
  ·replace h:=hj;refine zAf rfl h (fun hb h=>?_) (fun hb h=>?_)
   ·refine zAe ?_;cases h;exact(Le.forget _ ⟨rfl,trivial⟩)
   ·refine yAW ?_;refine zAf rfl h (fun hb h=>?_) (fun hb h=>?_)
    ·refine zAe ?_;cases h;exact(Le.forget _ ⟨rfl,trivial⟩)
    ·refine yAW ?_;refine zAf rfl h (fun hb h=>?_) (fun hb h=>?_)
     ·refine zAe ?_;cases h;exact(Le.forget _ ⟨rfl,trivial⟩)
     ·refine yAW ?_;refine zAf rfl h (fun hb h=>?_) (fun hb h=>?_)
      ·refine zAe ?_;cases h;exact(Le.forget _ ⟨rfl,trivial⟩)
      ·refine yAW ?_;refine zAf rfl h (fun hb h=>?_) (fun hb h=>?_)
       ·refine zAe ?_;cases h;exact(Le.forget _ ⟨rfl,trivial⟩)
       ·refine yAV ?_;cases h;exact(Le.forget _ ⟨rfl,trivial⟩)
  ·refine zAh hle ?_;refine zAf rfl h (fun hb h=>?_) (fun hb h=>?_)
   ·refine yAW ?_;refine zAd ?_;cases h;replace h:some _=some _:=ho1;have hy:=osi h;subst hy;exact fin0 rfl rfl
   ·refine zAe ?_;cases h;exact⟨_,rfl,(Le.forget _ trivial)⟩
 ·subst hz;obtain _:=z;replace h:=ho1;refine zAh hle ?_;refine yAW ?_;refine zAd ?_;have hy:=osi h;subst hy;exact fin0 rfl rfl
def zRl (n:Nat) (xs:List AV) (r:Ret):Prop:=∃ (a0:List UInt8) (y0:Bool),zFz n a0=some y0/\xs=[.s (.str a0)]/\r = .val (.s (.bool y0))
def zLN:zAr:=zAq fun xs r=>∃ n,zRl n xs r
theorem zP8:PSound Tryz.prog 139 zLN:=by
 have gok:∀ f s,look? f [(170,zKD),(171,zHI),(172,zKC),(142,zIE)]=some s->PSound Tryz.prog f s:=zAm (by
  simp only[List.forall_mem_cons]
  exact⟨zO7,zLm,zO6,zKP,by simp⟩)
 refine zAs tokW Tryz.call139 Tryz.func139 rfl (fun xs r h=>by obtain⟨n,_,_,_,rfl,_⟩:=h; show 1<=34; decide) 34 rfl ?_;rintro xs r w0 G0 ⟨n,s1,y0,h,rfl,rfl⟩ _;rw[zFz]at h;refine yAW ?_;refine zAa ?_;refine yAW ?_;refine zAf rfl h (fun hb h=>?_) (fun hb h=>?_)
 ·refine zAa ?_;obtain⟨x2,hj,h⟩:=zAc h;refine zAl ⟨ofL [(2,.s (.bool x2))],fun _=>none,0⟩ ?_ (fun σ' hle=>?_)
  ·replace h:=hj;refine zAb [] [8] rfl ?_;obtain⟨y3,hy3,h⟩:=zAc h;refine⟨_,⟨_,_,_,hy3,rfl,rfl⟩,?_⟩
   intro b hb;cases b with
   | true =>
    replace h:=zAv hb.symm h;cases h;exact(Le.forget _ ⟨rfl,trivial⟩)
   | false =>
    replace h:=zAu hb.symm h;obtain⟨y4,hy4,h⟩:=zAc h;refine⟨_,⟨_,_,_,hy4,rfl,rfl⟩,?_⟩
    cases h;exact(Le.forget _ ⟨rfl,trivial⟩)
  ·refine zAh hle ?_;refine zAd ?_;have hy:=osi h;subst hy;exact fin0 rfl rfl
 ·refine zAe ?_;refine zAa ?_;obtain⟨x5,hj,h⟩:=zAc h;refine zAl ⟨ofL [(2,.s (.bool x5))],fun _=>none,0⟩ ?_ (fun σ' hle=>?_)
  ·replace h:=hj;refine zAb [] [15,20,24,29] rfl ?_;intro b hb;cases b with
   | true =>
    replace h:=zAv hb.symm h;intro b hb;cases b with
    | true =>
     replace h:=zAv hb.symm h;obtain⟨y6,hy6,h⟩:=zAc h;refine⟨_,⟨_,_,_,hy6,rfl,rfl⟩,?_⟩
     intro b hb;cases b with
     | true =>
      replace h:=zAv hb.symm h;obtain⟨y7,hy7,h⟩:=zAc h;refine⟨_,⟨_,_,hy7,rfl,rfl⟩,?_⟩
      intro b hb;cases b with
      | true =>
       replace h:=zAv hb.symm h;obtain⟨y8,hy8,h⟩:=zAc h;refine⟨_,⟨_,_,hy8,rfl,rfl⟩,?_⟩
       cases h;exact(Le.forget _ ⟨rfl,trivial⟩)
      | false =>
       replace h:=zAu hb.symm h;cases h;exact(Le.forget _ ⟨rfl,trivial⟩)
     | false =>
      replace h:=zAu hb.symm h;intro b hb;subst hb;cases h;exact(Le.forget _ ⟨rfl,trivial⟩)
    | false =>
     replace h:=zAu hb.symm h;intro b hb;subst hb;intro b hb;subst hb;cases h;exact(Le.forget _ ⟨rfl,trivial⟩)
   | false =>
    replace h:=zAu hb.symm h;intro b hb;subst hb;intro b hb;subst hb;intro b hb;subst hb;cases h;exact(Le.forget _ ⟨rfl,trivial⟩)
  ·refine zAh hle ?_;refine zAd ?_;have hy:=osi h;subst hy;exact fin0 rfl rfl
def zMt (xs:List AV) (r:Ret):Prop:=∃ (a0:List UInt8) (a1:List UInt8) (y0:List UInt8) (y1:List UInt8) (y2:Bool),zDA a0 a1=some (y0,y1,y2)/\xs=[.s (.str a0),.s (.str a1)]/\r = .val (.tup [.s (.str y0),.s (.str y1),.s (.bool y2)])
def zId:zAr:=zAq fun xs r=>zMt xs r
theorem zL8:PSound Tryz.prog 193 zId:=by
 have gok:∀ f s,look? f [(200,zHb)]=some s->PSound Tryz.prog f s:=zAm (by
  simp only[List.forall_mem_cons]
  exact⟨zKs,by simp⟩)
 refine zAs tokW Tryz.call193 Tryz.func193 rfl (fun xs r h=>by obtain⟨_,_,_,_,_,_,rfl,_⟩:=h; show 2<=23; decide) 23 rfl ?_;rintro xs r w0 G0 ⟨s1,sep2,y0,y1,y2,h,rfl,rfl⟩ _;rw[zDA]at h;refine yAW ?_;refine zAa ?_;refine yAW ?_;obtain⟨y3,hy3,h⟩:=zAc h;refine⟨_,⟨_,_,_,hy3,rfl,rfl⟩,?_⟩
 refine yAW ?_;refine zAf rfl h (fun hb h=>?_) (fun hb h=>?_)
 ·refine zAa ?_;refine zAK [] [] [] rfl (by decide +kernel) ?_;obtain⟨hq,h⟩:=zAw h;refine And.intro hq ?_;obtain⟨hq,h⟩:=zAw h;refine And.intro hq ?_;refine zAd ?_;obtain⟨hj1,hk1⟩:=pij h;subst hj1;obtain⟨hj2,hk2⟩:=Prod.mk.inj hk1;subst hj2;subst hk2;exact fin0 rfl rfl
 ·refine zAe ?_;refine yAW ?_;refine zAd ?_;obtain⟨hj1,hk1⟩:=pij h;subst hj1;obtain⟨hj2,hk2⟩:=Prod.mk.inj hk1;subst hj2;subst hk2;exact fin0 rfl rfl
def zRt (xs:List AV) (r:Ret):Prop:=∃ (a0:List UInt8) (a1:List UInt8) (y0:List UInt8) (y1:List UInt8) (y2:Bool),zFD a0 a1=some (y0,y1,y2)/\xs=[.s (.str a0),.s (.str a1)]/\r = .val (.tup [.s (.str y0),.s (.str y1),.s (.bool y2)])
def zLR:zAr:=zAq fun xs r=>zRt xs r
theorem zQc:PSound Tryz.prog 173 zLR:=by
 have gok:∀ f s,look? f [(193,zId)]=some s->PSound Tryz.prog f s:=zAm (by
  simp only[List.forall_mem_cons]
  exact⟨zL8,by simp⟩)
 refine zAs tokW Tryz.call173 Tryz.func173 rfl (fun xs r h=>by obtain⟨_,_,_,_,_,_,rfl,_⟩:=h; show 2<=13; decide) 13 rfl ?_;rintro xs r w0 G0 ⟨s1,sep2,y0,y1,y2,h,rfl,rfl⟩ _;rw[zFD]at h;refine yAW ?_;refine yAW ?_;obtain⟨⟨y3,y4,y5⟩,hy3,h⟩:=zAc h;refine⟨_,⟨_,_,_,_,_,hy3,rfl,rfl⟩,?_⟩
 refine zAd ?_;obtain⟨hj1,hk1⟩:=pij h;subst hj1;obtain⟨hj2,hk2⟩:=Prod.mk.inj hk1;subst hj2;subst hk2;exact fin0 rfl rfl
def zRn (n:Nat) (xs:List AV) (r:Ret):Prop:=∃ (a0:List UInt8) (y0:Bool),zEC n a0=some y0/\xs=[.s (.str a0)]/\r = .val (.s (.bool y0))
def zLO:zAr:=zAq fun xs r=>∃ n,zRn n xs r
theorem zP9:PSound Tryz.prog 174 zLO:=by
 have gok:=@gok0 Tryz.prog;refine zAs tokW Tryz.call174 Tryz.func174 rfl (fun xs r h=>by obtain⟨n,_,_,_,rfl,_⟩:=h; show 1<=22; decide) 22 rfl ?_;rintro xs r w0 G0 ⟨n,s1,y0,h,rfl,rfl⟩ _;rw[zEC]at h;refine yAW ?_;refine zAa ?_;refine yAW ?_;show Tri ..;obtain⟨fl,hl,ho1⟩:=zAc h;refine zBA (fl:=fl) (fun z=>match z with | _=>⟨ofL [(0,.s (.str s1))],fun _=>none,0⟩) ?_ (fun z σ' hz hle=>?_)
 ·refine zAi (zAt (X:=Nat×Int) (fun y=>match y with | (k,i2)=>⟨ofL [(0,.s (.str s1)),(3,.s (.int .i64 i2))],fun _=>none,0⟩) (fun y=>zBX s1 y.1 y.2=some fl) (fun y=>y.1) (n,0) hl ?_ ?_)
  ·exact(Le.forget _ ⟨rfl,rfl,trivial⟩)
  ·rintro⟨k,i2⟩ h;cases k with
   | zero=>cases h
   | succ k =>
    replace h:zBX s1 (k+1) i2=some fl:=h;rw[zBX]at h;refine zAa ?_;refine yAW ?_;refine zAf rfl h (fun hb h=>?_) (fun hb h=>?_)
    ·refine zAe ?_;refine zAa ?_;refine zAi ?_;refine zAa ?_;obtain⟨x3,hj,h⟩:=zAc h;refine zAl ⟨ofL [(0,.s (.str s1)),(3,.s (.int .i64 i2)),(19,.s (.bool x3))],fun _=>none,0⟩ ?_ (fun σ' hle=>?_)
     ·replace h:=hj;refine zAb [] [12,14,17] rfl ?_;obtain⟨c4,hc4,h⟩:=zAc h;refine And.intro (zB9 hc4).1 ?_;intro v5 hv5;obtain rfl:(c4.toNat:Int)=v5:=(hv5.trans (zB9 hc4).2).symm;intro b hb;cases b with
      | true =>
       replace h:=zAv hb.symm h;cases h;exact(Le.forget _ ⟨rfl,rfl,rfl,trivial⟩)
      | false =>
       replace h:=zAu hb.symm h;obtain⟨c6,hc6,h⟩:=zAc h;refine And.intro (zB9 hc6).1 ?_;intro v7 hv7;obtain rfl:(c6.toNat:Int)=v7:=(hv7.trans (zB9 hc6).2).symm;cases h;exact(Le.forget _ ⟨rfl,rfl,rfl,trivial⟩)
     ·refine zAh hle ?_;refine zAf rfl h (fun hb h=>?_) (fun hb h=>?_)
      ·refine yAW ?_;refine zAd ?_;cases h;replace h:some _=some _:=ho1;have hy:=osi h;subst hy;exact fin0 rfl rfl
      ·refine zAe ?_;refine yAV ?_;refine⟨(k,IntKind.i64.wrap (i2+1)),h,(Le.forget _ ⟨rfl,rfl,trivial⟩),Nat.lt_succ_self k⟩
    ·refine zAy ?_;cases h;exact⟨_,rfl,(Le.forget _ ⟨rfl,trivial⟩)⟩
 ·subst hz;obtain _:=z;replace h:=ho1;refine zAh hle ?_;refine yAW ?_;refine zAd ?_;have hy:=osi h;subst hy;exact fin0 rfl rfl
def zRk (n:Nat) (xs:List AV) (r:Ret):Prop:=∃ (a0:List UInt8) (y0:Bool),zEA n a0=some y0/\xs=[.s (.str a0)]/\r = .val (.s (.bool y0))
def zLM:zAr:=zAq fun xs r=>∃ n,zRk n xs r
theorem zP7:PSound Tryz.prog 140 zLM:=by
 have gok:∀ f s,look? f [(173,zLR),(174,zLO)]=some s->PSound Tryz.prog f s:=zAm (by
  simp only[List.forall_mem_cons]
  exact⟨zQc,zP9,by simp⟩)
 refine zAs tokW Tryz.call140 Tryz.func140 rfl (fun xs r h=>by obtain⟨n,_,_,_,rfl,_⟩:=h; show 1<=27; decide) 27 rfl ?_;rintro xs r w0 G0 ⟨n,s1,y0,h,rfl,rfl⟩ _;rw[zEA]at h;refine yAW ?_;refine yAW ?_;obtain⟨⟨y2,y3,y4⟩,hy2,h⟩:=zAc h;refine⟨_,⟨_,_,_,_,_,hy2,rfl,rfl⟩,?_⟩
 refine zAa ?_;obtain⟨x5,hj,h⟩:=zAc h;refine zAl ⟨ofL [(2,.s (.bool x5))],fun _=>none,0⟩ ?_ (fun σ' hle=>?_)
 ·replace h:=hj;refine zAb [] [15,19,22] rfl ?_;intro b hb;cases b with
  | true =>
   replace h:=zAv hb.symm h;obtain⟨y6,hy6,h⟩:=zAc h;refine⟨_,⟨_,_,_,hy6,rfl,rfl⟩,?_⟩
   intro b hb;cases b with
   | true =>
    replace h:=zAv hb.symm h;intro b hb;cases b with
    | true =>
     replace h:=zAv hb.symm h;cases h;exact(Le.forget _ ⟨rfl,trivial⟩)
    | false =>
     replace h:=zAu hb.symm h;obtain⟨y7,hy7,h⟩:=zAc h;refine⟨_,⟨_,_,_,hy7,rfl,rfl⟩,?_⟩
     cases h;exact(Le.forget _ ⟨rfl,trivial⟩)
   | false =>
    replace h:=zAu hb.symm h;cases h;exact(Le.forget _ ⟨rfl,trivial⟩)
  | false =>
   replace h:=zAu hb.symm h;intro b hb;subst hb;cases h;exact(Le.forget _ ⟨rfl,trivial⟩)
 ·refine zAh hle ?_;refine zAd ?_;have hy:=osi h;subst hy;exact fin0 rfl rfl
def zSK (n:Nat) (xs:List AV) (r:Ret):Prop:=∃ (a0:List UInt8) (y0:Bool),zGf n a0=some y0/\xs=[.s (.str a0)]/\r = .val (.s (.bool y0))
def zM5:zAr:=zAq fun xs r=>∃ n,zSK n xs r
theorem zR0:PSound Tryz.prog 141 zM5:=by
 have gok:=@gok0 Tryz.prog;refine zAs tokW Tryz.call141 Tryz.func141 rfl (fun xs r h=>by obtain⟨n,_,_,_,rfl,_⟩:=h; show 1<=23; decide) 23 rfl ?_;rintro xs r w0 G0 ⟨n,s1,y0,h,rfl,rfl⟩ _;rw[zGf]at h;refine yAW ?_;refine zAa ?_;refine yAW ?_;show Tri ..;obtain⟨fl,hl,ho1⟩:=zAc h;refine zBA (fl:=fl) (fun z=>match z with | _=>⟨ofL [(0,.s (.str s1))],fun _=>none,0⟩) ?_ (fun z σ' hz hle=>?_)
 ·refine zAi (zAt (X:=Nat×Int) (fun y=>match y with | (k,i2)=>⟨ofL [(0,.s (.str s1)),(3,.s (.int .i64 i2))],fun _=>none,0⟩) (fun y=>zCh s1 y.1 y.2=some fl) (fun y=>y.1) (n,0) hl ?_ ?_)
  ·exact(Le.forget _ ⟨rfl,rfl,trivial⟩)
  ·rintro⟨k,i2⟩ h;cases k with
   | zero=>cases h
   | succ k =>
    replace h:zCh s1 (k+1) i2=some fl:=h;rw[zCh]at h;refine zAa ?_;refine yAW ?_;refine zAf rfl h (fun hb h=>?_) (fun hb h=>?_)
    ·refine zAe ?_;refine zAa ?_;refine zAi ?_;refine zAa ?_;obtain⟨x3,hj,h⟩:=zAc h;refine zAl ⟨ofL [(0,.s (.str s1)),(3,.s (.int .i64 i2)),(19,.s (.bool x3))],fun _=>none,0⟩ ?_ (fun σ' hle=>?_)
     ·replace h:=hj;refine zAb [] [12,14,17] rfl ?_;obtain⟨c4,hc4,h⟩:=zAc h;refine And.intro (zB9 hc4).1 ?_;intro v5 hv5;obtain rfl:(c4.toNat:Int)=v5:=(hv5.trans (zB9 hc4).2).symm;intro b hb;cases b with
      | true =>
       replace h:=zAv hb.symm h;cases h;exact(Le.forget _ ⟨rfl,rfl,rfl,trivial⟩)
      | false =>
       replace h:=zAu hb.symm h;obtain⟨c6,hc6,h⟩:=zAc h;refine And.intro (zB9 hc6).1 ?_;intro v7 hv7;obtain rfl:(c6.toNat:Int)=v7:=(hv7.trans (zB9 hc6).2).symm;cases h;exact(Le.forget _ ⟨rfl,rfl,rfl,trivial⟩)
     ·refine zAh hle ?_;refine zAf rfl h (fun hb h=>?_) (fun hb h=>?_)
      ·refine yAW ?_;refine zAd ?_;cases h;replace h:some _=some _:=ho1;have hy:=osi h;subst hy;exact fin0 rfl rfl
      ·refine zAe ?_;refine yAV ?_;refine⟨(k,IntKind.i64.wrap (i2+1)),h,(Le.forget _ ⟨rfl,rfl,trivial⟩),Nat.lt_succ_self k⟩
    ·refine zAy ?_;cases h;exact⟨_,rfl,(Le.forget _ ⟨rfl,trivial⟩)⟩
 ·subst hz;obtain _:=z;replace h:=ho1;refine zAh hle ?_;refine yAW ?_;refine zAd ?_;have hy:=osi h;subst hy;exact fin0 rfl rfl
def zSI (xs:List AV) (r:Ret):Prop:=∃ (a0:List UInt8) (y0:Bool),zGe a0=some y0/\xs=[.s (.str a0)]/\r = .val (.s (.bool y0))
def zM3:zAr:=zAq fun xs r=>zSI xs r
theorem zRY:PSound Tryz.prog 143 zM3:=by
 have gok:∀ f s,look? f [(175,zHa)]=some s->PSound Tryz.prog f s:=zAm (by
  simp only[List.forall_mem_cons]
  exact⟨zKr,by simp⟩)
 refine zAs tokW Tryz.call143 Tryz.func143 rfl (fun xs r h=>by obtain⟨_,_,_,rfl,_⟩:=h; show 1<=18; decide) 18 rfl ?_;rintro xs r w0 G0 ⟨s1,y0,h,rfl,rfl⟩ _;rw[zGe]at h;refine yAW ?_;refine zAa ?_;obtain⟨x2,hj,h⟩:=zAc h;refine zAl ⟨ofL [(2,.s (.bool x2))],fun _=>none,0⟩ ?_ (fun σ' hle=>?_)
 ·replace h:=hj;refine zAb [] [6,8,12,14] rfl ?_;intro b hb;cases b with
  | true =>
   replace h:=zAv hb.symm h;obtain⟨c3,hc3,h⟩:=zAc h;refine And.intro (zB9 hc3).1 ?_;intro v4 hv4;obtain rfl:(c3.toNat:Int)=v4:=(hv4.trans (zB9 hc3).2).symm;obtain⟨y5,hy5,h⟩:=zAc h;refine⟨_,⟨_,_,_,hy5,rfl,rfl⟩,?_⟩
   intro b hb;cases b with
   | true =>
    replace h:=zAv hb.symm h;obtain⟨c6,hc6,h⟩:=zAc h;refine And.intro (zB9 hc6).1 ?_;intro v7 hv7;obtain rfl:(c6.toNat:Int)=v7:=(hv7.trans (zB9 hc6).2).symm;obtain⟨y8,hy8,h⟩:=zAc h;refine⟨_,⟨_,_,_,hy8,rfl,rfl⟩,?_⟩
    cases h;exact(Le.forget _ ⟨rfl,trivial⟩)
   | false =>
    replace h:=zAu hb.symm h;cases h;exact(Le.forget _ ⟨rfl,trivial⟩)
  | false =>
   replace h:=zAu hb.symm h;intro b hb;subst hb;cases h;exact(Le.forget _ ⟨rfl,trivial⟩)
 ·refine zAh hle ?_;refine zAd ?_;have hy:=osi h;subst hy;exact fin0 rfl rfl
def zBf (p:Unit):List S:=[.str [],.int .i64 0,.nf,.str [114,111,119],.int .i64 0,.fn 138,.str [115,121,109],.int .i64 0,.fn 139,.str [110,117,109],.int .i64 0,.fn 140,.str [116,101,120,116],.int .i64 0,.fn 141,.str [102,114,97,99],.int .i64 2,.fn 138,.str [114,111,111,116],.int .i64 2,.fn 138,.str [115,117,98],.int .i64 2,.fn 138,.str [115,117,112],.int .i64 2,.fn 138,.str [98,111,116,104],.int .i64 3,.fn 138,.str [97,99,99,101,110,116],.int .i64 1,.fn 142,.str [102,101,110,99,101],.int .i64 1,.fn 143,.str [109,97,116,114,105,120],.int .i64 0,.fn 138]
def zSJ (xs:List AV) (r:Ret):Prop:=∃ (y0:Unit),zHK=some y0/\xs=[]/\r = .val (.agg ((zBf y0).map .s))
def zM4:zAr:=zAq fun xs r=>zSJ xs r
theorem zRZ:PSound Tryz.prog 109 zM4:=by
 have gok:=@gok0 Tryz.prog;refine zAs tokW Tryz.call109 Tryz.func109 rfl (fun xs r h=>by obtain⟨_,_,rfl,_⟩:=h; show 0<=14; decide) 14 rfl ?_;rintro xs r w0 G0 ⟨y0,h,rfl,rfl⟩ _;rw[zHK]at h;refine yAh [0] [] rfl ?_;refine yAW ?_;refine zAd ?_;have hy:=osi h;subst hy;exact fin0 rfl rfl
def zAR (p:(Unit×Int)):List S:=[.str [],.int .i64 0,.nf,.str [114,111,119],.int .i64 0,.fn 138,.str [115,121,109],.int .i64 0,.fn 139,.str [110,117,109],.int .i64 0,.fn 140,.str [116,101,120,116],.int .i64 0,.fn 141,.str [102,114,97,99],.int .i64 2,.fn 138,.str [114,111,111,116],.int .i64 2,.fn 138,.str [115,117,98],.int .i64 2,.fn 138,.str [115,117,112],.int .i64 2,.fn 138,.str [98,111,116,104],.int .i64 3,.fn 138,.str [97,99,99,101,110,116],.int .i64 1,.fn 142,.str [102,101,110,99,101],.int .i64 1,.fn 143,.str [109,97,116,114,105,120],.int .i64 0,.fn 138,.int .i64 p.2]
def zLG (n:Nat) (xs:List AV) (os:List Ob) (x:AV) (os':List (Option Ob)):Prop:=∃ (a0:(Unit×Int)) (a1:Nd) (y0:Bool) (z0:(Unit×Int)),zDb n a0 a1=some (y0,z0)/\xs=[.op 0 0,.s (.pt (Nd.enc a1))]/\os=[.box 167 ((zAR a0).map .s)]/\x = .s (.bool y0)/\os'=[some (.box 167 ((zAR z0).map .s))]
def zHH:zAr:=zBI (fun xs os x os'=>∃ n,zLG n xs os x os')
theorem zLk:PSound Tryz.prog 144 zHH:=by
 have gok:∀ f s,look? f [(138,zM2),(139,zLN),(140,zLM),(141,zM5),(142,zIE),(143,zM3)]=some s->PSound Tryz.prog f s:=zAm (by
  simp only[List.forall_mem_cons]
  exact⟨zRX,zP8,zP7,zR0,zKP,zRY,by simp⟩)
 refine PSound.withNil (zDZ tokW Tryz.call144 Tryz.func144 rfl (fun xs os x os' h=>by obtain⟨n,_,_,_,_,_,rfl,rfl,_,rfl⟩:=h; exact⟨by show 2<=120; decide,by show 1<=1; decide⟩) 120 rfl ?_) _;rintro xs os x os' w0 G0 B0 ⟨n,⟨_,o1G⟩,⟨a2A,a2B,a2F,a2E⟩,y0,z0,h,rfl,rfl,rfl,rfl⟩ _;rw[zDb]at h;refine yAW ?_;refine zAa ?_;refine zAa ?_;obtain⟨x3,hj,h⟩:=zAc h
 refine zAl ⟨ofL [(0,.op 0 0),(1,.s (.pt [.int .i64 a2A,.str a2B,.int .i64 a2F,.sl 4 (Nd.encs a2E)])),(34,.s (.bool x3))],ofH [(0,.box 167 [.s (.str []),.s (.int .i64 0),.s (.nf),.s (.str [114,111,119]),.s (.int .i64 0),.s (.fn 138),.s (.str [115,121,109]),.s (.int .i64 0),.s (.fn 139),.s (.str [110,117,109]),.s (.int .i64 0),.s (.fn 140),.s (.str [116,101,120,116]),.s (.int .i64 0),.s (.fn 141),.s (.str [102,114,97,99]),.s (.int .i64 2),.s (.fn 138),.s (.str [114,111,111,116]),.s (.int .i64 2),.s (.fn 138),.s (.str [115,117,98]),.s (.int .i64 2),.s (.fn 138),.s (.str [115,117,112]),.s (.int .i64 2),.s (.fn 138),.s (.str [98,111,116,104]),.s (.int .i64 3),.s (.fn 138),.s (.str [97,99,99,101,110,116]),.s (.int .i64 1),.s (.fn 142),.s (.str [102,101,110,99,101]),.s (.int .i64 1),.s (.fn 143),.s (.str [109,97,116,114,105,120]),.s (.int .i64 0),.s (.fn 138),.s (.int .i64 o1G)])],1⟩ ?_ (fun σ' hle=>?_)
 ·replace h:=hj;refine zAK [] [10,17,22] [22] rfl (by decide +kernel) ?_;intro b hb;cases b with
  | true =>
   replace h:=zAv hb.symm h;intro b hb;subst hb;cases h;exact(Le.rnm [(0,0)] _ _ _ ⟨rfl,rfl,rfl,trivial⟩ ⟨rfl,⟨_,rfl,rfl⟩,trivial⟩)
  | false =>
   replace h:=zAu hb.symm h;intro b hb;cases b with
   | true =>
    replace h:=zAv hb.symm h;cases h;exact(Le.rnm [(0,0)] _ _ _ ⟨rfl,rfl,rfl,trivial⟩ ⟨rfl,⟨_,rfl,rfl⟩,trivial⟩)
   | false =>
    replace h:=zAu hb.symm h;intro vsp hvsp;cases hc:(a2A == 1) with
    | true =>
     replace h:=zAv hc h;obtain rfl:(1:Int)=vsp:=(hvsp.trans (eq_of_beq hc)).symm;refine And.intro (by decide) ?_;obtain⟨y4,hy4,h⟩:=zAc h;refine⟨_,⟨_,_,hy4,rfl,rfl⟩,?_⟩
     cases h;exact(Le.rnm [(0,0)] _ _ _ ⟨rfl,rfl,rfl,trivial⟩ ⟨rfl,⟨_,rfl,rfl⟩,trivial⟩)
    | false =>
     replace h:=zAu hc h;cases hc:(a2A == 2) with
     | true =>
      replace h:=zAv hc h;obtain rfl:(2:Int)=vsp:=(hvsp.trans (eq_of_beq hc)).symm;refine And.intro (by decide) ?_;obtain⟨y5,hy5,h⟩:=zAc h;refine⟨_,⟨_,_,_,hy5,rfl,rfl⟩,?_⟩
      cases h;exact(Le.rnm [(0,0)] _ _ _ ⟨rfl,rfl,rfl,trivial⟩ ⟨rfl,⟨_,rfl,rfl⟩,trivial⟩)
     | false =>
      replace h:=zAu hc h;cases hc:(a2A == 3) with
      | true =>
       replace h:=zAv hc h;obtain rfl:(3:Int)=vsp:=(hvsp.trans (eq_of_beq hc)).symm;refine And.intro (by decide) ?_;obtain⟨y6,hy6,h⟩:=zAc h;refine⟨_,⟨_,_,_,hy6,rfl,rfl⟩,?_⟩
       cases h;exact(Le.rnm [(0,0)] _ _ _ ⟨rfl,rfl,rfl,trivial⟩ ⟨rfl,⟨_,rfl,rfl⟩,trivial⟩)
      | false =>
       replace h:=zAu hc h;cases hc:(a2A == 4) with
       | true =>
        replace h:=zAv hc h;obtain rfl:(4:Int)=vsp:=(hvsp.trans (eq_of_beq hc)).symm;refine And.intro (by decide) ?_;obtain⟨y7,hy7,h⟩:=zAc h;refine⟨_,⟨_,_,_,hy7,rfl,rfl⟩,?_⟩
        cases h;exact(Le.rnm [(0,0)] _ _ _ ⟨rfl,rfl,rfl,trivial⟩ ⟨rfl,⟨_,rfl,rfl⟩,trivial⟩)
       | false =>
        replace h:=zAu hc h;cases hc:(a2A == 5) with
        | true =>
         replace h:=zAv hc h;obtain rfl:(5:Int)=vsp:=(hvsp.trans (eq_of_beq hc)).symm;refine And.intro (by decide) ?_;obtain⟨y8,hy8,h⟩:=zAc h;refine⟨_,⟨_,_,hy8,rfl,rfl⟩,?_⟩
         cases h;exact(Le.rnm [(0,0)] _ _ _ ⟨rfl,rfl,rfl,trivial⟩ ⟨rfl,⟨_,rfl,rfl⟩,trivial⟩)
        | false =>
         replace h:=zAu hc h;cases hc:(a2A == 6) with
         | true =>
          replace h:=zAv hc h;obtain rfl:(6:Int)=vsp:=(hvsp.trans (eq_of_beq hc)).symm;refine And.intro (by decide) ?_;obtain⟨y9,hy9,h⟩:=zAc h;refine⟨_,⟨_,_,hy9,rfl,rfl⟩,?_⟩
          cases h;exact(Le.rnm [(0,0)] _ _ _ ⟨rfl,rfl,rfl,trivial⟩ ⟨rfl,⟨_,rfl,rfl⟩,trivial⟩)
         | false =>
          replace h:=zAu hc h;cases hc:(a2A == 7) with
          | true =>
           replace h:=zAv hc h;obtain rfl:(7:Int)=vsp:=(hvsp.trans (eq_of_beq hc)).symm;refine And.intro (by decide) ?_;obtain⟨y10,hy10,h⟩:=zAc h;refine⟨_,⟨_,_,hy10,rfl,rfl⟩,?_⟩
           cases h;exact(Le.rnm [(0,0)] _ _ _ ⟨rfl,rfl,rfl,trivial⟩ ⟨rfl,⟨_,rfl,rfl⟩,trivial⟩)
          | false =>
           replace h:=zAu hc h;cases hc:(a2A == 8) with
           | true =>
            replace h:=zAv hc h;obtain rfl:(8:Int)=vsp:=(hvsp.trans (eq_of_beq hc)).symm;refine And.intro (by decide) ?_;obtain⟨y11,hy11,h⟩:=zAc h;refine⟨_,⟨_,_,hy11,rfl,rfl⟩,?_⟩
            cases h;exact(Le.rnm [(0,0)] _ _ _ ⟨rfl,rfl,rfl,trivial⟩ ⟨rfl,⟨_,rfl,rfl⟩,trivial⟩)
           | false =>
            replace h:=zAu hc h;cases hc:(a2A == 9) with
            | true =>
             replace h:=zAv hc h;obtain rfl:(9:Int)=vsp:=(hvsp.trans (eq_of_beq hc)).symm;refine And.intro (by decide) ?_;obtain⟨y12,hy12,h⟩:=zAc h;refine⟨_,⟨_,_,hy12,rfl,rfl⟩,?_⟩
             cases h;exact(Le.rnm [(0,0)] _ _ _ ⟨rfl,rfl,rfl,trivial⟩ ⟨rfl,⟨_,rfl,rfl⟩,trivial⟩)
            | false =>
             replace h:=zAu hc h;cases hc:(a2A == 10) with
             | true =>
              replace h:=zAv hc h;obtain rfl:(10:Int)=vsp:=(hvsp.trans (eq_of_beq hc)).symm;refine And.intro (by decide) ?_;obtain⟨y13,hy13,h⟩:=zAc h;refine⟨_,⟨_,_,hy13,rfl,rfl⟩,?_⟩
              cases h;exact(Le.rnm [(0,0)] _ _ _ ⟨rfl,rfl,rfl,trivial⟩ ⟨rfl,⟨_,rfl,rfl⟩,trivial⟩)
             | false =>
              replace h:=zAu hc h;cases hc:(a2A == 11) with
              | true =>
               replace h:=zAv hc h;obtain rfl:(11:Int)=vsp:=(hvsp.trans (eq_of_beq hc)).symm;refine And.intro (by decide) ?_;obtain⟨y14,hy14,h⟩:=zAc h;refine⟨_,⟨_,_,hy14,rfl,rfl⟩,?_⟩
               cases h;exact(Le.rnm [(0,0)] _ _ _ ⟨rfl,rfl,rfl,trivial⟩ ⟨rfl,⟨_,rfl,rfl⟩,trivial⟩)
              | false =>
               replace h:=zAu hc h;cases hc:(a2A == 12) with
               | true =>
                replace h:=zAv hc h;obtain rfl:(12:Int)=vsp:=(hvsp.trans (eq_of_beq hc)).symm;refine And.intro (by decide) ?_;obtain⟨y15,hy15,h⟩:=zAc h;refine⟨_,⟨_,_,hy15,rfl,rfl⟩,?_⟩
                cases h;exact(Le.rnm [(0,0)] _ _ _ ⟨rfl,rfl,rfl,trivial⟩ ⟨rfl,⟨_,rfl,rfl⟩,trivial⟩)
               | false =>
                replace h:=zAu hc h;cases h
 ·refine zAh hle ?_;refine zAf rfl h (fun hb h=>?_) (fun hb h=>?_)
  ·refine yAW ?_;refine zAd ?_;obtain⟨hj1,hk1⟩:=pij h;subst hj1 hk1;unfold zBb
   exact⟨_,(Le.rnm [(0,0)] [(4,.s (.bool false))] [(0,.box 167 [.s (.str []),.s (.int .i64 0),.s (.nf),.s (.str [114,111,119]),.s (.int .i64 0),.s (.fn 138),.s (.str [115,121,109]),.s (.int .i64 0),.s (.fn 139),.s (.str [110,117,109]),.s (.int .i64 0),.s (.fn 140),.s (.str [116,101,120,116]),.s (.int .i64 0),.s (.fn 141),.s (.str [102,114,97,99]),.s (.int .i64 2),.s (.fn 138),.s (.str [114,111,111,116]),.s (.int .i64 2),.s (.fn 138),.s (.str [115,117,98]),.s (.int .i64 2),.s (.fn 138),.s (.str [115,117,112]),.s (.int .i64 2),.s (.fn 138),.s (.str [98,111,116,104]),.s (.int .i64 3),.s (.fn 138),.s (.str [97,99,99,101,110,116]),.s (.int .i64 1),.s (.fn 142),.s (.str [102,101,110,99,101]),.s (.int .i64 1),.s (.fn 143),.s (.str [109,97,116,114,105,120]),.s (.int .i64 0),.s (.fn 138),.s (.int .i64 o1G)])] 1 ⟨rfl,trivial⟩ ⟨rfl,⟨_,rfl,rfl⟩,trivial⟩),rfl,rfl,rfl,rfl,trivial⟩
  ·refine zAe ?_;refine zAa ?_;refine yAW ?_;refine zAi ?_;refine yAW ?_;refine zAf rfl h (fun hb h=>?_) (fun hb h=>?_)
   ·refine zAa ?_;obtain⟨x16,hj,h⟩:=zAc h
    refine zAl ⟨ofL [(4,.s (.bool x16))],ofH [(0,.box 167 [.s (.str []),.s (.int .i64 0),.s (.nf),.s (.str [114,111,119]),.s (.int .i64 0),.s (.fn 138),.s (.str [115,121,109]),.s (.int .i64 0),.s (.fn 139),.s (.str [110,117,109]),.s (.int .i64 0),.s (.fn 140),.s (.str [116,101,120,116]),.s (.int .i64 0),.s (.fn 141),.s (.str [102,114,97,99]),.s (.int .i64 2),.s (.fn 138),.s (.str [114,111,111,116]),.s (.int .i64 2),.s (.fn 138),.s (.str [115,117,98]),.s (.int .i64 2),.s (.fn 138),.s (.str [115,117,112]),.s (.int .i64 2),.s (.fn 138),.s (.str [98,111,116,104]),.s (.int .i64 3),.s (.fn 138),.s (.str [97,99,99,101,110,116]),.s (.int .i64 1),.s (.fn 142),.s (.str [102,101,110,99,101]),.s (.int .i64 1),.s (.fn 143),.s (.str [109,97,116,114,105,120]),.s (.int .i64 0),.s (.fn 138),.s (.int .i64 o1G)])],1⟩ ?_ (fun σ' hle=>?_)
    ·replace h:=hj;refine zAb [] [46,51] rfl ?_;intro b hb;cases b with
     | true =>
      replace h:=zAv hb.symm h;intro n17 hn17;obtain rfl:(a2E.length:Int)=n17:=(hn17.trans (congrArg (fun m:Nat=>(m:Int)) (rlen Nd.encs_eq a2E))).symm;cases h;exact(Le.rnm [(0,0)] _ _ _ ⟨rfl,trivial⟩ ⟨rfl,⟨_,rfl,rfl⟩,trivial⟩)
     | false =>
      replace h:=zAu hb.symm h;cases h;exact(Le.rnm [(0,0)] _ _ _ ⟨rfl,trivial⟩ ⟨rfl,⟨_,rfl,rfl⟩,trivial⟩)
    ·refine zAh hle ?_;refine zAd ?_;obtain⟨hj1,hk1⟩:=pij h;subst hj1 hk1;unfold zBb
     exact⟨_,(Le.rnm [(0,0)] [(4,.s (.bool x16))] [(0,.box 167 [.s (.str []),.s (.int .i64 0),.s (.nf),.s (.str [114,111,119]),.s (.int .i64 0),.s (.fn 138),.s (.str [115,121,109]),.s (.int .i64 0),.s (.fn 139),.s (.str [110,117,109]),.s (.int .i64 0),.s (.fn 140),.s (.str [116,101,120,116]),.s (.int .i64 0),.s (.fn 141),.s (.str [102,114,97,99]),.s (.int .i64 2),.s (.fn 138),.s (.str [114,111,111,116]),.s (.int .i64 2),.s (.fn 138),.s (.str [115,117,98]),.s (.int .i64 2),.s (.fn 138),.s (.str [115,117,112]),.s (.int .i64 2),.s (.fn 138),.s (.str [98,111,116,104]),.s (.int .i64 3),.s (.fn 138),.s (.str [97,99,99,101,110,116]),.s (.int .i64 1),.s (.fn 142),.s (.str [102,101,110,99,101]),.s (.int .i64 1),.s (.fn 143),.s (.str [109,97,116,114,105,120]),.s (.int .i64 0),.s (.fn 138),.s (.int .i64 o1G)])] 1 ⟨rfl,trivial⟩ ⟨rfl,⟨_,rfl,rfl⟩,trivial⟩),rfl,rfl,rfl,rfl,trivial⟩
   ·refine yAW ?_;refine zAf rfl h (fun hb h=>?_) (fun hb h=>?_)
    ·refine zAa ?_;obtain⟨x18,hj,h⟩:=zAc h
     refine zAl ⟨ofL [(4,.s (.bool x18))],ofH [(0,.box 167 [.s (.str []),.s (.int .i64 0),.s (.nf),.s (.str [114,111,119]),.s (.int .i64 0),.s (.fn 138),.s (.str [115,121,109]),.s (.int .i64 0),.s (.fn 139),.s (.str [110,117,109]),.s (.int .i64 0),.s (.fn 140),.s (.str [116,101,120,116]),.s (.int .i64 0),.s (.fn 141),.s (.str [102,114,97,99]),.s (.int .i64 2),.s (.fn 138),.s (.str [114,111,111,116]),.s (.int .i64 2),.s (.fn 138),.s (.str [115,117,98]),.s (.int .i64 2),.s (.fn 138),.s (.str [115,117,112]),.s (.int .i64 2),.s (.fn 138),.s (.str [98,111,116,104]),.s (.int .i64 3),.s (.fn 138),.s (.str [97,99,99,101,110,116]),.s (.int .i64 1),.s (.fn 142),.s (.str [102,101,110,99,101]),.s (.int .i64 1),.s (.fn 143),.s (.str [109,97,116,114,105,120]),.s (.int .i64 0),.s (.fn 138),.s (.int .i64 o1G)])],1⟩ ?_ (fun σ' hle=>?_)
     ·replace h:=hj;refine zAK [] [61,68,73,76,81,84,89] [] rfl (by decide +kernel) ?_;intro b hb;cases b with
      | true =>
       replace h:=zAv hb.symm h;intro b hb;cases b with
       | true =>
        replace h:=zAv hb.symm h;intro n19 hn19;obtain rfl:(a2E.length:Int)=n19:=(hn19.trans (congrArg (fun m:Nat=>(m:Int)) (rlen Nd.encs_eq a2E))).symm;intro b hb;cases b with
        | true =>
         replace h:=zAv hb.symm h;intro n20 hn20;obtain rfl:(a2E.length:Int)=n20:=(hn20.trans (congrArg (fun m:Nat=>(m:Int)) (rlen Nd.encs_eq a2E))).symm;intro b hb;cases b with
         | true =>
          replace h:=zAv hb.symm h;intro n21 hn21;obtain rfl:(a2E.length:Int)=n21:=(hn21.trans (congrArg (fun m:Nat=>(m:Int)) (rlen Nd.encs_eq a2E))).symm;obtain⟨hq,h⟩:=zAw h;refine And.intro hq ?_;cases h;exact(Le.rnm [(0,0)] _ _ _ ⟨rfl,trivial⟩ ⟨rfl,⟨_,rfl,rfl⟩,trivial⟩)
         | false =>
          replace h:=zAu hb.symm h;cases h;exact(Le.rnm [(0,0)] _ _ _ ⟨rfl,trivial⟩ ⟨rfl,⟨_,rfl,rfl⟩,trivial⟩)
        | false =>
         replace h:=zAu hb.symm h;intro b hb;subst hb;cases h;exact(Le.rnm [(0,0)] _ _ _ ⟨rfl,trivial⟩ ⟨rfl,⟨_,rfl,rfl⟩,trivial⟩)
       | false =>
        replace h:=zAu hb.symm h;intro b hb;subst hb;intro b hb;subst hb;cases h;exact(Le.rnm [(0,0)] _ _ _ ⟨rfl,trivial⟩ ⟨rfl,⟨_,rfl,rfl⟩,trivial⟩)
      | false =>
       replace h:=zAu hb.symm h;intro b hb;subst hb;intro b hb;subst hb;intro b hb;subst hb;cases h;exact(Le.rnm [(0,0)] _ _ _ ⟨rfl,trivial⟩ ⟨rfl,⟨_,rfl,rfl⟩,trivial⟩)
     ·refine zAh hle ?_;refine zAd ?_;obtain⟨hj1,hk1⟩:=pij h;subst hj1 hk1;unfold zBb
      exact⟨_,(Le.rnm [(0,0)] [(4,.s (.bool x18))] [(0,.box 167 [.s (.str []),.s (.int .i64 0),.s (.nf),.s (.str [114,111,119]),.s (.int .i64 0),.s (.fn 138),.s (.str [115,121,109]),.s (.int .i64 0),.s (.fn 139),.s (.str [110,117,109]),.s (.int .i64 0),.s (.fn 140),.s (.str [116,101,120,116]),.s (.int .i64 0),.s (.fn 141),.s (.str [102,114,97,99]),.s (.int .i64 2),.s (.fn 138),.s (.str [114,111,111,116]),.s (.int .i64 2),.s (.fn 138),.s (.str [115,117,98]),.s (.int .i64 2),.s (.fn 138),.s (.str [115,117,112]),.s (.int .i64 2),.s (.fn 138),.s (.str [98,111,116,104]),.s (.int .i64 3),.s (.fn 138),.s (.str [97,99,99,101,110,116]),.s (.int .i64 1),.s (.fn 142),.s (.str [102,101,110,99,101]),.s (.int .i64 1),.s (.fn 143),.s (.str [109,97,116,114,105,120]),.s (.int .i64 0),.s (.fn 138),.s (.int .i64 o1G)])] 1 ⟨rfl,trivial⟩ ⟨rfl,⟨_,rfl,rfl⟩,trivial⟩),rfl,rfl,rfl,rfl,trivial⟩
    ·refine zAe ?_;refine zAa ?_;obtain⟨x22,hj,h⟩:=zAc h
     refine zAl ⟨ofL [(4,.s (.bool x22))],ofH [(0,.box 167 [.s (.str []),.s (.int .i64 0),.s (.nf),.s (.str [114,111,119]),.s (.int .i64 0),.s (.fn 138),.s (.str [115,121,109]),.s (.int .i64 0),.s (.fn 139),.s (.str [110,117,109]),.s (.int .i64 0),.s (.fn 140),.s (.str [116,101,120,116]),.s (.int .i64 0),.s (.fn 141),.s (.str [102,114,97,99]),.s (.int .i64 2),.s (.fn 138),.s (.str [114,111,111,116]),.s (.int .i64 2),.s (.fn 138),.s (.str [115,117,98]),.s (.int .i64 2),.s (.fn 138),.s (.str [115,117,112]),.s (.int .i64 2),.s (.fn 138),.s (.str [98,111,116,104]),.s (.int .i64 3),.s (.fn 138),.s (.str [97,99,99,101,110,116]),.s (.int .i64 1),.s (.fn 142),.s (.str [102,101,110,99,101]),.s (.int .i64 1),.s (.fn 143),.s (.str [109,97,116,114,105,120]),.s (.int .i64 0),.s (.fn 138),.s (.int .i64 o1G)])],1⟩ ?_ (fun σ' hle=>?_)
     ·replace h:=hj;refine zAK [] [102,107,112] [20] rfl (by decide +kernel) ?_;intro b hb;cases b with
      | true =>
       replace h:=zAv hb.symm h;intro n23 hn23;obtain rfl:(a2E.length:Int)=n23:=(hn23.trans (congrArg (fun m:Nat=>(m:Int)) (rlen Nd.encs_eq a2E))).symm;intro vsp hvsp;cases hc:(a2A == 1) with
       | true =>
        replace h:=zAv hc h;obtain rfl:(1:Int)=vsp:=(hvsp.trans (eq_of_beq hc)).symm;refine And.intro (by decide) ?_;cases h;exact(Le.rnm [(0,0)] _ _ _ ⟨rfl,trivial⟩ ⟨rfl,⟨_,rfl,rfl⟩,trivial⟩)
       | false =>
        replace h:=zAu hc h;cases hc:(a2A == 2) with
        | true =>
         replace h:=zAv hc h;obtain rfl:(2:Int)=vsp:=(hvsp.trans (eq_of_beq hc)).symm;refine And.intro (by decide) ?_;cases h;exact(Le.rnm [(0,0)] _ _ _ ⟨rfl,trivial⟩ ⟨rfl,⟨_,rfl,rfl⟩,trivial⟩)
        | false =>
         replace h:=zAu hc h;cases hc:(a2A == 3) with
         | true =>
          replace h:=zAv hc h;obtain rfl:(3:Int)=vsp:=(hvsp.trans (eq_of_beq hc)).symm;refine And.intro (by decide) ?_;cases h;exact(Le.rnm [(0,0)] _ _ _ ⟨rfl,trivial⟩ ⟨rfl,⟨_,rfl,rfl⟩,trivial⟩)
         | false =>
          replace h:=zAu hc h;cases hc:(a2A == 4) with
          | true =>
           replace h:=zAv hc h;obtain rfl:(4:Int)=vsp:=(hvsp.trans (eq_of_beq hc)).symm;refine And.intro (by decide) ?_;cases h;exact(Le.rnm [(0,0)] _ _ _ ⟨rfl,trivial⟩ ⟨rfl,⟨_,rfl,rfl⟩,trivial⟩)
          | false =>
           replace h:=zAu hc h;cases hc:(a2A == 5) with
           | true =>
            replace h:=zAv hc h;obtain rfl:(5:Int)=vsp:=(hvsp.trans (eq_of_beq hc)).symm;refine And.intro (by decide) ?_;cases h;exact(Le.rnm [(0,0)] _ _ _ ⟨rfl,trivial⟩ ⟨rfl,⟨_,rfl,rfl⟩,trivial⟩)
           | false =>
            replace h:=zAu hc h;cases hc:(a2A == 6) with
            | true =>
             replace h:=zAv hc h;obtain rfl:(6:Int)=vsp:=(hvsp.trans (eq_of_beq hc)).symm;refine And.intro (by decide) ?_;cases h;exact(Le.rnm [(0,0)] _ _ _ ⟨rfl,trivial⟩ ⟨rfl,⟨_,rfl,rfl⟩,trivial⟩)
            | false =>
             replace h:=zAu hc h;cases hc:(a2A == 7) with
             | true =>
              replace h:=zAv hc h;obtain rfl:(7:Int)=vsp:=(hvsp.trans (eq_of_beq hc)).symm;refine And.intro (by decide) ?_;cases h;exact(Le.rnm [(0,0)] _ _ _ ⟨rfl,trivial⟩ ⟨rfl,⟨_,rfl,rfl⟩,trivial⟩)
             | false =>
              replace h:=zAu hc h;cases hc:(a2A == 8) with
              | true =>
               replace h:=zAv hc h;obtain rfl:(8:Int)=vsp:=(hvsp.trans (eq_of_beq hc)).symm;refine And.intro (by decide) ?_;cases h;exact(Le.rnm [(0,0)] _ _ _ ⟨rfl,trivial⟩ ⟨rfl,⟨_,rfl,rfl⟩,trivial⟩)
              | false =>
               replace h:=zAu hc h;cases hc:(a2A == 9) with
               | true =>
                replace h:=zAv hc h;obtain rfl:(9:Int)=vsp:=(hvsp.trans (eq_of_beq hc)).symm;refine And.intro (by decide) ?_;cases h;exact(Le.rnm [(0,0)] _ _ _ ⟨rfl,trivial⟩ ⟨rfl,⟨_,rfl,rfl⟩,trivial⟩)
               | false =>
                replace h:=zAu hc h;cases hc:(a2A == 10) with
                | true =>
                 replace h:=zAv hc h;obtain rfl:(10:Int)=vsp:=(hvsp.trans (eq_of_beq hc)).symm;refine And.intro (by decide) ?_;cases h;exact(Le.rnm [(0,0)] _ _ _ ⟨rfl,trivial⟩ ⟨rfl,⟨_,rfl,rfl⟩,trivial⟩)
                | false =>
                 replace h:=zAu hc h;cases hc:(a2A == 11) with
                 | true =>
                  replace h:=zAv hc h;obtain rfl:(11:Int)=vsp:=(hvsp.trans (eq_of_beq hc)).symm;refine And.intro (by decide) ?_;cases h;exact(Le.rnm [(0,0)] _ _ _ ⟨rfl,trivial⟩ ⟨rfl,⟨_,rfl,rfl⟩,trivial⟩)
                 | false =>
                  replace h:=zAu hc h;cases hc:(a2A == 12) with
                  | true =>
                   replace h:=zAv hc h;obtain rfl:(12:Int)=vsp:=(hvsp.trans (eq_of_beq hc)).symm;refine And.intro (by decide) ?_;cases h;exact(Le.rnm [(0,0)] _ _ _ ⟨rfl,trivial⟩ ⟨rfl,⟨_,rfl,rfl⟩,trivial⟩)
                  | false =>
                   replace h:=zAu hc h;cases h
      | false =>
       replace h:=zAu hb.symm h;cases h;exact(Le.rnm [(0,0)] _ _ _ ⟨rfl,trivial⟩ ⟨rfl,⟨_,rfl,rfl⟩,trivial⟩)
     ·refine zAh hle ?_;refine zAd ?_;obtain⟨hj1,hk1⟩:=pij h;subst hj1 hk1;unfold zBb
      exact⟨_,(Le.rnm [(0,0)] [(4,.s (.bool x22))] [(0,.box 167 [.s (.str []),.s (.int .i64 0),.s (.nf),.s (.str [114,111,119]),.s (.int .i64 0),.s (.fn 138),.s (.str [115,121,109]),.s (.int .i64 0),.s (.fn 139),.s (.str [110,117,109]),.s (.int .i64 0),.s (.fn 140),.s (.str [116,101,120,116]),.s (.int .i64 0),.s (.fn 141),.s (.str [102,114,97,99]),.s (.int .i64 2),.s (.fn 138),.s (.str [114,111,111,116]),.s (.int .i64 2),.s (.fn 138),.s (.str [115,117,98]),.s (.int .i64 2),.s (.fn 138),.s (.str [115,117,112]),.s (.int .i64 2),.s (.fn 138),.s (.str [98,111,116,104]),.s (.int .i64 3),.s (.fn 138),.s (.str [97,99,99,101,110,116]),.s (.int .i64 1),.s (.fn 142),.s (.str [102,101,110,99,101]),.s (.int .i64 1),.s (.fn 143),.s (.str [109,97,116,114,105,120]),.s (.int .i64 0),.s (.fn 138),.s (.int .i64 o1G)])] 1 ⟨rfl,trivial⟩ ⟨rfl,⟨_,rfl,rfl⟩,trivial⟩),rfl,rfl,rfl,rfl,trivial⟩
def zCK (n:Nat) (xs:List AV) (os:List Ob) (x:AV) (os':List (Option Ob)):Prop:=∃ (a0:(Unit×Int)) (a1:Nd) (a2:Int) (y0:Bool) (z0:(Unit×Int)),zBe n a0 a1 a2=some (y0,z0)/\xs=[.op 0 0,.s (.pt (Nd.enc a1)),.s (.int .i64 a2)]/\os=[.box 167 ((zAR a0).map .s)]/\x = .s (.bool y0)/\os'=[some (.box 167 ((zAR z0).map .s))]
theorem zJe (n:Nat) (ih:PSound Tryz.prog 110 (zBI (zCK n))):PSound Tryz.prog 110 (zBI (zCK (n+1))):=by
 have gok:∀ f s,look? f [(144,zHH),(110,zBI (zCK n))]=some s->PSound Tryz.prog f s:=zAm (by
  simp only[List.forall_mem_cons]
  exact⟨zLk,ih,by simp⟩)
 refine PSound.withNil (zDZ tokW Tryz.call110 Tryz.func110 rfl (fun xs os x os' h=>by obtain⟨_,_,_,_,_,_,rfl,rfl,_,rfl⟩:=h; exact⟨by show 3<=67; decide,by show 1<=1; decide⟩) 67 rfl ?_) _;rintro xs os x os' w0 G0 B0 ⟨⟨_,o1G⟩,⟨a2A,a2B,a2F,a2E⟩,a3,y0,z0,h,rfl,rfl,rfl,rfl⟩ _;rw[zBe]at h;refine yAW ?_;refine yAW ?_;refine zAa ?_;refine zAa ?_;obtain⟨⟨x4,x5⟩,hj,h⟩:=zAc h
 refine zAl ⟨ofL [(0,.op 0 0),(1,.s (.pt [.int .i64 a2A,.str a2B,.int .i64 a2F,.sl 4 (Nd.encs a2E)])),(2,.s (.int .i64 a3)),(29,.s (.bool x4))],ofH [(0,.box 167 [.s (.str []),.s (.int .i64 0),.s (.nf),.s (.str [114,111,119]),.s (.int .i64 0),.s (.fn 138),.s (.str [115,121,109]),.s (.int .i64 0),.s (.fn 139),.s (.str [110,117,109]),.s (.int .i64 0),.s (.fn 140),.s (.str [116,101,120,116]),.s (.int .i64 0),.s (.fn 141),.s (.str [102,114,97,99]),.s (.int .i64 2),.s (.fn 138),.s (.str [114,111,111,116]),.s (.int .i64 2),.s (.fn 138),.s (.str [115,117,98]),.s (.int .i64 2),.s (.fn 138),.s (.str [115,117,112]),.s (.int .i64 2),.s (.fn 138),.s (.str [98,111,116,104]),.s (.int .i64 3),.s (.fn 138),.s (.str [97,99,99,101,110,116]),.s (.int .i64 1),.s (.fn 142),.s (.str [102,101,110,99,101]),.s (.int .i64 1),.s (.fn 143),.s (.str [109,97,116,114,105,120]),.s (.int .i64 0),.s (.fn 138),.s (.int .i64 x5)])],1⟩ ?_ (fun σ' hle=>?_)
 ·replace h:=hj;refine zAb [] [20,24] rfl ?_;intro b hb;cases b with
  | true =>
   replace h:=zAv hb.symm h;intro b hb;subst hb;cases h;exact(Le.rnm [(0,0)] _ _ _ ⟨rfl,rfl,rfl,rfl,trivial⟩ ⟨rfl,⟨_,rfl,rfl⟩,trivial⟩)
  | false =>
   replace h:=zAu hb.symm h;intro b hb;cases b with
   | true =>
    replace h:=zAv hb.symm h;cases h;exact(Le.rnm [(0,0)] _ _ _ ⟨rfl,rfl,rfl,rfl,trivial⟩ ⟨rfl,⟨_,rfl,rfl⟩,trivial⟩)
   | false =>
    replace h:=zAu hb.symm h;obtain⟨⟨y6,⟨_,w7G⟩⟩,hy6,h⟩:=zAc h;refine⟨_,_,⟨_,_,_,_,_,hy6,rfl,rfl,rfl,rfl⟩,?_⟩
    cases h;exact(Le.rnm [(0,0)] _ _ _ ⟨rfl,rfl,rfl,rfl,trivial⟩ ⟨rfl,⟨_,rfl,rfl⟩,trivial⟩)
 ·refine zAh hle ?_;refine zAf rfl h (fun hb h=>?_) (fun hb h=>?_)
  ·refine yAW ?_;refine zAd ?_;obtain⟨hj1,hk1⟩:=pij h;subst hj1 hk1;unfold zBb
   exact⟨_,(Le.rnm [(0,0)] [(6,.s (.bool false))] [(0,.box 167 [.s (.str []),.s (.int .i64 0),.s (.nf),.s (.str [114,111,119]),.s (.int .i64 0),.s (.fn 138),.s (.str [115,121,109]),.s (.int .i64 0),.s (.fn 139),.s (.str [110,117,109]),.s (.int .i64 0),.s (.fn 140),.s (.str [116,101,120,116]),.s (.int .i64 0),.s (.fn 141),.s (.str [102,114,97,99]),.s (.int .i64 2),.s (.fn 138),.s (.str [114,111,111,116]),.s (.int .i64 2),.s (.fn 138),.s (.str [115,117,98]),.s (.int .i64 2),.s (.fn 138),.s (.str [115,117,112]),.s (.int .i64 2),.s (.fn 138),.s (.str [98,111,116,104]),.s (.int .i64 3),.s (.fn 138),.s (.str [97,99,99,101,110,116]),.s (.int .i64 1),.s (.fn 142),.s (.str [102,101,110,99,101]),.s (.int .i64 1),.s (.fn 143),.s (.str [109,97,116,114,105,120]),.s (.int .i64 0),.s (.fn 138),.s (.int .i64 x5)])] 1 ⟨rfl,trivial⟩ ⟨rfl,⟨_,rfl,rfl⟩,trivial⟩),rfl,rfl,rfl,rfl,trivial⟩
  ·refine zAe ?_;refine zAa ?_;refine yAh [] [34] rfl ?_;intro n8 hn8;obtain rfl:(a2E.length:Int)=n8:=(hn8.trans (congrArg (fun m:Nat=>(m:Int)) (rlen Nd.encs_eq a2E))).symm;show Tri ..;obtain⟨fl,hl,ho1⟩:=zAc h
   refine zBA (fl:=fl) (fun z=>match z with | x11=>⟨ofL [],ofH [(0,.box 167 [.s (.str []),.s (.int .i64 0),.s (.nf),.s (.str [114,111,119]),.s (.int .i64 0),.s (.fn 138),.s (.str [115,121,109]),.s (.int .i64 0),.s (.fn 139),.s (.str [110,117,109]),.s (.int .i64 0),.s (.fn 140),.s (.str [116,101,120,116]),.s (.int .i64 0),.s (.fn 141),.s (.str [102,114,97,99]),.s (.int .i64 2),.s (.fn 138),.s (.str [114,111,111,116]),.s (.int .i64 2),.s (.fn 138),.s (.str [115,117,98]),.s (.int .i64 2),.s (.fn 138),.s (.str [115,117,112]),.s (.int .i64 2),.s (.fn 138),.s (.str [98,111,116,104]),.s (.int .i64 3),.s (.fn 138),.s (.str [97,99,99,101,110,116]),.s (.int .i64 1),.s (.fn 142),.s (.str [102,101,110,99,101]),.s (.int .i64 1),.s (.fn 143),.s (.str [109,97,116,114,105,120]),.s (.int .i64 0),.s (.fn 138),.s (.int .i64 x11)])],1⟩) ?_ (fun x11 σ' hz hle=>?_)
   ·refine zAi (zAt (X:=Nat×Int×Int) (fun y=>match y with | (k,x9,x10)=>⟨ofL [(0,.op 0 0),(1,.s (.pt [.int .i64 a2A,.str a2B,.int .i64 a2F,.sl 4 (Nd.encs a2E)])),(2,.s (.int .i64 a3)),(34,.s (.int .i64 (a2E.length:Int))),(35,.s (.int .i64 x10))],ofH [(0,.box 167 [.s (.str []),.s (.int .i64 0),.s (.nf),.s (.str [114,111,119]),.s (.int .i64 0),.s (.fn 138),.s (.str [115,121,109]),.s (.int .i64 0),.s (.fn 139),.s (.str [110,117,109]),.s (.int .i64 0),.s (.fn 140),.s (.str [116,101,120,116]),.s (.int .i64 0),.s (.fn 141),.s (.str [102,114,97,99]),.s (.int .i64 2),.s (.fn 138),.s (.str [114,111,111,116]),.s (.int .i64 2),.s (.fn 138),.s (.str [115,117,98]),.s (.int .i64 2),.s (.fn 138),.s (.str [115,117,112]),.s (.int .i64 2),.s (.fn 138),.s (.str [98,111,116,104]),.s (.int .i64 3),.s (.fn 138),.s (.str [97,99,99,101,110,116]),.s (.int .i64 1),.s (.fn 142),.s (.str [102,101,110,99,101]),.s (.int .i64 1),.s (.fn 143),.s (.str [109,97,116,114,105,120]),.s (.int .i64 0),.s (.fn 138),.s (.int .i64 x9)])],1⟩) (fun y=>zA1 (zBe n) a2A a2E a3 y.1 y.2.1 y.2.2=some fl) (fun y=>y.1) (n,x5,0) hl ?_ ?_)
    ·exact(Le.rnm [(0,0)] _ _ _ ⟨rfl,rfl,rfl,rfl,rfl,trivial⟩ ⟨rfl,⟨_,rfl,rfl⟩,trivial⟩)
    ·rintro⟨k,x9,x10⟩ h;cases k with
     | zero=>cases h
     | succ k =>
      replace h:zA1 (zBe n) a2A a2E a3 (k+1) x9 x10=some fl:=h;rw[zA1]at h;refine yAW ?_;refine zAa ?_;refine zAf rfl h (fun hb h=>?_) (fun hb h=>?_)
      ·refine zAe ?_;refine zAa ?_;refine zAi ?_;refine yAW ?_;refine zAa ?_;obtain⟨⟨x12,x13⟩,hj,h⟩:=zAc h
       refine zAl ⟨ofL [(0,.op 0 0),(1,.s (.pt [.int .i64 a2A,.str a2B,.int .i64 a2F,.sl 4 (Nd.encs a2E)])),(2,.s (.int .i64 a3)),(34,.s (.int .i64 (a2E.length:Int))),(35,.s (.int .i64 x10)),(65,.s (.bool x12))],ofH [(0,.box 167 [.s (.str []),.s (.int .i64 0),.s (.nf),.s (.str [114,111,119]),.s (.int .i64 0),.s (.fn 138),.s (.str [115,121,109]),.s (.int .i64 0),.s (.fn 139),.s (.str [110,117,109]),.s (.int .i64 0),.s (.fn 140),.s (.str [116,101,120,116]),.s (.int .i64 0),.s (.fn 141),.s (.str [102,114,97,99]),.s (.int .i64 2),.s (.fn 138),.s (.str [114,111,111,116]),.s (.int .i64 2),.s (.fn 138),.s (.str [115,117,98]),.s (.int .i64 2),.s (.fn 138),.s (.str [115,117,112]),.s (.int .i64 2),.s (.fn 138),.s (.str [98,111,116,104]),.s (.int .i64 3),.s (.fn 138),.s (.str [97,99,99,101,110,116]),.s (.int .i64 1),.s (.fn 142),.s (.str [102,101,110,99,101]),.s (.int .i64 1),.s (.fn 143),.s (.str [109,97,116,114,105,120]),.s (.int .i64 0),.s (.fn 138),.s (.int .i64 x13)])],1⟩ ?_ (fun σ' hle=>?_)
       ·replace h:=hj;refine zAK [] [48,53,60] [25] rfl (by decide +kernel) ?_;obtain⟨⟨e14A,e14B,e14F,e14E⟩,he14,h⟩:=zAc h;refine And.intro (zAn Nd.encs_eq he14).1 ?_;intro r15 hr15;obtain rfl:[.int .i64 e14A,.str e14B,.int .i64 e14F,.sl 4 (Nd.encs e14E)]=r15:=(hr15.trans (zAn Nd.encs_eq he14).2.1).symm;intro b hb;cases b with
        | true =>
         replace h:=zAv hb.symm h;cases h;exact(Le.rnm [(0,0)] _ _ _ ⟨rfl,rfl,rfl,rfl,rfl,rfl,trivial⟩ ⟨rfl,⟨_,rfl,rfl⟩,trivial⟩)
        | false =>
         replace h:=zAu hb.symm h;obtain⟨⟨e16A,e16B,e16F,e16E⟩,he16,h⟩:=zAc h;refine And.intro (zAn Nd.encs_eq he16).1 ?_;intro r17 hr17;obtain rfl:[.int .i64 e16A,.str e16B,.int .i64 e16F,.sl 4 (Nd.encs e16E)]=r17:=(hr17.trans (zAn Nd.encs_eq he16).2.1).symm;obtain⟨⟨y18,⟨_,w19G⟩⟩,hy18,h⟩:=zAc h;refine⟨_,_,⟨_,_,_,_,_,hy18,rfl,rfl,rfl,rfl⟩,?_⟩
         cases h;exact(Le.rnm [(0,0)] _ _ _ ⟨rfl,rfl,rfl,rfl,rfl,rfl,trivial⟩ ⟨rfl,⟨_,rfl,rfl⟩,trivial⟩)
       ·refine zAh hle ?_;refine zAf rfl h (fun hb h=>?_) (fun hb h=>?_)
        ·refine yAW ?_;refine zAd ?_;cases h;replace h:some _=some _:=ho1;obtain⟨hj1,hk1⟩:=pij h;subst hj1 hk1;unfold zBb
         exact⟨_,(Le.rnm [(0,0)] [(6,.s (.bool false))] [(0,.box 167 [.s (.str []),.s (.int .i64 0),.s (.nf),.s (.str [114,111,119]),.s (.int .i64 0),.s (.fn 138),.s (.str [115,121,109]),.s (.int .i64 0),.s (.fn 139),.s (.str [110,117,109]),.s (.int .i64 0),.s (.fn 140),.s (.str [116,101,120,116]),.s (.int .i64 0),.s (.fn 141),.s (.str [102,114,97,99]),.s (.int .i64 2),.s (.fn 138),.s (.str [114,111,111,116]),.s (.int .i64 2),.s (.fn 138),.s (.str [115,117,98]),.s (.int .i64 2),.s (.fn 138),.s (.str [115,117,112]),.s (.int .i64 2),.s (.fn 138),.s (.str [98,111,116,104]),.s (.int .i64 3),.s (.fn 138),.s (.str [97,99,99,101,110,116]),.s (.int .i64 1),.s (.fn 142),.s (.str [102,101,110,99,101]),.s (.int .i64 1),.s (.fn 143),.s (.str [109,97,116,114,105,120]),.s (.int .i64 0),.s (.fn 138),.s (.int .i64 x13)])] 1 ⟨rfl,trivial⟩ ⟨rfl,⟨_,rfl,rfl⟩,trivial⟩),rfl,rfl,rfl,rfl,trivial⟩
        ·refine zAe ?_;refine yAV ?_;refine⟨(k,x13,IntKind.i64.wrap (x10+1)),h,(Le.rnm [(0,0)] _ _ _ ⟨rfl,rfl,rfl,rfl,rfl,trivial⟩ ⟨rfl,⟨_,rfl,rfl⟩,trivial⟩),Nat.lt_succ_self k⟩
      ·refine zAy ?_;cases h;exact⟨_,rfl,(Le.rnm [(0,0)] _ _ _ trivial ⟨rfl,⟨_,rfl,rfl⟩,trivial⟩)⟩
   ·subst hz;replace h:=ho1;refine zAh hle ?_;refine yAW ?_;refine zAd ?_;obtain⟨hj1,hk1⟩:=pij h;subst hj1 hk1;unfold zBb
    exact⟨_,(Le.rnm [(0,0)] [(6,.s (.bool true))] [(0,.box 167 [.s (.str []),.s (.int .i64 0),.s (.nf),.s (.str [114,111,119]),.s (.int .i64 0),.s (.fn 138),.s (.str [115,121,109]),.s (.int .i64 0),.s (.fn 139),.s (.str [110,117,109]),.s (.int .i64 0),.s (.fn 140),.s (.str [116,101,120,116]),.s (.int .i64 0),.s (.fn 141),.s (.str [102,114,97,99]),.s (.int .i64 2),.s (.fn 138),.s (.str [114,111,111,116]),.s (.int .i64 2),.s (.fn 138),.s (.str [115,117,98]),.s (.int .i64 2),.s (.fn 138),.s (.str [115,117,112]),.s (.int .i64 2),.s (.fn 138),.s (.str [98,111,116,104]),.s (.int .i64 3),.s (.fn 138),.s (.str [97,99,99,101,110,116]),.s (.int .i64 1),.s (.fn 142),.s (.str [102,101,110,99,101]),.s (.int .i64 1),.s (.fn 143),.s (.str [109,97,116,114,105,120]),.s (.int .i64 0),.s (.fn 138),.s (.int .i64 x11)])] 1 ⟨rfl,trivial⟩ ⟨rfl,⟨_,rfl,rfl⟩,trivial⟩),rfl,rfl,rfl,rfl,trivial⟩
theorem zJq:∀ n,PSound Tryz.prog 110 (zBI (zCK n)):=by
 intro n
 induction n with
 | zero=>exact zHp Tryz.call110 (fun xs os x os' h=>by obtain⟨_,_,_,_,_,h,_⟩:=h; cases h) _
 | succ n ih=>exact zJe n ih
def zG5:zAr:=zBI (fun xs os x os'=>∃ n,zCK n xs os x os')
theorem zKo:PSound Tryz.prog 110 zG5:=zIy zJq _
def zSG (n:Nat) (xs:List AV) (r:Ret):Prop:=∃ (a0:Nd) (y0:Bool),zBd n a0=some y0/\xs=[.agg ((Nd.enc a0).map .s)]/\r = .val (.s (.bool y0))
def zDB:zAr:=zAq fun xs r=>∃ n,zSG n xs r
theorem zDO:PSound Tryz.prog 73 zDB:=by
 have gok:∀ f s,look? f [(109,zM4),(110,zG5)]=some s->PSound Tryz.prog f s:=zAm (by
  simp only[List.forall_mem_cons]
  exact⟨zRZ,zKo,by simp⟩)
 refine zAs tokW Tryz.call73 Tryz.func73 rfl (fun xs r h=>by obtain⟨n,_,_,_,rfl,_⟩:=h; show 1<=14; decide) 14 rfl ?_;rintro xs r w0 G0 ⟨n,⟨n1A,n1B,n1F,n1E⟩,y0,h,rfl,rfl⟩ _;rw[zBd]at h;refine yAW ?_;refine yAh [6] [] rfl ?_;obtain⟨_,hy2,h⟩:=zAc h;refine⟨_,⟨_,hy2,rfl,rfl⟩,?_⟩
 refine zAa ?_;obtain⟨x3,hj,h⟩:=zAc h;refine zAl ⟨ofL [(2,.s (.bool x3))],fun _=>none,0⟩ ?_ (fun σ' hle=>?_)
 ·replace h:=hj;refine zAb [] [10] rfl ?_;intro b hb;cases b with
  | true =>
   replace h:=zAv hb.symm h;obtain⟨⟨y4,⟨_,w5G⟩⟩,hy4,h⟩:=zAc h;refine⟨_,_,⟨_,_,_,_,_,_,hy4,rfl,rfl,rfl,rfl⟩,?_⟩
   cases h;exact(Le.rnm [] _ [] 0 ⟨rfl,trivial⟩ trivial)
  | false =>
   replace h:=zAu hb.symm h;cases h;exact(Le.rnm [] _ [] 0 ⟨rfl,trivial⟩ trivial)
 ·refine zAh hle ?_;refine zAd ?_;have hy:=osi h;subst hy;exact fin0 rfl rfl
def zMr (n:Nat) (xs:List AV) (r:Ret):Prop:=∃ (a0:List Nd) (y0:Bool),zCJ n a0=some y0/\xs=[.s (.sl 4 (Nd.encs a0))]/\r = .val (.s (.bool y0))
def zFP:zAr:=zAq fun xs r=>∃ n,zMr n xs r
theorem zHN:PSound Tryz.prog 176 zFP:=by
 have gok:∀ f s,look? f [(73,zDB)]=some s->PSound Tryz.prog f s:=zAm (by
  simp only[List.forall_mem_cons]
  exact⟨zDO,by simp⟩)
 refine zAs tokW Tryz.call176 Tryz.func176 rfl (fun xs r h=>by obtain⟨n,_,_,_,rfl,_⟩:=h; show 1<=6; decide) 6 rfl ?_;rintro xs r w0 G0 ⟨n,l1,y0,h,rfl,rfl⟩ _;rw[zCJ]at h;refine yAW ?_;refine yAW ?_;obtain⟨y2,hy2,h⟩:=zAc h;refine⟨_,⟨_,_,_,hy2,rfl,rfl⟩,?_⟩
 refine zAd ?_;have hy:=osi h;subst hy;exact fin0 rfl rfl
def zSF (xs:List AV) (r:Ret):Prop:=∃ (a0:Nd) (y0:Int),zEl a0=some y0/\xs=[.agg ((Nd.enc a0).map .s)]/\r = .val (.s (.int .i64 y0))
def zHG:zAr:=zAq fun xs r=>zSF xs r
theorem zIW:PSound Tryz.prog 195 zHG:=by
 have gok:=@gok0 Tryz.prog;refine zAs tokW Tryz.call195 Tryz.func195 rfl (fun xs r h=>by obtain⟨_,_,_,rfl,_⟩:=h; show 1<=9; decide) 9 rfl ?_;rintro xs r w0 G0 ⟨⟨n1A,n1B,n1F,n1E⟩,y0,h,rfl,rfl⟩ _;rw[zEl]at h;refine yAW ?_;refine zAa ?_;refine yAW ?_;refine zAf rfl h (fun hb h=>?_) (fun hb h=>?_)
 ·refine yAW ?_;refine zAd ?_;have hy:=osi h;subst hy;exact fin0 rfl rfl
 ·refine zAe ?_;refine yAh [] [8] rfl ?_;intro n2 hn2;obtain rfl:(n1E.length:Int)=n2:=(hn2.trans (congrArg (fun m:Nat=>(m:Int)) (rlen Nd.encs_eq n1E))).symm;refine zAd ?_;have hy:=osi h;subst hy;exact fin0 rfl rfl
def zSN (xs:List AV) (r:Ret):Prop:=∃ (a0:Int) (y0:Bool),zFk a0=some y0/\xs=[.s (.int .u8 a0)]/\r = .val (.s (.bool y0))
def zJp:zAr:=zAq fun xs r=>zSN xs r
theorem zL6:PSound Tryz.prog 186 zJp:=by
 have gok:=@gok0 Tryz.prog;refine zAs tokW Tryz.call186 Tryz.func186 rfl (fun xs r h=>by obtain⟨_,_,_,rfl,_⟩:=h; show 1<=17; decide) 17 rfl ?_;rintro xs r w0 G0 ⟨c1,y0,h,rfl,rfl⟩ _;rw[zFk]at h;refine yAW ?_;refine zAa ?_;obtain⟨x2,hj,h⟩:=zAc h;refine zAl ⟨ofL [(2,.s (.bool x2))],fun _=>none,0⟩ ?_ (fun σ' hle=>?_)
 ·replace h:=hj;refine zAb [] [5,9,12] rfl ?_;intro b hb;cases b with
  | true =>
   replace h:=zAv hb.symm h;intro b hb;cases b with
   | true =>
    replace h:=zAv hb.symm h;cases h;exact(Le.forget _ ⟨rfl,trivial⟩)
   | false =>
    replace h:=zAu hb.symm h;intro b hb;cases b with
    | true =>
     replace h:=zAv hb.symm h;cases h;exact(Le.forget _ ⟨rfl,trivial⟩)
    | false =>
     replace h:=zAu hb.symm h;cases h;exact(Le.forget _ ⟨rfl,trivial⟩)
  | false =>
   replace h:=zAu hb.symm h;intro b hb;subst hb;intro b hb;cases b with
   | true =>
    replace h:=zAv hb.symm h;cases h;exact(Le.forget _ ⟨rfl,trivial⟩)
   | false =>
    replace h:=zAu hb.symm h;cases h;exact(Le.forget _ ⟨rfl,trivial⟩)
 ·refine zAh hle ?_;refine zAd ?_;have hy:=osi h;subst hy;exact fin0 rfl rfl
def zXe (n:Nat) (xs:List AV) (r:Ret):Prop:=∃ (a0:List UInt8) (a1:Int) (y0:Bool),zEo n a0 a1=some y0/\xs=[.s (.str a0),.s (.int .u8 a1)]/\r = .val (.s (.bool y0))
def zOj:zAr:=zAq fun xs r=>∃ n,zXe n xs r
theorem zQV:PSound Tryz.prog 154 zOj:=by
 have gok:=@gok0 Tryz.prog;refine zAs tokW Tryz.call154 Tryz.func154 rfl (fun xs r h=>by obtain⟨n,_,_,_,_,rfl,_⟩:=h; show 2<=17; decide) 17 rfl ?_;rintro xs r w0 G0 ⟨n,s1,c2,y0,h,rfl,rfl⟩ _;rw[zEo]at h;refine yAW ?_;refine zAa ?_;refine yAW ?_;show Tri ..;obtain⟨fl,hl,ho1⟩:=zAc h;refine zBA (fl:=fl) (fun z=>match z with | _=>⟨ofL [],fun _=>none,0⟩) ?_ (fun z σ' hz hle=>?_)
 ·refine zAi (zAt (X:=Nat×Int) (fun y=>match y with | (k,i3)=>⟨ofL [(0,.s (.str s1)),(1,.s (.int .u8 c2)),(5,.s (.int .i64 i3))],fun _=>none,0⟩) (fun y=>zDE s1 c2 y.1 y.2=some fl) (fun y=>y.1) (n,0) hl ?_ ?_)
  ·exact(Le.forget _ ⟨rfl,rfl,rfl,trivial⟩)
  ·rintro⟨k,i3⟩ h;cases k with
   | zero=>cases h
   | succ k =>
    replace h:zDE s1 c2 (k+1) i3=some fl:=h;rw[zDE]at h;refine zAa ?_;refine yAW ?_;refine zAf rfl h (fun hb h=>?_) (fun hb h=>?_)
    ·refine zAe ?_;refine zAa ?_;refine zAi ?_;refine yAh [] [14] rfl ?_;obtain⟨c4,hc4,h⟩:=zAc h;refine And.intro (zB9 hc4).1 ?_;intro v5 hv5;obtain rfl:(c4.toNat:Int)=v5:=(hv5.trans (zB9 hc4).2).symm;refine zAf rfl h (fun hb h=>?_) (fun hb h=>?_)
     ·refine yAW ?_;refine zAd ?_;cases h;replace h:some _=some _:=ho1;have hy:=osi h;subst hy;exact fin0 rfl rfl
     ·refine zAe ?_;refine yAV ?_;refine⟨(k,IntKind.i64.wrap (i3+1)),h,(Le.forget _ ⟨rfl,rfl,rfl,trivial⟩),Nat.lt_succ_self k⟩
    ·refine zAy ?_;cases h;exact⟨_,rfl,(Le.forget _ trivial)⟩
 ·subst hz;obtain _:=z;replace h:=ho1;refine zAh hle ?_;refine yAW ?_;refine zAd ?_;have hy:=osi h;subst hy;exact fin0 rfl rfl
def zN6 (n:Nat) (xs:List AV) (r:Ret):Prop:=∃ (a0:Int) (y0:Bool),zFB n a0=some y0/\xs=[.s (.int .u8 a0)]/\r = .val (.s (.bool y0))
def zJo:zAr:=zAq fun xs r=>∃ n,zN6 n xs r
theorem zNL:PSound Tryz.prog 185 zJo:=by
 have gok:∀ f s,look? f [(186,zJp),(154,zOj)]=some s->PSound Tryz.prog f s:=zAm (by
  simp only[List.forall_mem_cons]
  exact⟨zL6,zQV,by simp⟩)
 refine zAs tokW Tryz.call185 Tryz.func185 rfl (fun xs r h=>by obtain⟨n,_,_,_,rfl,_⟩:=h; show 1<=9; decide) 9 rfl ?_;rintro xs r w0 G0 ⟨n,c1,y0,h,rfl,rfl⟩ _;rw[zFB]at h;refine yAW ?_;refine zAa ?_;obtain⟨x2,hj,h⟩:=zAc h;refine zAl ⟨ofL [(2,.s (.bool x2))],fun _=>none,0⟩ ?_ (fun σ' hle=>?_)
 ·replace h:=hj;refine zAb [] [5] rfl ?_;obtain⟨y3,hy3,h⟩:=zAc h;refine⟨_,⟨_,_,hy3,rfl,rfl⟩,?_⟩
  intro b hb;cases b with
  | true =>
   replace h:=zAv hb.symm h;cases h;exact(Le.forget _ ⟨rfl,trivial⟩)
  | false =>
   replace h:=zAu hb.symm h;obtain⟨y4,hy4,h⟩:=zAc h;refine⟨_,⟨_,_,_,_,hy4,rfl,rfl⟩,?_⟩
   cases h;exact(Le.forget _ ⟨rfl,trivial⟩)
 ·refine zAh hle ?_;refine zAd ?_;have hy:=osi h;subst hy;exact fin0 rfl rfl
def zBT (p:List UInt8):List S:=[.str p]
def zPQ (xs:List AV) (r:Ret):Prop:=∃ (y0:List (List UInt8)),zF6=some y0/\xs=[]/\r = .val (.s (.sl 1 ((List.map zBT) y0)))
def zKE:zAr:=zAq fun xs r=>zPQ xs r
theorem yAH {α:Type}{a b:α} (h:a=b:=by simp[List.map_append,List.map_take,List.map_drop,irow,brow,zEa,List.map_cons,List.map_nil,zDr,Nd.encs_eq,Nd.enc,CV.encs_eq,CV.enc,zBf,zAR,zBT]):a=b :=
 h
theorem zO9:PSound Tryz.prog 187 zKE:=by
 have gok:=@gok0 Tryz.prog;refine zAs tokW Tryz.call187 Tryz.func187 rfl (fun xs r h=>by obtain⟨_,_,rfl,_⟩:=h; show 0<=2; decide) 2 rfl ?_;rintro xs r w0 G0 ⟨y0,h,rfl,rfl⟩ _;rw[zF6]at h;refine yAW ?_;refine yAh [] [1] rfl ?_;intro r1 hr1
 obtain rfl:(List.map zBT) [[102,114,97,99],[114,111,111,116],[109,97,116,114,105,120],[102,101,110,99,101]]=r1:=(hr1.trans yAH).symm;refine zAd ?_;have hy:=osi h;subst hy;exact fin0 rfl rfl
def zYv (n:Nat) (xs:List AV) (r:Ret):Prop:=∃ (a0:List (List UInt8)) (a1:List UInt8) (y0:Bool),zF5 n a0 a1=some y0/\xs=[.s (.sl 1 ((List.map zBT) a0)),.s (.str a1)]/\r = .val (.s (.bool y0))
def zRu:zAr:=zAq fun xs r=>∃ n,zYv n xs r
theorem zTR:PSound Tryz.prog 152 zRu:=by
 have gok:=@gok0 Tryz.prog;refine zAs tokW Tryz.call152 Tryz.func152 rfl (fun xs r h=>by obtain⟨n,_,_,_,_,rfl,_⟩:=h; show 2<=18; decide) 18 rfl ?_;rintro xs r w0 G0 ⟨n,l1,s2,y0,h,rfl,rfl⟩ _;rw[zF5]at h;refine yAW ?_;refine zAa ?_;refine yAW ?_;show Tri ..;obtain⟨fl,hl,ho1⟩:=zAc h;refine zBA (fl:=fl) (fun z=>match z with | _=>⟨ofL [],fun _=>none,0⟩) ?_ (fun z σ' hz hle=>?_)
 ·refine zAi (zAt (X:=Nat×Int) (fun y=>match y with | (k,i3)=>⟨ofL [(0,.s (.sl 1 ((List.map zBT) l1))),(1,.s (.str s2)),(5,.s (.int .i64 i3))],fun _=>none,0⟩) (fun y=>zEn l1 s2 y.1 y.2=some fl) (fun y=>y.1) (n,0) hl ?_ ?_)
  ·exact(Le.forget _ ⟨rfl,rfl,rfl,trivial⟩)
  ·rintro⟨k,i3⟩ h;cases k with
   | zero=>cases h
   | succ k =>
    replace h:zEn l1 s2 (k+1) i3=some fl:=h;rw[zEn]at h;refine zAa ?_;refine yAh [] [8] rfl ?_;intro n4 hn4;obtain rfl:(l1.length:Int)=n4:=(hn4.trans (congrArg (fun m:Nat=>(m:Int)) (rlen (fun _=>rfl) l1))).symm;refine zAf rfl h (fun hb h=>?_) (fun hb h=>?_)
    ·refine zAe ?_;refine zAa ?_;refine zAi ?_;refine yAh [] [14] rfl ?_;obtain⟨e5,he5,h⟩:=zAc h;refine And.intro (zAn (fun _=>rfl) he5).1 ?_;intro r6 hr6;obtain rfl:[.str e5]=r6:=(hr6.trans (zAn (fun _=>rfl) he5).2.1).symm;refine zAf rfl h (fun hb h=>?_) (fun hb h=>?_)
     ·refine yAW ?_;refine zAd ?_;cases h;replace h:some _=some _:=ho1;have hy:=osi h;subst hy;exact fin0 rfl rfl
     ·refine zAe ?_;refine yAV ?_;refine⟨(k,IntKind.i64.wrap (i3+1)),h,(Le.forget _ ⟨rfl,rfl,rfl,trivial⟩),Nat.lt_succ_self k⟩
    ·refine zAy ?_;cases h;exact⟨_,rfl,(Le.forget _ trivial)⟩
 ·subst hz;obtain _:=z;replace h:=ho1;refine zAh hle ?_;refine yAW ?_;refine zAd ?_;have hy:=osi h;subst hy;exact fin0 rfl rfl
def zRp (xs:List AV) (r:Ret):Prop:=∃ (y0:List (List UInt8)),zED=some y0/\xs=[]/\r = .val (.s (.sl 1 ((List.map zBT) y0)))
def zIF:zAr:=zAq fun xs r=>zRp xs r
theorem zKQ:PSound Tryz.prog 153 zIF:=by
 have gok:=@gok0 Tryz.prog;refine zAs tokW Tryz.call153 Tryz.func153 rfl (fun xs r h=>by obtain⟨_,_,rfl,_⟩:=h; show 0<=2; decide) 2 rfl ?_;rintro xs r w0 G0 ⟨y0,h,rfl,rfl⟩ _;rw[zED]at h;refine yAW ?_;refine yAh [] [1] rfl ?_;intro r1 hr1
 obtain rfl:(List.map zBT) [[104,97,116],[98,97,114],[118,101,99],[100,111,116],[116,105,108,100,101],[99,104,101,99,107]]=r1:=(hr1.trans yAH).symm;refine zAd ?_;have hy:=osi h;subst hy;exact fin0 rfl rfl
def zSP (n:Nat) (xs:List AV) (r:Ret):Prop:=∃ (a0:List UInt8) (y0:Bool),zGi n a0=some y0/\xs=[.s (.str a0)]/\r = .val (.s (.bool y0))
def zM9:zAr:=zAq fun xs r=>∃ n,zSP n xs r
theorem zR4:PSound Tryz.prog 150 zM9:=by
 have gok:∀ f s,look? f [(185,zJo),(186,zJp),(187,zKE),(152,zRu),(153,zIF)]=some s->PSound Tryz.prog f s:=zAm (by
  simp only[List.forall_mem_cons]
  exact⟨zNL,zL6,zO9,zTR,zKQ,by simp⟩)
 refine zAs tokW Tryz.call150 Tryz.func150 rfl (fun xs r h=>by obtain⟨n,_,_,_,rfl,_⟩:=h; show 1<=41; decide) 41 rfl ?_;rintro xs r w0 G0 ⟨n,s1,y0,h,rfl,rfl⟩ _;rw[zGi]at h;refine yAW ?_;refine zAa ?_;refine yAW ?_;refine zAf rfl h (fun hb h=>?_) (fun hb h=>?_)
 ·refine yAh [] [8] rfl ?_;obtain⟨c2,hc2,h⟩:=zAc h;refine And.intro (zB9 hc2).1 ?_;intro v3 hv3;obtain rfl:(c2.toNat:Int)=v3:=(hv3.trans (zB9 hc2).2).symm;obtain⟨y4,hy4,h⟩:=zAc h;refine⟨_,⟨_,_,_,hy4,rfl,rfl⟩,?_⟩
  refine zAd ?_;have hy:=osi h;subst hy;exact fin0 rfl rfl
 ·refine zAe ?_;refine zAa ?_;refine yAW ?_;show Tri ..;obtain⟨fl,hl,ho1⟩:=zAc h;refine zBA (fl:=fl) (fun z=>match z with | _=>⟨ofL [(0,.s (.str s1))],fun _=>none,0⟩) ?_ (fun z σ' hz hle=>?_)
  ·refine zAi (zAt (X:=Nat×Int) (fun y=>match y with | (k,i5)=>⟨ofL [(0,.s (.str s1)),(3,.s (.int .i64 i5))],fun _=>none,0⟩) (fun y=>zBP s1 y.1 y.2=some fl) (fun y=>y.1) (n,0) hl ?_ ?_)
   ·exact(Le.forget _ ⟨rfl,rfl,trivial⟩)
   ·rintro⟨k,i5⟩ h;cases k with
    | zero=>cases h
    | succ k =>
     replace h:zBP s1 (k+1) i5=some fl:=h;rw[zBP]at h;refine zAa ?_;refine yAW ?_;refine zAf rfl h (fun hb h=>?_) (fun hb h=>?_)
     ·refine zAe ?_;refine zAa ?_;refine zAi ?_;refine yAh [] [18] rfl ?_;obtain⟨c6,hc6,h⟩:=zAc h;refine And.intro (zB9 hc6).1 ?_;intro v7 hv7;obtain rfl:(c6.toNat:Int)=v7:=(hv7.trans (zB9 hc6).2).symm;obtain⟨y8,hy8,h⟩:=zAc h;refine⟨_,⟨_,_,hy8,rfl,rfl⟩,?_⟩
      refine zAf rfl h (fun hb h=>?_) (fun hb h=>?_)
      ·refine yAW ?_;refine zAd ?_;cases h;replace h:some _=some _:=ho1;have hy:=osi h;subst hy;exact fin0 rfl rfl
      ·refine zAe ?_;refine yAV ?_;refine⟨(k,IntKind.i64.wrap (i5+1)),h,(Le.forget _ ⟨rfl,rfl,trivial⟩),Nat.lt_succ_self k⟩
     ·refine zAy ?_;cases h;exact⟨_,rfl,(Le.forget _ ⟨rfl,trivial⟩)⟩
  ·subst hz;obtain _:=z;replace h:=ho1;refine zAh hle ?_;refine zAa ?_;obtain⟨x9,hj,h⟩:=zAc h;refine zAl ⟨ofL [(2,.s (.bool x9))],fun _=>none,0⟩ ?_ (fun σ' hle=>?_)
   ·replace h:=hj;refine zAb [] [24,29,35] rfl ?_;intro b hb;cases b with
    | true =>
     replace h:=zAv hb.symm h;intro b hb;cases b with
     | true =>
      replace h:=zAv hb.symm h;obtain⟨y10,hy10,h⟩:=zAc h;refine⟨_,⟨_,hy10,rfl,rfl⟩,?_⟩
      obtain⟨y11,hy11,h⟩:=zAc h;refine⟨_,⟨_,_,_,_,hy11,rfl,rfl⟩,?_⟩
      intro b hb;cases b with
      | true =>
       replace h:=zAv hb.symm h;obtain⟨y12,hy12,h⟩:=zAc h;refine⟨_,⟨_,hy12,rfl,rfl⟩,?_⟩
       obtain⟨y13,hy13,h⟩:=zAc h;refine⟨_,⟨_,_,_,_,hy13,rfl,rfl⟩,?_⟩
       cases h;exact(Le.forget _ ⟨rfl,trivial⟩)
      | false =>
       replace h:=zAu hb.symm h;cases h;exact(Le.forget _ ⟨rfl,trivial⟩)
     | false =>
      replace h:=zAu hb.symm h;intro b hb;subst hb;cases h;exact(Le.forget _ ⟨rfl,trivial⟩)
    | false =>
     replace h:=zAu hb.symm h;intro b hb;subst hb;intro b hb;subst hb;cases h;exact(Le.forget _ ⟨rfl,trivial⟩)
   ·refine zAh hle ?_;refine zAd ?_;have hy:=osi h;subst hy;exact fin0 rfl rfl
def zUE (xs:List AV) (r:Ret):Prop:=∃ (a0:Int) (y0:Bool),zHm a0=some y0/\xs=[.s (.int .u8 a0)]/\r = .val (.s (.bool y0))
def zOi:zAr:=zAq fun xs r=>zUE xs r
theorem zTQ:PSound Tryz.prog 188 zOi:=by
 have gok:=@gok0 Tryz.prog;refine zAs tokW Tryz.call188 Tryz.func188 rfl (fun xs r h=>by obtain⟨_,_,_,rfl,_⟩:=h; show 1<=9; decide) 9 rfl ?_;rintro xs r w0 G0 ⟨c1,y0,h,rfl,rfl⟩ _;rw[zHm]at h;refine yAW ?_;refine zAa ?_;obtain⟨x2,hj,h⟩:=zAc h;refine zAl ⟨ofL [(2,.s (.bool x2))],fun _=>none,0⟩ ?_ (fun σ' hle=>?_)
 ·replace h:=hj;refine zAb [] [5] rfl ?_;intro b hb;cases b with
  | true =>
   replace h:=zAv hb.symm h;cases h;exact(Le.forget _ ⟨rfl,trivial⟩)
  | false =>
   replace h:=zAu hb.symm h;cases h;exact(Le.forget _ ⟨rfl,trivial⟩)
 ·refine zAh hle ?_;refine zAd ?_;have hy:=osi h;subst hy;exact fin0 rfl rfl
def zSO (n:Nat) (xs:List AV) (r:Ret):Prop:=∃ (a0:List UInt8) (y0:Bool),zGh n a0=some y0/\xs=[.s (.str a0)]/\r = .val (.s (.bool y0))
def zM8:zAr:=zAq fun xs r=>∃ n,zSO n xs r
theorem zR3:PSound Tryz.prog 151 zM8:=by
 have gok:∀ f s,look? f [(188,zOi)]=some s->PSound Tryz.prog f s:=zAm (by
  simp only[List.forall_mem_cons]
  exact⟨zTQ,by simp⟩)
 refine zAs tokW Tryz.call151 Tryz.func151 rfl (fun xs r h=>by obtain⟨n,_,_,_,rfl,_⟩:=h; show 1<=45; decide) 45 rfl ?_;rintro xs r w0 G0 ⟨n,s1,y0,h,rfl,rfl⟩ _;rw[zGh]at h;refine yAW ?_;refine yAW ?_;refine zAa ?_;refine yAW ?_;show Tri ..;obtain⟨fl,hl,ho1⟩:=zAc h;refine zBA (fl:=fl) (fun z=>match z with | points4=>⟨ofL [(0,.s (.str s1)),(3,.s (.int .i64 points4))],fun _=>none,0⟩) ?_ (fun points4 σ' hz hle=>?_)
 ·refine zAi (zAt (X:=Nat×Int×Int) (fun y=>match y with | (k,points2,i3)=>⟨ofL [(0,.s (.str s1)),(3,.s (.int .i64 points2)),(4,.s (.int .i64 i3))],fun _=>none,0⟩) (fun y=>zCQ s1 y.1 y.2.1 y.2.2=some fl) (fun y=>y.1) (n,0,0) hl ?_ ?_)
  ·exact(Le.forget _ ⟨rfl,rfl,rfl,trivial⟩)
  ·rintro⟨k,points2,i3⟩ h;cases k with
   | zero=>cases h
   | succ k =>
    replace h:zCQ s1 (k+1) points2 i3=some fl:=h;rw[zCQ]at h;refine zAa ?_;refine yAW ?_;refine zAf rfl h (fun hb h=>?_) (fun hb h=>?_)
    ·refine zAe ?_;refine zAa ?_;obtain⟨fl,hj,ho2⟩:=zAc h;refine zBA (fl:=fl) (fun z=>match z with | points5=>⟨ofL [(0,.s (.str s1)),(3,.s (.int .i64 points5)),(4,.s (.int .i64 i3))],fun _=>none,0⟩) ?_ (fun points5 σ' hz hle=>?_)
     ·replace h:=hj;refine zAi ?_;refine zAa ?_;obtain⟨x6,hj,h⟩:=zAc h;refine zAl ⟨ofL [(0,.s (.str s1)),(3,.s (.int .i64 points2)),(4,.s (.int .i64 i3)),(25,.s (.bool x6))],fun _=>none,0⟩ ?_ (fun σ' hle=>?_)
      ·replace h:=hj;refine zAb [] [13,15,19] rfl ?_;obtain⟨c7,hc7,h⟩:=zAc h;refine And.intro (zB9 hc7).1 ?_;intro v8 hv8;obtain rfl:(c7.toNat:Int)=v8:=(hv8.trans (zB9 hc7).2).symm;intro b hb;cases b with
       | true =>
        replace h:=zAv hb.symm h;intro b hb;cases b with
        | true =>
         replace h:=zAv hb.symm h;cases h;exact(Le.forget _ ⟨rfl,rfl,rfl,rfl,trivial⟩)
        | false =>
         replace h:=zAu hb.symm h;cases h;exact(Le.forget _ ⟨rfl,rfl,rfl,rfl,trivial⟩)
       | false =>
        replace h:=zAu hb.symm h;intro b hb;subst hb;cases h;exact(Le.forget _ ⟨rfl,rfl,rfl,rfl,trivial⟩)
      ·refine zAh hle ?_;refine zAf rfl h (fun hb h=>?_) (fun hb h=>?_)
       ·refine yAV ?_;cases h;exact⟨_,rfl,(Le.forget _ ⟨rfl,rfl,rfl,trivial⟩)⟩
       ·refine yAh [] [30] rfl ?_;obtain⟨c9,hc9,h⟩:=zAc h;refine And.intro (zB9 hc9).1 ?_;intro v10 hv10;obtain rfl:(c9.toNat:Int)=v10:=(hv10.trans (zB9 hc9).2).symm;obtain⟨y11,hy11,h⟩:=zAc h;refine⟨_,⟨_,_,hy11,rfl,rfl⟩,?_⟩
        refine zAf rfl h (fun hb h=>?_) (fun hb h=>?_)
        ·refine yAW ?_;refine zAd ?_;cases h;replace h:some _=some _:=ho2;cases h;replace h:some _=some _:=ho1;have hy:=osi h;subst hy;exact fin0 rfl rfl
        ·refine zAe ?_;cases h;exact⟨_,rfl,(Le.forget _ ⟨rfl,rfl,rfl,trivial⟩)⟩
     ·subst hz;replace h:=ho2;refine zAh hle ?_;refine yAV ?_;refine⟨(k,points5,IntKind.i64.wrap (i3+1)),h,(Le.forget _ ⟨rfl,rfl,rfl,trivial⟩),Nat.lt_succ_self k⟩
    ·refine zAy ?_;cases h;exact⟨_,rfl,(Le.forget _ ⟨rfl,rfl,trivial⟩)⟩
 ·subst hz;replace h:=ho1;refine zAh hle ?_;refine zAa ?_;obtain⟨x12,hj,h⟩:=zAc h;refine zAl ⟨ofL [(2,.s (.bool x12))],fun _=>none,0⟩ ?_ (fun σ' hle=>?_)
  ·replace h:=hj;refine zAb [] [36,41] rfl ?_;intro b hb;cases b with
   | true =>
    replace h:=zAv hb.symm h;intro b hb;cases b with
    | true =>
     replace h:=zAv hb.symm h;cases h;exact(Le.forget _ ⟨rfl,trivial⟩)
    | false =>
     replace h:=zAu hb.symm h;cases h;exact(Le.forget _ ⟨rfl,trivial⟩)
   | false =>
    replace h:=zAu hb.symm h;intro b hb;subst hb;cases h;exact(Le.forget _ ⟨rfl,trivial⟩)
  ·refine zAh hle ?_;refine zAd ?_;have hy:=osi h;subst hy;exact fin0 rfl rfl
def zN7 (n:Nat) (xs:List AV) (r:Ret):Prop:=∃ (a0:List UInt8) (y0:Bool),zDy n a0=some y0/\xs=[.s (.str a0)]/\r = .val (.s (.bool y0))
def zG6:zAr:=zAq fun xs r=>∃ n,zN7 n xs r
theorem zI7:PSound Tryz.prog 34 zG6:=by
 have gok:=@gok0 Tryz.prog;refine zAs tokW Tryz.call34 Tryz.func34 rfl (fun xs r h=>by obtain⟨n,_,_,_,rfl,_⟩:=h; show 1<=20; decide) 20 rfl ?_;rintro xs r w0 G0 ⟨n,s1,y0,h,rfl,rfl⟩ _;rw[zDy]at h;refine yAW ?_;refine zAa ?_;refine yAW ?_;show Tri ..;obtain⟨fl,hl,ho1⟩:=zAc h;refine zBA (fl:=fl) (fun z=>match z with | _=>⟨ofL [],fun _=>none,0⟩) ?_ (fun z σ' hz hle=>?_)
 ·refine zAi (zAt (X:=Nat×Int) (fun y=>match y with | (k,i2)=>⟨ofL [(0,.s (.str s1)),(3,.s (.int .i64 i2))],fun _=>none,0⟩) (fun y=>zBy s1 y.1 y.2=some fl) (fun y=>y.1) (n,0) hl ?_ ?_)
  ·exact(Le.forget _ ⟨rfl,rfl,trivial⟩)
  ·rintro⟨k,i2⟩ h;cases k with
   | zero=>cases h
   | succ k =>
    replace h:zBy s1 (k+1) i2=some fl:=h;rw[zBy]at h;refine zAa ?_;refine yAW ?_;refine zAf rfl h (fun hb h=>?_) (fun hb h=>?_)
    ·refine zAe ?_;refine zAa ?_;refine zAi ?_;refine zAa ?_;obtain⟨x3,hj,h⟩:=zAc h;refine zAl ⟨ofL [(0,.s (.str s1)),(3,.s (.int .i64 i2)),(19,.s (.bool x3))],fun _=>none,0⟩ ?_ (fun σ' hle=>?_)
     ·replace h:=hj;refine zAb [] [12,14,17] rfl ?_;obtain⟨c4,hc4,h⟩:=zAc h;refine And.intro (zB9 hc4).1 ?_;intro v5 hv5;obtain rfl:(c4.toNat:Int)=v5:=(hv5.trans (zB9 hc4).2).symm;intro b hb;cases b with
      | true =>
       replace h:=zAv hb.symm h;cases h;exact(Le.forget _ ⟨rfl,rfl,rfl,trivial⟩)
      | false =>
       replace h:=zAu hb.symm h;obtain⟨c6,hc6,h⟩:=zAc h;refine And.intro (zB9 hc6).1 ?_;intro v7 hv7;obtain rfl:(c6.toNat:Int)=v7:=(hv7.trans (zB9 hc6).2).symm;cases h;exact(Le.forget _ ⟨rfl,rfl,rfl,trivial⟩)
     ·refine zAh hle ?_;refine zAf rfl h (fun hb h=>?_) (fun hb h=>?_)
      ·refine yAW ?_;refine zAd ?_;cases h;replace h:some _=some _:=ho1;have hy:=osi h;subst hy;exact fin0 rfl rfl
      ·refine zAe ?_;refine yAV ?_;refine⟨(k,IntKind.i64.wrap (i2+1)),h,(Le.forget _ ⟨rfl,rfl,trivial⟩),Nat.lt_succ_self k⟩
    ·refine zAy ?_;cases h;exact⟨_,rfl,(Le.forget _ trivial)⟩
 ·subst hz;obtain _:=z;replace h:=ho1;refine zAh hle ?_;refine yAW ?_;refine zAd ?_;have hy:=osi h;subst hy;exact fin0 rfl rfl
def zWm (n:Nat) (xs:List AV) (r:Ret):Prop:=∃ (a0:Nd) (y0:Bool),zIt n a0=some y0/\xs=[.agg ((Nd.enc a0).map .s)]/\r = .val (.s (.bool y0))
def zQt:zAr:=zAq fun xs r=>∃ n,zWm n xs r
theorem zU9:PSound Tryz.prog 113 zQt:=by
 have gok:∀ f s,look? f [(150,zM9),(151,zM8),(34,zG6),(153,zIF),(152,zRu),(154,zOj)]=some s->PSound Tryz.prog f s:=zAm (by
  simp only[List.forall_mem_cons]
  exact⟨zR4,zR3,zI7,zKQ,zTR,zQV,by simp⟩)
 refine zAs tokW Tryz.call113 Tryz.func113 rfl (fun xs r h=>by obtain⟨n,_,_,_,rfl,_⟩:=h; show 1<=53; decide) 53 rfl ?_;rintro xs r w0 G0 ⟨n,⟨n1A,n1B,n1F,n1E⟩,y0,h,rfl,rfl⟩ _;rw[zIt]at h;refine yAW ?_;refine zAa ?_;refine yAW ?_;refine zAi ?_;refine yAW ?_;refine zAf rfl h (fun hb h=>?_) (fun hb h=>?_)
 ·refine yAW ?_;obtain⟨y2,hy2,h⟩:=zAc h;refine⟨_,⟨_,_,_,hy2,rfl,rfl⟩,?_⟩
  refine zAd ?_;have hy:=osi h;subst hy;exact fin0 rfl rfl
 ·refine yAW ?_;refine zAf rfl h (fun hb h=>?_) (fun hb h=>?_)
  ·refine yAW ?_;obtain⟨y3,hy3,h⟩:=zAc h;refine⟨_,⟨_,_,_,hy3,rfl,rfl⟩,?_⟩
   refine zAd ?_;have hy:=osi h;subst hy;exact fin0 rfl rfl
  ·refine yAW ?_;refine zAf rfl h (fun hb h=>?_) (fun hb h=>?_)
   ·refine zAa ?_;obtain⟨x4,hj,h⟩:=zAc h;refine zAl ⟨ofL [(2,.s (.bool x4))],fun _=>none,0⟩ ?_ (fun σ' hle=>?_)
    ·replace h:=hj;refine zAb [] [21] rfl ?_;intro b hb;cases b with
     | true =>
      replace h:=zAv hb.symm h;obtain⟨y5,hy5,h⟩:=zAc h;refine⟨_,⟨_,_,_,hy5,rfl,rfl⟩,?_⟩
      cases h;exact(Le.forget _ ⟨rfl,trivial⟩)
     | false =>
      replace h:=zAu hb.symm h;cases h;exact(Le.forget _ ⟨rfl,trivial⟩)
    ·refine zAh hle ?_;refine zAd ?_;have hy:=osi h;subst hy;exact fin0 rfl rfl
   ·refine yAW ?_;refine zAf rfl h (fun hb h=>?_) (fun hb h=>?_)
    ·refine zAa ?_;refine zAK [] [] [] rfl (by decide +kernel) ?_;obtain⟨y6,hy6,h⟩:=zAc h;refine⟨_,⟨_,hy6,rfl,rfl⟩,?_⟩
     obtain⟨y7,hy7,h⟩:=zAc h;refine⟨_,⟨_,_,_,_,hy7,rfl,rfl⟩,?_⟩
     refine zAd ?_;have hy:=osi h;subst hy;exact fin0 rfl rfl
    ·refine yAW ?_;refine zAf rfl h (fun hb h=>?_) (fun hb h=>?_)
     ·refine zAa ?_;obtain⟨x8,hj,h⟩:=zAc h;refine zAl ⟨ofL [(2,.s (.bool x8))],fun _=>none,0⟩ ?_ (fun σ' hle=>?_)
      ·replace h:=hj;refine zAb [] [38,41,44,47] rfl ?_;intro b hb;cases b with
       | true =>
        replace h:=zAv hb.symm h;obtain⟨c9,hc9,h⟩:=zAc h;refine And.intro (zB9 hc9).1 ?_;intro v10 hv10;obtain rfl:(c9.toNat:Int)=v10:=(hv10.trans (zB9 hc9).2).symm;obtain⟨y11,hy11,h⟩:=zAc h;refine⟨_,⟨_,_,_,_,hy11,rfl,rfl⟩,?_⟩
        intro b hb;cases b with
        | true =>
         replace h:=zAv hb.symm h;obtain⟨c12,hc12,h⟩:=zAc h;refine And.intro (zB9 hc12).1 ?_;intro v13 hv13;obtain rfl:(c12.toNat:Int)=v13:=(hv13.trans (zB9 hc12).2).symm;obtain⟨y14,hy14,h⟩:=zAc h;refine⟨_,⟨_,_,_,_,hy14,rfl,rfl⟩,?_⟩
         cases h;exact(Le.forget _ ⟨rfl,trivial⟩)
        | false =>
         replace h:=zAu hb.symm h;cases h;exact(Le.forget _ ⟨rfl,trivial⟩)
       | false =>
        replace h:=zAu hb.symm h;intro b hb;subst hb;cases h;exact(Le.forget _ ⟨rfl,trivial⟩)
      ·refine zAh hle ?_;refine zAd ?_;have hy:=osi h;subst hy;exact fin0 rfl rfl
     ·refine zAe ?_;refine yAW ?_;refine zAd ?_;have hy:=osi h;subst hy;exact fin0 rfl rfl
def zWl (xs:List AV) (r:Ret):Prop:=∃ (a0:Nd) (y0:Bool),zIs a0=some y0/\xs=[.agg ((Nd.enc a0).map .s)]/\r = .val (.s (.bool y0))
def zQs:zAr:=zAq fun xs r=>zWl xs r
theorem zU8:PSound Tryz.prog 114 zQs:=by
 have gok:=@gok0 Tryz.prog;refine zAs tokW Tryz.call114 Tryz.func114 rfl (fun xs r h=>by obtain⟨_,_,_,rfl,_⟩:=h; show 1<=64; decide) 64 rfl ?_;rintro xs r w0 G0 ⟨⟨n1A,n1B,n1F,n1E⟩,y0,h,rfl,rfl⟩ _;rw[zIs]at h;refine yAW ?_;refine yAh [] [6] rfl ?_;intro n2 hn2;obtain rfl:(n1E.length:Int)=n2:=(hn2.trans (congrArg (fun m:Nat=>(m:Int)) (rlen Nd.encs_eq n1E))).symm;refine zAa ?_;refine yAW ?_;refine zAf rfl h (fun hb h=>?_) (fun hb h=>?_)
 ·refine zAa ?_;obtain⟨x3,hj,h⟩:=zAc h;refine zAl ⟨ofL [(2,.s (.bool x3))],fun _=>none,0⟩ ?_ (fun σ' hle=>?_)
  ·replace h:=hj;refine zAb [] [13,18,22,26] rfl ?_;intro b hb;cases b with
   | true =>
    replace h:=zAv hb.symm h;intro b hb;cases b with
    | true =>
     replace h:=zAv hb.symm h;intro b hb;cases b with
     | true =>
      replace h:=zAv hb.symm h;intro b hb;cases b with
      | true =>
       replace h:=zAv hb.symm h;obtain⟨hq,h⟩:=zAw h;refine And.intro hq ?_;cases h;exact(Le.forget _ ⟨rfl,trivial⟩)
      | false =>
       replace h:=zAu hb.symm h;cases h;exact(Le.forget _ ⟨rfl,trivial⟩)
     | false =>
      replace h:=zAu hb.symm h;intro b hb;subst hb;cases h;exact(Le.forget _ ⟨rfl,trivial⟩)
    | false =>
     replace h:=zAu hb.symm h;intro b hb;subst hb;intro b hb;subst hb;cases h;exact(Le.forget _ ⟨rfl,trivial⟩)
   | false =>
    replace h:=zAu hb.symm h;intro b hb;subst hb;intro b hb;subst hb;intro b hb;subst hb;cases h;exact(Le.forget _ ⟨rfl,trivial⟩)
  ·refine zAh hle ?_;refine zAd ?_;have hy:=osi h;subst hy;exact fin0 rfl rfl
 ·refine zAe ?_;refine zAa ?_;refine yAW ?_;refine zAf rfl h (fun hb h=>?_) (fun hb h=>?_)
  ·refine yAW ?_;refine zAd ?_;have hy:=osi h;subst hy;exact fin0 rfl rfl
  ·refine zAe ?_;refine zAa ?_;refine yAW ?_;show Tri ..;obtain⟨fl,hj,ho1⟩:=zAc h;refine zBA (fl:=fl) (fun z=>match z with | _=>⟨ofL [],fun _=>none,0⟩) ?_ (fun z σ' hz hle=>?_)
   ·replace h:=hj;refine zAi ?_;refine yAW ?_;refine zAf rfl h (fun hb h=>?_) (fun hb h=>?_)
    ·refine yAW ?_;refine zAd ?_;cases h;replace h:some _=some _:=ho1;have hy:=osi h;subst hy;exact fin0 rfl rfl
    ·refine zAa ?_;refine yAW ?_;show Tri ..;obtain⟨x4,hj,h⟩:=zAc h;refine zAl ⟨ofL [(3,.s (.int .i64 (n1E.length:Int))),(37,.s (.int .i64 n1A)),(42,.s (.bool x4))],fun _=>none,0⟩ ?_ (fun σ' hle=>?_)
     ·replace h:=hj;refine zAf rfl h (fun hb h=>?_) (fun hb h=>?_)
      ·refine zAe ?_;cases h;exact(Le.forget _ ⟨rfl,rfl,rfl,trivial⟩)
      ·refine yAW ?_;refine zAf rfl h (fun hb h=>?_) (fun hb h=>?_)
       ·refine zAe ?_;cases h;exact(Le.forget _ ⟨rfl,rfl,rfl,trivial⟩)
       ·refine yAV ?_;cases h;exact(Le.forget _ ⟨rfl,rfl,rfl,trivial⟩)
     ·refine zAh hle ?_;refine zAf rfl h (fun hb h=>?_) (fun hb h=>?_)
      ·refine yAW ?_;refine zAd ?_;cases h;replace h:some _=some _:=ho1;have hy:=osi h;subst hy;exact fin0 rfl rfl
      ·refine zAa ?_;refine yAW ?_;show Tri ..;obtain⟨x5,hj,h⟩:=zAc h;refine zAl ⟨ofL [(3,.s (.int .i64 (n1E.length:Int))),(37,.s (.int .i64 n1A)),(48,.s (.bool x5))],fun _=>none,0⟩ ?_ (fun σ' hle=>?_)
       ·replace h:=hj;refine zAf rfl h (fun hb h=>?_) (fun hb h=>?_)
        ·refine zAe ?_;cases h;exact(Le.forget _ ⟨rfl,rfl,rfl,trivial⟩)
        ·refine yAW ?_;refine zAf rfl h (fun hb h=>?_) (fun hb h=>?_)
         ·refine zAe ?_;cases h;exact(Le.forget _ ⟨rfl,rfl,rfl,trivial⟩)
         ·refine yAW ?_;refine zAf rfl h (fun hb h=>?_) (fun hb h=>?_)
          ·refine zAe ?_;cases h;exact(Le.forget _ ⟨rfl,rfl,rfl,trivial⟩)
          ·refine yAV ?_;cases h;exact(Le.forget _ ⟨rfl,rfl,rfl,trivial⟩)
       ·refine zAh hle ?_;refine zAf rfl h (fun hb h=>?_) (fun hb h=>?_)
        ·refine yAW ?_;refine zAd ?_;cases h;replace h:some _=some _:=ho1;have hy:=osi h;subst hy;exact fin0 rfl rfl
        ·refine yAW ?_;refine zAf rfl h (fun hb h=>?_) (fun hb h=>?_)
         ·refine yAW ?_;refine zAd ?_;cases h;replace h:some _=some _:=ho1;have hy:=osi h;subst hy;exact fin0 rfl rfl
         ·refine zAa ?_;refine yAW ?_;show Tri ..;obtain⟨x6,hj,h⟩:=zAc h;refine zAl ⟨ofL [(3,.s (.int .i64 (n1E.length:Int))),(59,.s (.bool x6))],fun _=>none,0⟩ ?_ (fun σ' hle=>?_)
          ·replace h:=hj;refine zAf rfl h (fun hb h=>?_) (fun hb h=>?_)
           ·refine zAe ?_;cases h;exact(Le.forget _ ⟨rfl,rfl,trivial⟩)
           ·refine yAV ?_;cases h;exact(Le.forget _ ⟨rfl,rfl,trivial⟩)
          ·refine zAh hle ?_;refine zAf rfl h (fun hb h=>?_) (fun hb h=>?_)
           ·refine yAW ?_;refine zAd ?_;cases h;replace h:some _=some _:=ho1;have hy:=osi h;subst hy;exact fin0 rfl rfl
           ·refine zAe ?_;cases h;exact⟨_,rfl,(Le.forget _ trivial)⟩
   ·subst hz;obtain _:=z;replace h:=ho1;refine zAh hle ?_;refine yAW ?_;refine zAd ?_;have hy:=osi h;subst hy;exact fin0 rfl rfl
def zIa (n:Nat) (xs:List AV) (r:Ret):Prop:=∃ (a0:Nd) (y0:Bool),zEE n a0=some y0/\xs=[.agg ((Nd.enc a0).map .s)]/\r = .val (.s (.bool y0))
theorem zSu (n:Nat) (ih:PSound Tryz.prog 76 (zAq (zIa n))):PSound Tryz.prog 76 (zAq (zIa (n+1))):=by
 have gok:∀ f s,look? f [(113,zQt),(114,zQs),(76,zAq (zIa n))]=some s->PSound Tryz.prog f s:=zAm (by
  simp only[List.forall_mem_cons]
  exact⟨zU9,zU8,ih,by simp⟩)
 refine zAs tokW Tryz.call76 Tryz.func76 rfl (fun xs r h=>by obtain⟨_,_,_,rfl,_⟩:=h; show 1<=39; decide) 39 rfl ?_;rintro xs r w0 G0 ⟨⟨n1A,n1B,n1F,n1E⟩,y0,h,rfl,rfl⟩ _;rw[zEE]at h;refine yAW ?_;refine zAa ?_;refine zAa ?_;obtain⟨x2,hj,h⟩:=zAc h;refine zAl ⟨ofL [(1,.s (.pt [.int .i64 n1A,.str n1B,.int .i64 n1F,.sl 4 (Nd.encs n1E)])),(11,.s (.bool x2))],fun _=>none,0⟩ ?_ (fun σ' hle=>?_)
 ·replace h:=hj;refine zAb [] [7] rfl ?_;obtain⟨y3,hy3,h⟩:=zAc h;refine⟨_,⟨_,_,_,hy3,rfl,rfl⟩,?_⟩
  intro b hb;cases b with
  | true =>
   replace h:=zAv hb.symm h;cases h;exact(Le.forget _ ⟨rfl,rfl,trivial⟩)
  | false =>
   replace h:=zAu hb.symm h;obtain⟨y4,hy4,h⟩:=zAc h;refine⟨_,⟨_,_,hy4,rfl,rfl⟩,?_⟩
   cases h;exact(Le.forget _ ⟨rfl,rfl,trivial⟩)
 ·refine zAh hle ?_;refine zAf rfl h (fun hb h=>?_) (fun hb h=>?_)
  ·refine yAW ?_;refine zAd ?_;have hy:=osi h;subst hy;exact fin0 rfl rfl
  ·refine zAe ?_;refine zAa ?_;refine yAW ?_;show Tri ..;obtain⟨fl,hl,ho1⟩:=zAc h;refine zBA (fl:=fl) (fun z=>match z with | _=>⟨ofL [],fun _=>none,0⟩) ?_ (fun z σ' hz hle=>?_)
   ·refine zAi (zAt (X:=Nat×Int) (fun y=>match y with | (k,i5)=>⟨ofL [(1,.s (.pt [.int .i64 n1A,.str n1B,.int .i64 n1F,.sl 4 (Nd.encs n1E)])),(3,.s (.int .i64 i5))],fun _=>none,0⟩) (fun y=>zDJ (zEE n) n1A n1E y.1 y.2=some fl) (fun y=>y.1) (n,0) hl ?_ ?_)
    ·exact(Le.forget _ ⟨rfl,rfl,trivial⟩)
    ·rintro⟨k,i5⟩ h;cases k with
     | zero=>cases h
     | succ k =>
      replace h:zDJ (zEE n) n1A n1E (k+1) i5=some fl:=h;rw[zDJ]at h;refine zAa ?_;refine yAh [] [15] rfl ?_;intro n6 hn6;obtain rfl:(n1E.length:Int)=n6:=(hn6.trans (congrArg (fun m:Nat=>(m:Int)) (rlen Nd.encs_eq n1E))).symm;refine zAf rfl h (fun hb h=>?_) (fun hb h=>?_)
      ·refine zAe ?_;refine zAa ?_;refine zAi ?_;refine zAa ?_;obtain⟨x7,hj,h⟩:=zAc h;refine zAl ⟨ofL [(1,.s (.pt [.int .i64 n1A,.str n1B,.int .i64 n1F,.sl 4 (Nd.encs n1E)])),(3,.s (.int .i64 i5)),(38,.s (.bool x7))],fun _=>none,0⟩ ?_ (fun σ' hle=>?_)
       ·replace h:=hj;refine zAK [] [22,30,34] [] rfl (by decide +kernel) ?_;obtain⟨⟨e8A,e8B,e8F,e8E⟩,he8,h⟩:=zAc h;refine And.intro (zAn Nd.encs_eq he8).1 ?_;intro r9 hr9;obtain rfl:[.int .i64 e8A,.str e8B,.int .i64 e8F,.sl 4 (Nd.encs e8E)]=r9:=(hr9.trans (zAn Nd.encs_eq he8).2.1).symm;intro b hb;cases b with
        | true =>
         replace h:=zAv hb.symm h;cases h;exact(Le.forget _ ⟨rfl,rfl,rfl,trivial⟩)
        | false =>
         replace h:=zAu hb.symm h;obtain⟨⟨e10A,e10B,e10F,e10E⟩,he10,h⟩:=zAc h;refine And.intro (zAn Nd.encs_eq he10).1 ?_;intro r11 hr11;obtain rfl:[.int .i64 e10A,.str e10B,.int .i64 e10F,.sl 4 (Nd.encs e10E)]=r11:=(hr11.trans (zAn Nd.encs_eq he10).2.1).symm;obtain⟨y12,hy12,h⟩:=zAc h;refine⟨_,⟨_,_,hy12,rfl,rfl⟩,?_⟩
         cases h;exact(Le.forget _ ⟨rfl,rfl,rfl,trivial⟩)
       ·refine zAh hle ?_;refine zAf rfl h (fun hb h=>?_) (fun hb h=>?_)
        ·refine yAW ?_;refine zAd ?_;cases h;replace h:some _=some _:=ho1;have hy:=osi h;subst hy;exact fin0 rfl rfl
        ·refine zAe ?_;refine yAV ?_;refine⟨(k,IntKind.i64.wrap (i5+1)),h,(Le.forget _ ⟨rfl,rfl,trivial⟩),Nat.lt_succ_self k⟩
      ·refine zAy ?_;cases h;exact⟨_,rfl,(Le.forget _ trivial)⟩
   ·subst hz;obtain _:=z;replace h:=ho1;refine zAh hle ?_;refine yAW ?_;refine zAd ?_;have hy:=osi h;subst hy;exact fin0 rfl rfl
theorem zS6:∀ n,PSound Tryz.prog 76 (zAq (zIa n)):=by
 intro n
 induction n with
 | zero=>exact zBo Tryz.call76 (fun xs r h=>by obtain⟨_,_,h,_⟩:=h; cases h)
 | succ n ih=>exact zSu n ih
def zQr:zAr:=zAq fun xs r=>∃ n,zIa n xs r
theorem zU7:PSound Tryz.prog 76 zQr:=zBH zS6
def zGV (n:Nat) (xs:List AV) (r:Ret):Prop:=∃ (a0:Nd) (y0:Int),zDH n a0=some y0/\xs=[.agg ((Nd.enc a0).map .s)]/\r = .val (.s (.int .i64 y0))
theorem zQj (n:Nat) (ih:PSound Tryz.prog 77 (zAq (zGV n))):PSound Tryz.prog 77 (zAq (zGV (n+1))):=by
 have gok:∀ f s,look? f [(77,zAq (zGV n))]=some s->PSound Tryz.prog f s:=zAm (by
  simp only[List.forall_mem_cons]
  exact⟨ih,by simp⟩)
 refine zAs tokW Tryz.call77 Tryz.func77 rfl (fun xs r h=>by obtain⟨_,_,_,rfl,_⟩:=h; show 1<=21; decide) 21 rfl ?_;rintro xs r w0 G0 ⟨⟨n1A,n1B,n1F,n1E⟩,y0,h,rfl,rfl⟩ _;rw[zDH]at h;refine yAW ?_;refine yAW ?_;refine zAa ?_;refine yAW ?_;show Tri ..;obtain⟨out4,hl,h⟩:=zAc h;refine zAl ⟨ofL [(3,.s (.int .i64 out4))],fun _=>none,0⟩ ?_ (fun σ' hle=>?_)
 ·refine zAi (zAt (X:=Nat×Int×Int) (fun y=>match y with | (k,out2,i3)=>⟨ofL [(1,.s (.pt [.int .i64 n1A,.str n1B,.int .i64 n1F,.sl 4 (Nd.encs n1E)])),(3,.s (.int .i64 out2)),(4,.s (.int .i64 i3))],fun _=>none,0⟩) (fun y=>zDk (zDH n) n1E y.1 y.2.1 y.2.2=some out4) (fun y=>y.1) (n,1,0) hl ?_ ?_)
  ·exact(Le.forget _ ⟨rfl,rfl,rfl,trivial⟩)
  ·rintro⟨k,out2,i3⟩ h;cases k with
   | zero=>cases h
   | succ k =>
    replace h:zDk (zDH n) n1E (k+1) out2 i3=some out4:=h;rw[zDk]at h;refine zAa ?_;refine yAh [] [8] rfl ?_;intro n5 hn5;obtain rfl:(n1E.length:Int)=n5:=(hn5.trans (congrArg (fun m:Nat=>(m:Int)) (rlen Nd.encs_eq n1E))).symm;refine zAf rfl h (fun hb h=>?_) (fun hb h=>?_)
    ·refine zAe ?_;refine zAa ?_;refine zAi ?_;refine zAb [] [16] rfl ?_;obtain⟨⟨e6A,e6B,e6F,e6E⟩,he6,h⟩:=zAc h;refine And.intro (zAn Nd.encs_eq he6).1 ?_;intro r7 hr7;obtain rfl:[.int .i64 e6A,.str e6B,.int .i64 e6F,.sl 4 (Nd.encs e6E)]=r7:=(hr7.trans (zAn Nd.encs_eq he6).2.1).symm;obtain⟨y8,hy8,h⟩:=zAc h;refine⟨_,⟨_,_,hy8,rfl,rfl⟩,?_⟩
     refine yAV ?_;refine⟨(k,IntKind.i64.wrap (out2+y8),IntKind.i64.wrap (i3+1)),h,(Le.forget _ ⟨rfl,rfl,rfl,trivial⟩),Nat.lt_succ_self k⟩
    ·refine zAy ?_;cases h;exact(Le.forget _ ⟨rfl,trivial⟩)
 ·refine zAh hle ?_;refine yAW ?_;refine zAd ?_;have hy:=osi h;subst hy;exact fin0 rfl rfl
theorem zRw:∀ n,PSound Tryz.prog 77 (zAq (zGV n)):=by
 intro n
 induction n with
 | zero=>exact zBo Tryz.call77 (fun xs r h=>by obtain⟨_,_,h,_⟩:=h; cases h)
 | succ n ih=>exact zQj n ih
def zOg:zAr:=zAq fun xs r=>∃ n,zGV n xs r
theorem zTO:PSound Tryz.prog 77 zOg:=zBH zRw
def zGW (n:Nat) (xs:List AV) (r:Ret):Prop:=∃ (a0:Nd) (y0:Int),zDI n a0=some y0/\xs=[.agg ((Nd.enc a0).map .s)]/\r = .val (.s (.int .i64 y0))
theorem zQk (n:Nat) (ih:PSound Tryz.prog 78 (zAq (zGW n))):PSound Tryz.prog 78 (zAq (zGW (n+1))):=by
 have gok:∀ f s,look? f [(78,zAq (zGW n))]=some s->PSound Tryz.prog f s:=zAm (by
  simp only[List.forall_mem_cons]
  exact⟨ih,by simp⟩)
 refine zAs tokW Tryz.call78 Tryz.func78 rfl (fun xs r h=>by obtain⟨_,_,_,rfl,_⟩:=h; show 1<=22; decide) 22 rfl ?_;rintro xs r w0 G0 ⟨⟨n1A,n1B,n1F,n1E⟩,y0,h,rfl,rfl⟩ _;rw[zDI]at h;refine yAW ?_;refine yAW ?_;refine zAa ?_;refine yAW ?_;show Tri ..;obtain⟨out4,hl,h⟩:=zAc h;refine zAl ⟨ofL [(3,.s (.int .i64 out4))],fun _=>none,0⟩ ?_ (fun σ' hle=>?_)
 ·refine zAi (zAt (X:=Nat×Int×Int) (fun y=>match y with | (k,out2,i3)=>⟨ofL [(1,.s (.pt [.int .i64 n1A,.str n1B,.int .i64 n1F,.sl 4 (Nd.encs n1E)])),(3,.s (.int .i64 out2)),(4,.s (.int .i64 i3))],fun _=>none,0⟩) (fun y=>zDl (zDI n) n1E y.1 y.2.1 y.2.2=some out4) (fun y=>y.1) (n,0,0) hl ?_ ?_)
  ·exact(Le.forget _ ⟨rfl,rfl,rfl,trivial⟩)
  ·rintro⟨k,out2,i3⟩ h;cases k with
   | zero=>cases h
   | succ k =>
    replace h:zDl (zDI n) n1E (k+1) out2 i3=some out4:=h;rw[zDl]at h;refine zAa ?_;refine yAh [] [8] rfl ?_;intro n5 hn5;obtain rfl:(n1E.length:Int)=n5:=(hn5.trans (congrArg (fun m:Nat=>(m:Int)) (rlen Nd.encs_eq n1E))).symm;refine zAf rfl h (fun hb h=>?_) (fun hb h=>?_)
    ·refine zAe ?_;refine zAa ?_;refine zAi ?_;refine zAb [] [16] rfl ?_;obtain⟨⟨e6A,e6B,e6F,e6E⟩,he6,h⟩:=zAc h;refine And.intro (zAn Nd.encs_eq he6).1 ?_;intro r7 hr7;obtain rfl:[.int .i64 e6A,.str e6B,.int .i64 e6F,.sl 4 (Nd.encs e6E)]=r7:=(hr7.trans (zAn Nd.encs_eq he6).2.1).symm;obtain⟨y8,hy8,h⟩:=zAc h;refine⟨_,⟨_,_,hy8,rfl,rfl⟩,?_⟩
     refine yAV ?_;refine⟨(k,(if out2<y8 then y8 else out2),IntKind.i64.wrap (i3+1)),h,(Le.forget _ ⟨rfl,rfl,rfl,trivial⟩),Nat.lt_succ_self k⟩
    ·refine zAy ?_;cases h;exact(Le.forget _ ⟨rfl,trivial⟩)
 ·refine zAh hle ?_;refine yAW ?_;refine zAd ?_;have hy:=osi h;subst hy;exact fin0 rfl rfl
theorem zRx:∀ n,PSound Tryz.prog 78 (zAq (zGW n)):=by
 intro n
 induction n with
 | zero=>exact zBo Tryz.call78 (fun xs r h=>by obtain⟨_,_,h,_⟩:=h; cases h)
 | succ n ih=>exact zQk n ih
def zOh:zAr:=zAq fun xs r=>∃ n,zGW n xs r
theorem zTP:PSound Tryz.prog 78 zOh:=zBH zRx
def zUG (n:Nat) (xs:List AV) (r:Ret):Prop:=∃ (a0:Nd) (y0:Bool),zBv n a0=some y0/\xs=[.agg ((Nd.enc a0).map .s)]/\r = .val (.s (.bool y0))
def zE4:zAr:=zAq fun xs r=>∃ n,zUG n xs r
theorem zFm:PSound Tryz.prog 35 zE4:=by
 have gok:∀ f s,look? f [(76,zQr),(77,zOg),(78,zOh)]=some s->PSound Tryz.prog f s:=zAm (by
  simp only[List.forall_mem_cons]
  exact⟨zU7,zTO,zTP,by simp⟩)
 refine zAs tokW Tryz.call35 Tryz.func35 rfl (fun xs r h=>by obtain⟨n,_,_,_,rfl,_⟩:=h; show 1<=20; decide) 20 rfl ?_;rintro xs r w0 G0 ⟨n,⟨n1A,n1B,n1F,n1E⟩,y0,h,rfl,rfl⟩ _;rw[zBv]at h;refine yAW ?_;refine zAa ?_;obtain⟨x2,hj,h⟩:=zAc h;refine zAl ⟨ofL [(2,.s (.bool x2))],fun _=>none,0⟩ ?_ (fun σ' hle=>?_)
 ·replace h:=hj;refine zAb [] [6,10,15] rfl ?_;intro b hb;cases b with
  | true =>
   replace h:=zAv hb.symm h;obtain⟨y3,hy3,h⟩:=zAc h;refine⟨_,⟨_,_,_,hy3,rfl,rfl⟩,?_⟩
   intro b hb;cases b with
   | true =>
    replace h:=zAv hb.symm h;obtain⟨y4,hy4,h⟩:=zAc h;refine⟨_,⟨_,_,_,hy4,rfl,rfl⟩,?_⟩
    intro b hb;cases b with
    | true =>
     replace h:=zAv hb.symm h;obtain⟨y5,hy5,h⟩:=zAc h;refine⟨_,⟨_,_,_,hy5,rfl,rfl⟩,?_⟩
     cases h;exact(Le.forget _ ⟨rfl,trivial⟩)
    | false =>
     replace h:=zAu hb.symm h;cases h;exact(Le.forget _ ⟨rfl,trivial⟩)
   | false =>
    replace h:=zAu hb.symm h;intro b hb;subst hb;cases h;exact(Le.forget _ ⟨rfl,trivial⟩)
  | false =>
   replace h:=zAu hb.symm h;intro b hb;subst hb;intro b hb;subst hb;cases h;exact(Le.forget _ ⟨rfl,trivial⟩)
 ·refine zAh hle ?_;refine zAd ?_;have hy:=osi h;subst hy;exact fin0 rfl rfl
def zFM (n:Nat) (xs:List AV) (r:Ret):Prop:=∃ (a0:Nd) (a1:Nd) (y0:Bool),zB6 n a0 a1=some y0/\xs=[.agg ((Nd.enc a0).map .s),.agg ((Nd.enc a1).map .s)]/\r = .val (.s (.bool y0))
def zDq (n:Nat) (xs:List AV) (r:Ret):Prop:=∃ (a0:List Nd) (a1:List Nd) (y0:Bool),zCj n a0 a1=some y0/\xs=[.s (.sl 4 (Nd.encs a0)),.s (.sl 4 (Nd.encs a1))]/\r = .val (.s (.bool y0))
theorem zQl (n:Nat) (ih_r09_Equal:PSound Tryz.prog 16 (zAq (zFM n))) (ih_r09_SameItems:PSound Tryz.prog 38 (zAq (zDq n))):PSound Tryz.prog 16 (zAq (zFM (n+1))):=by
 have gok:∀ f s,look? f [(38,zAq (zDq n))]=some s->PSound Tryz.prog f s:=zAm (by
  simp only[List.forall_mem_cons]
  exact⟨ih_r09_SameItems,by simp⟩)
 refine zAs tokW Tryz.call16 Tryz.func16 rfl (fun xs r h=>by obtain⟨_,_,_,_,rfl,_⟩:=h; show 2<=31; decide) 31 rfl ?_;rintro xs r w0 G0 ⟨⟨a1A,a1B,a1F,a1E⟩,⟨b2A,b2B,b2F,b2E⟩,y0,h,rfl,rfl⟩ _;rw[zB6]at h;refine yAW ?_;refine zAa ?_;obtain⟨x3,hj,h⟩:=zAc h;refine zAl ⟨ofL [(4,.s (.bool x3))],fun _=>none,0⟩ ?_ (fun σ' hle=>?_)
 ·replace h:=hj;refine zAb [] [10,17,24] rfl ?_;intro b hb;cases b with
  | true =>
   replace h:=zAv hb.symm h;intro b hb;cases b with
   | true =>
    replace h:=zAv hb.symm h;intro b hb;cases b with
    | true =>
     replace h:=zAv hb.symm h;obtain⟨y4,hy4,h⟩:=zAc h;refine⟨_,⟨_,_,_,hy4,rfl,rfl⟩,?_⟩
     cases h;exact(Le.forget _ ⟨rfl,trivial⟩)
    | false =>
     replace h:=zAu hb.symm h;cases h;exact(Le.forget _ ⟨rfl,trivial⟩)
   | false =>
    replace h:=zAu hb.symm h;intro b hb;subst hb;cases h;exact(Le.forget _ ⟨rfl,trivial⟩)
  | false =>
   replace h:=zAu hb.symm h;intro b hb;subst hb;intro b hb;subst hb;cases h;exact(Le.forget _ ⟨rfl,trivial⟩)
 ·refine zAh hle ?_;refine zAd ?_;have hy:=osi h;subst hy;exact fin0 rfl rfl
theorem zMk (n:Nat) (ih_r09_Equal:PSound Tryz.prog 16 (zAq (zFM n))) (ih_r09_SameItems:PSound Tryz.prog 38 (zAq (zDq n))):PSound Tryz.prog 38 (zAq (zDq (n+1))):=by
 have gok:∀ f s,look? f [(16,zAq (zFM n))]=some s->PSound Tryz.prog f s:=zAm (by
  simp only[List.forall_mem_cons]
  exact⟨ih_r09_Equal,by simp⟩)
 refine zAs tokW Tryz.call38 Tryz.func38 rfl (fun xs r h=>by obtain⟨_,_,_,_,rfl,_⟩:=h; show 2<=27; decide) 27 rfl ?_;rintro xs r w0 G0 ⟨a1,b2,y0,h,rfl,rfl⟩ _;rw[zCj]at h;refine yAW ?_;refine zAa ?_;refine yAh [] [7,9] rfl ?_;intro n3 hn3;obtain rfl:(a1.length:Int)=n3:=(hn3.trans (congrArg (fun m:Nat=>(m:Int)) (rlen Nd.encs_eq a1))).symm;intro n4 hn4;obtain rfl:(b2.length:Int)=n4:=(hn4.trans (congrArg (fun m:Nat=>(m:Int)) (rlen Nd.encs_eq b2))).symm;refine zAf rfl h (fun hb h=>?_) (fun hb h=>?_)
 ·refine yAW ?_;refine zAd ?_;have hy:=osi h;subst hy;exact fin0 rfl rfl
 ·refine zAe ?_;refine zAa ?_;refine yAW ?_;show Tri ..;obtain⟨fl,hl,ho1⟩:=zAc h;refine zBA (fl:=fl) (fun z=>match z with | _=>⟨ofL [],fun _=>none,0⟩) ?_ (fun z σ' hz hle=>?_)
  ·refine zAi (zAt (X:=Nat×Int) (fun y=>match y with | (k,i5)=>⟨ofL [(0,.s (.sl 4 (Nd.encs a1))),(1,.s (.sl 4 (Nd.encs b2))),(5,.s (.int .i64 i5))],fun _=>none,0⟩) (fun y=>zBO (zB6 n) a1 b2 y.1 y.2=some fl) (fun y=>y.1) (n,0) hl ?_ ?_)
   ·exact(Le.forget _ ⟨rfl,rfl,rfl,trivial⟩)
   ·rintro⟨k,i5⟩ h;cases k with
    | zero=>cases h
    | succ k =>
     replace h:zBO (zB6 n) a1 b2 (k+1) i5=some fl:=h;rw[zBO]at h;refine zAa ?_;refine yAh [] [13] rfl ?_;intro n6 hn6;obtain rfl:(a1.length:Int)=n6:=(hn6.trans (congrArg (fun m:Nat=>(m:Int)) (rlen Nd.encs_eq a1))).symm;refine zAf rfl h (fun hb h=>?_) (fun hb h=>?_)
     ·refine zAe ?_;refine zAa ?_;refine zAi ?_;refine zAa ?_;refine zAK [] [19,23] [] rfl (by decide +kernel) ?_;obtain⟨⟨e7A,e7B,e7F,e7E⟩,he7,h⟩:=zAc h;refine And.intro (zAn Nd.encs_eq he7).1 ?_;intro r8 hr8;obtain rfl:[.int .i64 e7A,.str e7B,.int .i64 e7F,.sl 4 (Nd.encs e7E)]=r8:=(hr8.trans (zAn Nd.encs_eq he7).2.1).symm;obtain⟨⟨e9A,e9B,e9F,e9E⟩,he9,h⟩:=zAc h;refine And.intro (zAn Nd.encs_eq he9).1 ?_;intro r10 hr10
      obtain rfl:[.int .i64 e9A,.str e9B,.int .i64 e9F,.sl 4 (Nd.encs e9E)]=r10:=(hr10.trans (zAn Nd.encs_eq he9).2.1).symm;obtain⟨y11,hy11,h⟩:=zAc h;refine⟨_,⟨_,_,_,hy11,rfl,rfl⟩,?_⟩
      refine zAf rfl h (fun hb h=>?_) (fun hb h=>?_)
      ·refine yAW ?_;refine zAd ?_;cases h;replace h:some _=some _:=ho1;have hy:=osi h;subst hy;exact fin0 rfl rfl
      ·refine zAe ?_;refine yAV ?_;refine⟨(k,IntKind.i64.wrap (i5+1)),h,(Le.forget _ ⟨rfl,rfl,rfl,trivial⟩),Nat.lt_succ_self k⟩
     ·refine zAy ?_;cases h;exact⟨_,rfl,(Le.forget _ trivial)⟩
  ·subst hz;obtain _:=z;replace h:=ho1;refine zAh hle ?_;refine yAW ?_;refine zAd ?_;have hy:=osi h;subst hy;exact fin0 rfl rfl
theorem zKH:∀ n,PSound Tryz.prog 16 (zAq (zFM n))/\PSound Tryz.prog 38 (zAq (zDq n)):=by
 intro n
 induction n with
 | zero =>
  refine⟨?_,?_⟩
  ·exact zBo Tryz.call16 (fun xs r h=>by obtain⟨_,_,_,h,_⟩:=h; rw[zB6]at h; cases h)
  ·exact zBo Tryz.call38 (fun xs r h=>by obtain⟨_,_,_,h,_⟩:=h; rw[zCj]at h; cases h)
 | succ n ih =>
  obtain⟨ih_r09_Equal,ih_r09_SameItems⟩:=ih;exact⟨zQl n ih_r09_Equal ih_r09_SameItems,zMk n ih_r09_Equal ih_r09_SameItems⟩
def zK4:zAr:=zAq fun xs r=>∃ n,zFM n xs r
theorem zNo:PSound Tryz.prog 16 zK4:=zBH (fun n=>(zKH n).1)
def zG7:zAr:=zAq fun xs r=>∃ n,zDq n xs r
theorem zI8:PSound Tryz.prog 38 zG7:=zBH (fun n=>(zKH n).2)
def zWj (n:Nat) (xs:List AV) (r:Ret):Prop:=∃ (a0:Nd) (a1:List Int) (y0:Nd) (y1:Int),zIq n a0 a1=some (y0,y1)/\xs=[.agg ((Nd.enc a0).map .s),.s (.sl 1 (a1.map (irow .i64)))]/\r = .val (.tup [.agg ((Nd.enc y0).map .s),.s (.int .i64 y1)])
def zQo:zAr:=zAq fun xs r=>∃ n,zWj n xs r
theorem zU4:PSound Tryz.prog 146 zQo:=by
 have gok:∀ f s,look? f [(73,zDB),(178,zOc),(53,zG1)]=some s->PSound Tryz.prog f s:=zAm (by
  simp only[List.forall_mem_cons]
  exact⟨zDO,zTK,zHM,by simp⟩)
 refine zAs tokW Tryz.call146 Tryz.func146 rfl (fun xs r h=>by obtain⟨n,_,_,_,_,_,rfl,_⟩:=h; show 2<=_; decide) _ rfl ?_;rintro xs r w0 G0 ⟨f,⟨k,t,c,ks⟩,p,y0,y1,h,rfl,rfl⟩ _;rw[zIq]at h;obtain⟨b,hb,h⟩:=zAc h;refine yAh [4] [] rfl ?_;refine zAa ?_;refine yAW ?_;refine⟨_,⟨f,_,_,hb,rfl,rfl⟩,?_⟩
 show Tri ..;cases b with
 | false =>
  refine zA3 rfl (fun _=>?_) (fun h=>by cases h)
  refine yAW ?_;refine zAd ?_;obtain⟨rfl,rfl⟩:=Prod.mk.inj (Option.some.inj h)
  unfold zDR;exact⟨_,Le.refl _ _,rfl,rfl⟩
 | true =>
  refine zA3 rfl (fun h=>by cases h) (fun _=>?_)
  refine zAe ?_;show Tri ..;replace h:(match zB3 (.mk k t c ks) p with | some r=>(zCr r).bind fun r=>some (r,0) | none=>some (zEv,8))=some (y0,y1):=h;refine yAW ?_;cases hf:zB3 (.mk k t c ks) p with
  | none =>
   rw[hf]at h;refine⟨.val (.tup [.junk,.s (.bool false)]),⟨.mk k t c ks,p,rfl,by rw[hf]; rfl⟩,?_⟩
   refine zAa ?_;refine yAW ?_;refine zA3 rfl (fun _=>?_) (fun h=>by cases h)
   refine yAW ?_;refine zAd ?_;obtain⟨rfl,rfl⟩:=Prod.mk.inj (Option.some.inj h)
   unfold zDR;exact⟨_,Le.refl _ _,rfl,rfl⟩
  | some z =>
   obtain⟨k2,t2,c2,ks2⟩:=z;rw[hf]at h;refine⟨.val (.tup [.s (.pt (Nd.enc (.mk k2 t2 c2 ks2))),.s (.bool true)]),⟨.mk k t c ks,p,rfl,by rw[hf]; rfl⟩,?_⟩
   refine zAa ?_;refine yAW ?_;refine zA3 rfl (fun h=>by cases h) (fun _=>?_)
   refine zAe ?_;show Tri ..;obtain⟨⟨k3,t3,c3,ks3⟩,hd,h⟩:=zAc h;obtain⟨rfl,rfl⟩:=Prod.mk.inj (Option.some.inj h)
   refine yAW ?_;refine⟨_,⟨_,_,hd,rfl,rfl⟩,?_⟩
   refine zAd ?_;unfold zDR;exact⟨_,Le.refl _ _,rfl,rfl⟩
theorem zYh {T:Nat->Option TI}{own:Bool}{o:Oper}{σ:St}{e t e0:Nat}{args:Array Operand}{ts:Array Nat}{y:Operand}{v:AV}{ks:List Nd}{keys:List Nat} (hv:VAt σ.hp e v ks keys) (ho:o.op = .call { callee:=.builtin .len,args:=args,argTypes:=ts }) (ha:args.toList=[y]) (hts:ts.toList=[t]) (ht:tk T t = .slice e0)
  (hy:opd T σ.env t y=v):step1 T own o σ=some (none,.s (.int .i64 (ks.length:Int)),σ):=by
 rcases hv with ⟨rfl,rfl,_⟩ | ⟨q,rows,keys',w,rfl,hq,hlen,_,_⟩
 ·have e1:zDf T own o σ.env=some (none,.s (.int .i64 0)) :=(by simp only[zDf,ho,ha,hts,pLen,ht,hy]; rfl);simp only[step1,e1]; rfl
 ·rw[zPu ho ha hts ht hy hq,hlen]
theorem zX3 {k c:Int}{tx:List UInt8}{ks:List Nd}{k2 c2:Int}{tx2:List UInt8}{ks2:List Nd}{z r:Nd}{i s:Int}{p:List Int} (hx:ks[i.toNat]? = some (.mk k2 tx2 c2 ks2)) (hz:ks2[s.toNat]? = some z) :
  putL (.mk k tx c ks) (i::s::p) r = .mk k tx c (ks.set i.toNat (.mk k2 tx2 c2 (ks2.set s.toNat (putL z p r)))):=by
 rw[putL,hx]
 simp only[hz]
theorem Hole.here {hp:Nat->Option Ob}{e:Nat}{p p1:AV}{y:Nd}{keys:List Nat}{F:Nd->Nd} (hn:(zBD p::keys).Nodup) (h:Hole hp e p keys p1 y F):∃ keys0 w0,At hp e p1 y keys0 [] w0/\isL 4 p1/\(zBD p1::keys0).Nodup:=by
 obtain⟨keys0,rest,w0,a1,a2,a3,a4,_⟩:=h;obtain⟨hb,hnk⟩:=List.nodup_cons.1 hn;obtain⟨n0,n1,n01⟩:=List.nodup_append.1 (a1.nodup_iff.1 hnk)
 refine⟨keys0,w0,a2,a3,List.nodup_cons.2 ⟨fun hm=>?_,n0⟩⟩
 rcases a4 with rfl | a4
 ·exact hb (a1.mem_iff.2 (List.mem_append_left _ hm))
 ·exact n01 _ hm _ a4 rfl
theorem Hole.step {hp:Nat->Option Ob}{e q i:Nat}{p p1:AV}{k c:Int}{tx:List UInt8}{ks:List Nd}{x:Nd}{keys:List Nat}{F:Nd->Nd} (hn:(zBD p::keys).Nodup) (h:Hole hp e p keys p1 (.mk k tx c ks) F) (hx:ks[i]? = some x) (hc:zA0 hp p1=some (zBr k tx c (.orow q))) :
  Hole hp e p keys (.rp q 4 i 0) x (fun r=>F (.mk k tx c (ks.set i r))) :=
 Hole.trans hn h fun keys0 w0 ha hl hn0=>by
  obtain⟨b,rows,h1,_,_,h4⟩:=Hole.kid ha hl hn0 hx;rw[hc]at h1;have:q=b :=(by simpa [zBr] using h1);rw[this]; exact h4
theorem zYZ {t r:Nd}:putL t [] r=r:=by cases t; rfl
def zSB (xs:List AV) (hp:Nat->Option Ob) (n:Nat) (Φ:AV->(Nat->Option Ob)->Nat->Prop):Prop :=
 ∃ (p:AV) (t:Nd) (path:List Int) (keys:List Nat) (w:Nat),xs=[p,.s (.sl 1 (path.map (irow .i64)))]/\isL 4 p/\At hp 24 p t keys [] w/\(zBD p::keys).Nodup /\
  (zB3 t path=none->Φ (.tup [.junk,.s (.bool false)]) hp n)/\∀ p1 y F,zB3 t path=some y->Hole hp 24 p keys p1 y F->(∀ r,putL t path r=F r)->Φ (.tup [p1,.s (.bool true)]) hp n
def zNZ:zAr:=zTs zSB
set_option maxHeartbeats 600000 in
theorem zRG:PSound Tryz.prog 178 zNZ:=by
 have gok:=@gok0 Tryz.prog;refine zQN tokW Tryz.call178 Tryz.func178 rfl (fun xs hp n Φ h=>by obtain⟨_,_,_,_,_,rfl,_⟩:=h; show 2<=_; decide) _ rfl ?_;rintro xs hp n Φ w0 G0 B0 ⟨p0,t0,path0,keys,w,rfl,hl0,hat,hnd,hΦ1,hΦ2⟩ _ hhp;refine yAW ?_;refine zAa ?_;refine zAi (zAt (X:=AV×Nd×List Int×(Nd->Nd)) (fun x=>match x with | (p,y,q,F)=>⟨ofL [(0,p),(1,.s (.sl 1 (q.map (irow .i64)))),(4,.s .np),(5,.s (.bool false))],hp,n⟩)
  (fun x=>match x with | (p,y,q,F)=>zB3 t0 path0=zB3 y q/\Hole hp 24 p0 keys p y F/\∀ r,putL t0 path0 r=F (putL y q r)) (fun x=>match x with | (p,y,q,F)=>q.length) (p0,t0,path0,id) ⟨rfl,Hole.refl hat hl0,fun _=>rfl⟩ (Le.forget [(0,p0),(1,.s (.sl 1 (path0.map (irow .i64)))),(4,.s .np),(5,.s (.bool false))] ⟨rfl,rfl,rfl,rfl,trivial⟩) ?_)
 rintro⟨p,⟨k,t,c,ks⟩,q,F⟩ hI;have hI:zB3 t0 path0=zB3 (.mk k t c ks) q/\Hole hp 24 p0 keys p (.mk k t c ks) F/\∀ r,putL t0 path0 r=F (putL (.mk k t c ks) q r):=hI
 obtain⟨hI1,hI2,hI3⟩:=hI;have hlp:isL 4 p :=(by obtain⟨_,_,_,_,_,h,_⟩:=hI2; exact h);refine zAa ?_;refine yAW ?_;refine zA3 rfl (fun hb=>?_) (fun hb=>?_)
 ·refine zAe ?_;show Tri ..
  match q,hI1,hI3,hb with
  | [],_,_,hb=>cases hb
  | [_],_,_,hb=>cases hb
  | i::s::q,hI1,hI3,hb =>
   refine zAh (Le.forgetH [(0,p),(1,.s (.sl 1 ((i::s::q).map (irow .i64)))),(4,.s .np),(5,.s (.bool false))] hp n ⟨rfl,rfl,rfl,rfl,trivial⟩ (fun _=>rfl) rfl) ?_;refine zAa ?_;refine zAi ?_;refine zAa ?_;refine zPA (by exact tokW) (by exact gok) (by exact mixed) [] [] [1,2,4,5] rfl (by decide +kernel) ?_;refine And.intro (show(0:Int)<=0/\(0:Int)<((((i::s::q).map (irow .i64)).length:Nat):Int) by simp only[List.map_cons,List.length_cons]; omega) ?_;refine And.intro (show(0:Int)<=1/\(1:Int)<((((i::s::q).map (irow .i64)).length:Nat):Int) by simp only[List.map_cons,List.length_cons]; omega) ?_;show Tri ..
   refine zAh (Le.forgetH [(0,p),(1,.s (.sl 1 ((i::s::q).map (irow .i64)))),(4,.s .np),(5,.s (.bool false)),(6,.s (.int .i64 i)),(7,.s (.int .i64 s))] hp n ⟨rfl,rfl,rfl,rfl,rfl,rfl,trivial⟩ (fun _=>rfl) rfl) ?_;refine zAa ?_;refine zAa ?_
   by_cases hi:i<0
   ·refine zAb [] [21] rfl ?_;intro b hb;obtain rfl:true=b:=(hb.trans (decide_eq_true hi)).symm;refine zA3 rfl (fun _=>?_) (fun h=>by cases h)
    refine yAW ?_;refine zAd ?_;unfold zKt;exact⟨_,Le.forget [(5,.s (.bool false))] ⟨rfl,trivial⟩,_,rfl,hΦ1 (hI1.trans (zIM (fun h=>by omega)))⟩
   obtain⟨keys1,w1,hat1,_,hnd1⟩:=hI2.here hnd;obtain⟨v,hcv,hv⟩:=hat1.full;refine yAV ?_;refine zAg rfl rfl rfl rfl rfl rfl trivial ?_;refine zAg rfl rfl rfl rfl rfl rfl trivial ?_;rw[show decide (i<0)=false from decide_eq_false hi]
   refine zAg rfl rfl rfl rfl rfl rfl trivial ?_;refine zEb (g:=22) rfl rfl rfl ?_;refine zAg rfl rfl rfl rfl rfl rfl trivial ?_;refine zEb (g:=22) rfl rfl rfl ?_;refine zAg rfl rfl rfl rfl rfl (zD8 hlp (.inr rfl) rfl rfl) trivial ?_;refine zEb (g:=22) rfl rfl rfl ?_;refine zAg rfl rfl rfl rfl rfl (zF2 hlp rfl rfl) trivial ?_;refine zEb (g:=22) rfl rfl rfl ?_;refine zAg rfl rfl rfl rfl rfl (zGq hlp rfl rfl rfl rfl rfl rfl rfl) trivial ?_;refine zEb (g:=22) rfl rfl rfl ?_;refine zES (off:=3) (sz:=4) rfl rfl rfl rfl rfl rfl rfl hlp rfl hcv rfl ?_;refine zEb (g:=22) rfl rfl rfl ?_
   refine zAg rfl rfl rfl rfl rfl (zYh hv rfl rfl rfl rfl rfl) trivial ?_;refine zEb (g:=22) rfl rfl rfl ?_;refine zAg rfl rfl rfl rfl rfl rfl trivial ?_
   by_cases hi2:(ks.length:Int)<=i
   ·rw[show decide ((ks.length:Int)<=i)=true from decide_eq_true hi2]
    refine zAg rfl rfl rfl rfl rfl rfl trivial ?_;refine zA3 rfl (fun _=>?_) (fun h=>by cases h)
    refine yAW ?_;refine zAd ?_;unfold zKt;exact⟨_,Le.forget [(5,.s (.bool false))] ⟨rfl,trivial⟩,_,rfl,hΦ1 (hI1.trans (zIM (n:=.mk k t c ks) (fun h=>by have:i<(ks.length:Int):=h.2; omega)))⟩
   rw[show decide ((ks.length:Int)<=i)=false from decide_eq_false hi2]
   refine zAg rfl rfl rfl rfl rfl rfl trivial ?_;refine zA3 rfl (fun h=>by cases h) (fun _=>?_)
   refine zAe ?_;show Tri ..;have hi0:i.toNat<ks.length :=(by omega);obtain⟨⟨k2,t2,c2,ks2⟩,hx⟩:∃ x,ks[i.toNat]? = some x:=⟨_,List.getElem?_eq_getElem hi0⟩
   obtain⟨b1,rows1,hc1,hr1,hlen1,hole1⟩:=Hole.kid hat1 hlp hnd1 hx;refine zAh (Le.forgetH [(0,p),(1,.s (.sl 1 ((i::s::q).map (irow .i64)))),(4,.s .np),(5,.s (.bool false)),(6,.s (.int .i64 i)),(7,.s (.int .i64 s))] hp n ⟨rfl,rfl,rfl,rfl,rfl,rfl,trivial⟩ (fun _=>rfl) rfl) ?_;refine yAW ?_;refine zAg rfl rfl rfl rfl rfl (zD8 hlp (.inr rfl) rfl rfl) trivial ?_;refine zAg rfl rfl rfl rfl rfl (zF2 hlp rfl rfl) trivial ?_;refine zAg rfl rfl rfl rfl rfl (zGq hlp rfl rfl rfl rfl rfl rfl rfl) trivial ?_;refine zES (off:=3) (sz:=4) rfl rfl rfl rfl rfl rfl rfl hlp rfl hc1 rfl ?_
   refine zAg rfl rfl rfl rfl rfl rfl trivial ?_;refine zAg rfl rfl rfl rfl rfl (zSp rfl rfl rfl rfl rfl rfl hr1 rfl) ⟨by omega,by rw[hlen1]; omega⟩ ?_;refine zAg rfl rfl rfl rfl rfl rfl trivial ?_;refine zAh (Le.forgetH [(0,p),(1,.s (.sl 1 ((i::s::q).map (irow .i64)))),(4,.s .np),(5,.s (.bool false)),(6,.s (.int .i64 i)),(7,.s (.int .i64 s)),(8,.rp b1 4 i.toNat 0)] hp n ⟨rfl,rfl,rfl,rfl,rfl,rfl,rfl,trivial⟩ (fun _=>rfl) rfl) ?_;refine zAa ?_;refine zAa ?_
   by_cases hs:s<0
   ·refine zAb [] [38] rfl ?_;intro b hb;obtain rfl:true=b:=(hb.trans (decide_eq_true hs)).symm;refine zA3 rfl (fun _=>?_) (fun h=>by cases h)
    refine yAW ?_;refine zAd ?_;unfold zKt;exact⟨_,Le.forget [(5,.s (.bool false))] ⟨rfl,trivial⟩,_,rfl,hΦ1 (hI1.trans (zIN (n:=.mk k t c ks) (by omega) hx (fun h=>by omega)))⟩
   have hl2:isL 4 (.rp b1 4 i.toNat 0):=.inl ⟨b1,i.toNat,rfl⟩
   have hI4:=Hole.step hnd hI2 hx hc1;obtain⟨keys2,w2,hat2,_,hnd2⟩:=hI4.here hnd;obtain⟨v2,hcv2,hv2⟩:=hat2.full;refine yAV ?_;refine zAg rfl rfl rfl rfl rfl rfl trivial ?_;refine zAg rfl rfl rfl rfl rfl rfl trivial ?_;rw[show decide (s<0)=false from decide_eq_false hs]
   refine zAg rfl rfl rfl rfl rfl rfl trivial ?_;refine zEb (g:=39) rfl rfl rfl ?_;refine zAg rfl rfl rfl rfl rfl rfl trivial ?_;refine zEb (g:=39) rfl rfl rfl ?_;refine zAg rfl rfl rfl rfl rfl (zD8 hl2 (.inr rfl) rfl rfl) trivial ?_;refine zEb (g:=39) rfl rfl rfl ?_;refine zAg rfl rfl rfl rfl rfl (zF2 hl2 rfl rfl) trivial ?_;refine zEb (g:=39) rfl rfl rfl ?_;refine zAg rfl rfl rfl rfl rfl (zGq hl2 rfl rfl rfl rfl rfl rfl rfl) trivial ?_;refine zEb (g:=39) rfl rfl rfl ?_;refine zES (off:=3) (sz:=4) rfl rfl rfl rfl rfl rfl rfl hl2 rfl hcv2 rfl ?_;refine zEb (g:=39) rfl rfl rfl ?_
   refine zAg rfl rfl rfl rfl rfl (zYh hv2 rfl rfl rfl rfl rfl) trivial ?_;refine zEb (g:=39) rfl rfl rfl ?_;refine zAg rfl rfl rfl rfl rfl rfl trivial ?_
   by_cases hs2:(ks2.length:Int)<=s
   ·rw[show decide ((ks2.length:Int)<=s)=true from decide_eq_true hs2]
    refine zAg rfl rfl rfl rfl rfl rfl trivial ?_;refine zA3 rfl (fun _=>?_) (fun h=>by cases h)
    refine yAW ?_;refine zAd ?_;unfold zKt;exact⟨_,Le.forget [(5,.s (.bool false))] ⟨rfl,trivial⟩,_,rfl,hΦ1 (hI1.trans (zIN (n:=.mk k t c ks) (by omega) hx (fun h=>by have:s<(ks2.length:Int):=h.2; omega)))⟩
   rw[show decide ((ks2.length:Int)<=s)=false from decide_eq_false hs2]
   refine zAg rfl rfl rfl rfl rfl rfl trivial ?_;refine zA3 rfl (fun h=>by cases h) (fun _=>?_)
   refine zAe ?_;show Tri ..;have hs0:s.toNat<ks2.length :=(by omega);obtain⟨z,hz⟩:∃ z,ks2[s.toNat]? = some z:=⟨_,List.getElem?_eq_getElem hs0⟩
   obtain⟨b2,rows2,hc2,hr2,hlen2,hole2⟩:=Hole.kid hat2 hl2 hnd2 hz;refine zAh (Le.forgetH [(0,p),(1,.s (.sl 1 ((i::s::q).map (irow .i64)))),(4,.s .np),(5,.s (.bool false)),(6,.s (.int .i64 i)),(7,.s (.int .i64 s)),(8,.rp b1 4 i.toNat 0)] hp n ⟨rfl,rfl,rfl,rfl,rfl,rfl,rfl,trivial⟩ (fun _=>rfl) rfl) ?_;refine yAV ?_;refine zAg rfl rfl rfl rfl rfl (zD8 hl2 (.inr rfl) rfl rfl) trivial ?_;refine zAg rfl rfl rfl rfl rfl (zF2 hl2 rfl rfl) trivial ?_;refine zAg rfl rfl rfl rfl rfl (zGq hl2 rfl rfl rfl rfl rfl rfl rfl) trivial ?_;refine zES (off:=3) (sz:=4) rfl rfl rfl rfl rfl rfl rfl hl2 rfl hc2 rfl ?_
   refine zAg rfl rfl rfl rfl rfl rfl trivial ?_;refine zAg rfl rfl rfl rfl rfl (zSp rfl rfl rfl rfl rfl rfl hr2 rfl) ⟨by omega,by rw[hlen2]; omega⟩ ?_;refine zAg rfl rfl rfl rfl rfl rfl trivial ?_;refine zAh (Le.forgetH [(0,.rp b2 4 s.toNat 0),(1,.s (.sl 1 ((i::s::q).map (irow .i64)))),(4,.s .np),(5,.s (.bool false))] hp n ⟨rfl,rfl,rfl,rfl,trivial⟩ (fun _=>rfl) rfl) ?_;refine yAV ?_;have h2l:(2:Int)<=((((i::s::q).map (irow .i64)).length:Nat):Int) :=(by simp only[List.map_cons,List.length_cons]; omega);refine zAg rfl rfl rfl rfl rfl rfl trivial ?_
   refine zAg rfl rfl rfl rfl rfl rfl ⟨by decide,h2l,Int.le_refl _⟩ ?_;refine zAg rfl rfl rfl rfl rfl rfl trivial ?_;have hI5:=Hole.step hnd hI4 hz hc2;refine⟨(.rp b2 4 s.toNat 0,z,q,fun r=>F (.mk k t c (ks.set i.toNat (.mk k2 t2 c2 (ks2.set s.toNat r))))),⟨?_,hI5,?_⟩,Le.forgetH [(0,.rp b2 4 s.toNat 0),(1,.s (.sl 1 (q.map (irow .i64)))),(4,.s .np),(5,.s (.bool false))] hp n ⟨rfl,congrArg (fun z=>AV.s (.sl 1 z)) ?_,rfl,rfl,trivial⟩ (fun _=>rfl) rfl,?_⟩
   ·exact hI1.trans (zQK (n:=.mk k t c ks) (by omega) hx (by omega) hz)
   ·intro r;exact(hI3 r).trans (congrArg F (zX3 hx hz))
   ·show List.drop 2 (List.take ((((i::s::q).map (irow .i64)).length:Nat):Int).toNat ((i::s::q).map (irow .i64)))=_;rw[Int.toNat_natCast,List.take_length]; rfl
   ·show q.length<q.length+1+1
    omega
 ·refine zAy ?_;refine zAh (Le.forgetH [(0,p),(1,.s (.sl 1 (q.map (irow .i64)))),(4,.s .np),(5,.s (.bool false))] hp n ⟨rfl,rfl,rfl,rfl,trivial⟩ (fun _=>rfl) rfl) ?_;refine yAW ?_;refine zAg rfl rfl rfl rfl rfl (zD8 hlp (.inr rfl) rfl rfl) trivial ?_
  match q,hI1,hI3,hb with
  | [],hI1,hI3,_ =>
   refine zAg rfl rfl rfl rfl rfl rfl trivial ?_;refine zAg rfl rfl rfl rfl rfl rfl trivial ?_;refine zAg rfl rfl rfl rfl rfl rfl trivial ?_;refine zAg rfl rfl rfl rfl rfl (zD8 hlp (.inl rfl) rfl rfl) trivial ?_;refine zAg rfl rfl rfl rfl rfl rfl trivial ?_;refine zAd ?_;have hd:AV.deep p=p:=by rcases hlp with ⟨_,_,rfl⟩ | ⟨_,rfl⟩ <;> rfl
   unfold zKt;refine⟨_,Le.forget [(4,p),(5,.s (.bool true))] ⟨rfl,rfl,trivial⟩,.tup [p,.s (.bool true)],?_,hΦ2 p (.mk k t c ks) F (hI1.trans rfl) hI2 fun r=>(hI3 r).trans (by rw[zYZ])⟩
   show some (AV.tup [AV.deep p,.s (.bool true)])=_;rw[hd]
  | [i],hI1,_,_ =>
   refine zAg rfl rfl rfl rfl rfl rfl trivial ?_;refine zAg rfl rfl rfl rfl rfl rfl trivial ?_;refine zAg rfl rfl rfl rfl rfl rfl trivial ?_;refine zAg rfl rfl rfl rfl rfl (zD8 hlp (.inl rfl) rfl rfl) trivial ?_;refine zAg rfl rfl rfl rfl rfl rfl trivial ?_;refine zAd ?_;unfold zKt;exact⟨_,Le.forget [(5,.s (.bool false))] ⟨rfl,trivial⟩,_,rfl,hΦ1 (hI1.trans rfl)⟩
  | i::s::p,_,_,hb=>exact absurd (of_decide_eq_false hb) (by simp only[List.map_cons,List.length_cons]; omega)
theorem zJ9 {T:Nat->Option TI}{σ:St}{t ty q bt u:Nat}{i:TI}{cells:List AV} (h1:σ.env t = .op q 0) (h2:σ.hp q=some (.box bt cells)) (h3:T ty=some i) (ha:i.k.agg=true) (hz:i.size=cells.length):zMQ T σ [.cell t ty,.tmp u]=some (.tup [AV.deep (.agg cells),(σ.env u).deep]):=by
 have hb:Nat.ble i.size cells.length=true :=(by rw[hz]; exact Nat.ble_eq_true_of_le (Nat.le_refl _));simp only[zMQ,zJZ,zUe,h1,h2,h3,ha,hb]
 rw[hz,List.take_length]
theorem Hole.base {hp:Nat->Option Ob}{e:Nat}{p p1:AV}{y:Nd}{keys:List Nat}{F:Nd->Nd} (h:Hole hp e p keys p1 y F):zBD p1=zBD p∨zBD p1∈keys:=by
 obtain⟨keys0,rest,w0,a1,a2,a3,a4,_⟩:=h;rcases a4 with rfl | a4
 ·exact .inl rfl
 ·exact .inr (a1.mem_iff.2 (List.mem_append_right _ a4))
theorem At.ofV {hp:Nat->Option Ob}{e:Nat}{p v:AV}{k c:Int}{t:List UInt8}{ks:List Nd}{keys:List Nat} (hc:zA0 hp p=some (zBr k t c v)) (h:VAt hp e v ks keys):∃ w,At hp e p (.mk k t c ks) keys [] w:=by
 rcases h with ⟨rfl,rfl,rfl⟩ | ⟨q,rows,keys',w,rfl,h1,h2,rfl,h3⟩
 ·exact⟨0,by simp only[At]; exact⟨_,hc,.inr (.inl (by simp))⟩⟩
 ·exact⟨w,by simp only[At]; exact⟨_,hc,.inr (.inr ⟨q,rows,keys',rfl,h1,h2,rfl,h3⟩)⟩⟩
def zUA (n:Nat) (xs:List AV) (r:Ret):Prop:=∃ (a0:Nd) (a1:List Int) (a2:Nd) (y0:Nd) (y1:Int),zFW n a0 a1 a2=some (y0,y1)/\xs=[.agg ((Nd.enc a0).map .s),.s (.sl 1 (a1.map (irow .i64))),.agg ((Nd.enc a2).map .s)]/\r = .val (.tup [.agg ((Nd.enc y0).map .s),.s (.int .i64 y1)])
def zOb:zAr:=zAq fun xs r=>∃ n,zUA n xs r
set_option maxHeartbeats 600000 in
theorem zTJ:PSound Tryz.prog 148 zOb:=by
 have gok:∀ f s,look? f [(73,zDB),(178,zNZ),(53,zNY)]=some s->PSound Tryz.prog f s:=zAm (by
  simp only[List.forall_mem_cons]
  exact⟨zDO,zRG,zIO,by simp⟩)
 refine zAs tokW Tryz.call148 Tryz.func148 rfl (fun xs r h=>by obtain⟨n,_,_,_,_,_,_,rfl,_⟩:=h; show 3<=_; decide) _ rfl ?_;rintro xs r w0 G0 ⟨f,⟨k,t,c,ks⟩,path,⟨rk,rt,rc,rks⟩,y0,y1,h,rfl,rfl⟩ _;rw[zFW]at h;obtain⟨b,hb,h⟩:=zAc h;refine yAh [6] [] rfl ?_;refine zAa ?_;refine yAW ?_;refine⟨_,⟨f,_,_,hb,rfl,rfl⟩,?_⟩
 show Tri ..;cases b with
 | false =>
  refine zA3 rfl (fun _=>?_) (fun h=>by cases h)
  refine yAW ?_;refine zAd ?_;obtain⟨rfl,rfl⟩:=Prod.mk.inj (Option.some.inj h)
  unfold zDR;exact⟨_,Le.refl _ _,rfl,rfl⟩
 | true =>
  refine zA3 rfl (fun h=>by cases h) (fun _=>?_)
  refine zAe ?_;show Tri ..;rw[if_pos rfl]at h;obtain⟨n1,hn1,h⟩:=zAc h;obtain⟨hcnt,hn1⟩:=zAw hn1;obtain rfl:=Option.some.inj hn1;refine yAh [8] [] rfl ?_;refine⟨_,⟨k,c,t,ks,hcnt,rfl,fun v hp' n' keys h1 h2 h3 h4 h5=>?_⟩,fun _ _ _ h=>h⟩
  have hv1:v.one=true/\∀ m,n'<m->v.lt m=true:=by
   rcases h3 with ⟨_,rfl,_⟩ | ⟨q,_,_,_,rfl,_,_,hk,_⟩
   ·exact⟨rfl,fun _ _=>rfl⟩
   ·exact⟨rfl,fun m hm=>decide_eq_true (Nat.lt_trans (h5 q (by rw[hk]; exact List.mem_cons_self)).2 hm)⟩
  refine zTw (d:=16) ?_;refine zAg rfl rfl rfl rfl rfl rfl trivial ?_;refine zIk (sz:=4) (cs:=[.s (.int .i64 0),.s (.str []),.s (.int .i64 0),.nl 4]) (cs':=zBr k t c v) (p:=.op n' 0) rfl rfl rfl rfl rfl (.inr ⟨n',rfl⟩) rfl (zFi (bt:=24) (by show(bif Nat.beq n' n' then _ else hp' n')=_; rw[Nat.beq_refl]; rfl)) rfl rfl rfl (by simp only[zBr,List.all_cons,List.all_nil,hv1.1]; rfl) (by have h0:v.lt (n'+1)=true:=hv1.2 _ (Nat.lt_succ_self _); show AV.ltAll (n'+1) (zBr k t c v)=true; simp only[zBr,AV.ltAll,h0]; rfl) ?_;show Tri ..
  refine zJ3 [(1,.s (.sl 1 (path.map (irow .i64)))),(5,.s (.pt (Nd.enc (.mk rk rt rc rks)))),(6,.op 0 0),(8,.op n' 0)] (n'+1) ⟨rfl,rfl,rfl,rfl,trivial⟩ rfl fun H hH=>?_
  have g1:H n'=some (.box 24 (zBr k t c v)):=(hH n').trans (by
   show putC (fun m=>bif Nat.beq m n' then some (Ob.box 24 [.s (.int .i64 0),.s (.str []),.s (.int .i64 0),.nl 4]) else hp' m) (.op n' 0) (zBr k t c v) n'=_;rw[zHr (bt:=24) (cs:=[.s (.int .i64 0),.s (.str []),.s (.int .i64 0),.nl 4]) (by simp only[Nat.beq_refl,cond_true])]
   simp only[Nat.beq_refl,cond_true])
  have g2:∀ m,m<n'->H m=hp' m:=fun m hm=>(hH m).trans (by
   show putC (fun m=>bif Nat.beq m n' then some (Ob.box 24 [.s (.int .i64 0),.s (.str []),.s (.int .i64 0),.nl 4]) else hp' m) (.op n' 0) (zBr k t c v) m=_;rw[zCq (show m ≠ n' by omega),zFh (show m ≠ n' by omega)]; rfl)
  clear hH
  have g0:H 0=some (.box 24 [.s (.int .i64 0),.s (.str []),.s (.int .i64 0),.nl 4]):=(g2 0 h1).trans (h2 0 (Nat.lt_succ_self 0))
  obtain⟨w,hat⟩:=At.ofV (zFi g1) (h3.frame fun m hm=>g2 m (h5 m hm).2)
  have hnd:(zBD (.op n' 0)::keys).Nodup:=List.nodup_cons.2 ⟨fun hm=>Nat.lt_irrefl _ (h5 n' hm).2,h4⟩
  refine yAW ?_;refine⟨_,⟨.op n' 0,.mk k t c ks,path,keys,w,rfl,.inr ⟨n',rfl⟩,hat,hnd,fun hf=>?_,fun p1 y F hf hole hF=>?_⟩,fun _ _ _ h=>h⟩
  ·rw[hf]at h;refine zAa ?_;refine yAW ?_;refine zA3 rfl (fun _=>?_) (fun h=>by cases h)
   obtain⟨rfl,rfl⟩:=Prod.mk.inj (Option.some.inj h)
   refine zAh (Le.forgetH [(6,.op 0 0)] H (n'+1) ⟨rfl,trivial⟩ (fun _=>rfl) rfl) ?_;refine yAW ?_;refine zAg rfl rfl rfl rfl rfl rfl trivial ?_;refine zIk (sz:=4) (cs:=[.s (.int .i64 0),.s (.str []),.s (.int .i64 0),.nl 4]) (cs':=[.s (.int .i64 0),.s (.str []),.s (.int .i64 0),.nl 4]) (p:=.op 0 0) rfl rfl rfl rfl rfl (.inr ⟨0,rfl⟩) rfl (zFi (bt:=24) g0) rfl rfl rfl rfl rfl ?_;refine zAg rfl rfl rfl rfl rfl rfl trivial ?_;refine zAd ?_;unfold zDR
   refine⟨_,Le.refl _ _,(zJ9 (bt:=24) (cells:=[.s (.int .i64 0),.s (.str []),.s (.int .i64 0),.nl 4]) rfl ?_ rfl rfl rfl).trans rfl,rfl⟩
   show putC H (.op 0 0) _ 0=_;rw[zHr (bt:=24) (cs:=[.s (.int .i64 0),.s (.str []),.s (.int .i64 0),.nl 4]) g0]; rfl
  ·rw[hf]at h;obtain⟨keys1,w1,hat1,hl1,hnd1⟩:=hole.here hnd;refine zTw (d:=19) ?_;refine zAg rfl rfl rfl rfl rfl rfl trivial ?_;refine zAg rfl rfl rfl rfl rfl rfl trivial ?_;refine zAg rfl rfl rfl rfl rfl rfl trivial ?_;refine zAg rfl rfl rfl rfl rfl (zD8 hl1 (.inl rfl) rfl rfl) trivial ?_;refine zAg rfl rfl rfl rfl rfl rfl trivial ?_;refine zAh (Le.forgetH [(5,.s (.pt (Nd.enc (.mk rk rt rc rks)))),(6,.op 0 0),(8,.op n' 0),(9,p1),(10,.s (.bool true))] H (n'+1) ⟨rfl,rfl,rfl,rfl,rfl,trivial⟩ (fun _=>rfl) rfl) ?_;refine zAa ?_;refine yAW ?_;show Tri ..
   refine zA3 rfl (fun h=>by cases h) (fun _=>?_)
   refine zAe ?_;show Tri ..;obtain⟨b2,hb2,h⟩:=zAc h;refine zAa ?_;refine yAW ?_;refine⟨_,⟨f,_,_,hb2,rfl,rfl⟩,?_⟩
   show Tri ..;cases b2 with
   | false =>
    refine zA3 rfl (fun _=>?_) (fun h=>by cases h)
    obtain⟨rfl,rfl⟩:=Prod.mk.inj (Option.some.inj h)
    refine zAh (Le.forgetH [(6,.op 0 0)] H (n'+1) ⟨rfl,trivial⟩ (fun _=>rfl) rfl) ?_;refine yAW ?_;refine zAg rfl rfl rfl rfl rfl rfl trivial ?_;refine zIk (sz:=4) (cs:=[.s (.int .i64 0),.s (.str []),.s (.int .i64 0),.nl 4]) (cs':=[.s (.int .i64 0),.s (.str []),.s (.int .i64 0),.nl 4]) (p:=.op 0 0) rfl rfl rfl rfl rfl (.inr ⟨0,rfl⟩) rfl (zFi (bt:=24) g0) rfl rfl rfl rfl rfl ?_;refine zAg rfl rfl rfl rfl rfl rfl trivial ?_;refine zAd ?_;unfold zDR
    refine⟨_,Le.refl _ _,(zJ9 (bt:=24) (cells:=[.s (.int .i64 0),.s (.str []),.s (.int .i64 0),.nl 4]) rfl ?_ rfl rfl rfl).trans rfl,rfl⟩
    show putC H (.op 0 0) _ 0=_;rw[zHr (bt:=24) (cs:=[.s (.int .i64 0),.s (.str []),.s (.int .i64 0),.nl 4]) g0]; rfl
   | true =>
    refine zA3 rfl (fun h=>by cases h) (fun _=>?_)
    refine zAe ?_;show Tri ..;rw[if_pos rfl]at h;obtain⟨n2,hn2,h⟩:=zAc h;obtain⟨hcnt2,hn2⟩:=zAw hn2;obtain rfl:=Option.some.inj hn2;refine zAh (Le.forgetH [(5,.s (.pt (Nd.enc (.mk rk rt rc rks)))),(6,.op 0 0),(8,.op n' 0),(9,p1)] H (n'+1) ⟨rfl,rfl,rfl,rfl,trivial⟩ (fun _=>rfl) rfl) ?_;refine yAW ?_;refine zAg rfl rfl rfl rfl rfl (zD8 hl1 (.inr rfl) rfl rfl) trivial ?_;refine zAg rfl rfl rfl rfl rfl rfl trivial ?_;refine⟨_,⟨rk,rc,rt,rks,hcnt2,rfl,fun v2 hp2 n2 keys2 q1 q2 q3 q4 q5=>?_⟩,fun _ _ _ h=>h⟩
    refine zTw (d:=31) ?_;refine zAg rfl rfl rfl rfl rfl (zF2 hl1 rfl rfl) trivial ?_;have hb1:zBD p1<n'+1:=by
     rcases hole.base with h | h
     ·have:zBD p1=n':=h
      omega
     ·have:=(h5 _ h).2; omega
    obtain⟨yk,yt,yc,yks⟩:=y;obtain⟨vy,hcy,_⟩:=hat1.full;have hcy2:zA0 hp2 p1=some (zBr yk yt yc vy):=(zC1 hl1 (q2 _ hb1)).trans hcy;have hv2:v2.one=true/\v2.lt n2=true:=by
     rcases q3 with ⟨_,rfl,_⟩ | ⟨q,_,_,_,rfl,_,_,hk,_⟩
     ·exact⟨rfl,rfl⟩
     ·exact⟨rfl,decide_eq_true (q5 q (by rw[hk]; exact List.mem_cons_self)).2⟩
    refine zIk (sz:=4) (cs':=zBr rk rt rc v2) rfl rfl rfl rfl rfl hl1 rfl hcy2 rfl rfl rfl (by simp only[zBr,List.all_cons,List.all_nil,hv2.1]; rfl) (by show AV.ltAll n2 (zBr rk rt rc v2)=true; simp only[zBr,AV.ltAll,hv2.2]; rfl) ?_;show Tri ..;refine zJ3 [(6,.op 0 0),(8,.op n' 0)] n2 ⟨rfl,rfl,trivial⟩ rfl fun H2 hH2=>?_
    have hH2:∀ m,H2 m=putC hp2 p1 (zBr rk rt rc v2) m:=hH2
    have hcp:zA0 H2 p1=some (zBr rk rt rc v2):=(zC1 hl1 (hH2 _)).trans (zK6 hl1 hcy2)
    have hb2k:∀ m∈keys2,H2 m=hp2 m:=fun m hm=>(hH2 m).trans (zCq (by have hm1:n'+1<=m:=(q5 m hm).1; omega))
    obtain⟨w3,hat3⟩:=At.ofV hcp (q3.frame hb2k)
    obtain⟨keys0,rest,w0',a1,a2,a3,a4,a5⟩:=hole;have hrest:∀ m,m=n'∨m∈rest->m<n'+1:=fun m hm=>by
     rcases hm with rfl | hm
     ·omega
     ·have:=(h5 m (a1.mem_iff.2 (List.mem_append_right _ hm))).2; omega
    obtain⟨keys3,w4,hperm,hfin⟩:=a5 H2 (.mk rk rt rc rks) keys2 w3 (Sim.put (c:=zBr rk rt rc v2) hl1 hcy fun m hm=>(hH2 m).trans (zJ8 hl1 (q2 m (hrest m hm)) (q2 _ hb1))) hat3;have hput:F (.mk rk rt rc rks)=putL (.mk k t c ks) path (.mk rk rt rc rks):=(hF _).symm;rw[hput]at hfin;have hn0:∀ m,m=n'∨m∈keys3->m ≠ 0:=fun m hm=>by
     have e1:1<=n':=h1;rcases hm with rfl | hm
     ·omega
     ·rcases List.mem_append.1 (hperm.mem_iff.1 hm) with hm | hm
      ·have e2:1<=m:=(h5 m (a1.mem_iff.2 (List.mem_append_right _ hm))).1
       omega
      ·have e2:n'+1<=m:=(q5 m hm).1
       omega
    have hatD:At (fun m=>bif Nat.beq m 0 then none else H2 m) 24 (.op n' 0) (putL (.mk k t c ks) path (.mk rk rt rc rks)) keys3 [] w4:=hfin.frame (.inr ⟨n',rfl⟩) fun m hm=>by rw[zFh (hn0 m hm)]; rfl
    obtain⟨cs,hcs,hrd⟩:=hatD.rd;rcases zDF (sz:=4) (.inr ⟨n',rfl⟩) hcs with ⟨q,i,e,rows,h1,_⟩ | ⟨q,bt,h1,hbt⟩
    ·cases h1
    cases h1;refine zAh (Le.givePart [(6,.op 0 0),(8,.s (.pt (Nd.enc (putL (.mk k t c ks) path (.mk rk rt rc rks)))))] (fun m=>bif Nat.beq m 0 then none else H2 m) (fun m=>bif Nat.beq m 0 then H2 m else none) (fun m ob hm=>by
     cases e:Nat.beq m 0 with
     | true=>rw[e]at hm; cases hm
     | false=>rw[e]at hm; exact hm) (fun m ob hm=>by
     cases e:Nat.beq m 0 with
     | true=>rw[e]at hm; exact hm
     | false=>rw[e]at hm; cases hm) (fun m ob ob' h1 h2=>by
     cases e:Nat.beq m 0 with
     | true=>rw[e]at h1; cases h1
     | false=>rw[e]at h2; cases h2) ⟨.inl rfl,.inr (Rd.box (off:=0) hbt hrd.1 hrd.2),trivial⟩) ?_
    have hb0:0 ≠ zBD p1:=by
     rcases a4 with rfl | a4
     ·exact Ne.symm (hn0 n' (.inl rfl))
     ·exact Ne.symm (hn0 _ (.inr (hperm.mem_iff.2 (List.mem_append_left _ a4))))
    have g3:H2 0=some (.box 24 [.s (.int .i64 0),.s (.str []),.s (.int .i64 0),.nl 4]):=(hH2 0).trans ((zCq hb0).trans ((q2 0 (Nat.succ_pos n')).trans g0))
    clear hrd hcs hatD hfin hput
    generalize putL (.mk k t c ks) path (.mk rk rt rc rks)=T1 at *;obtain⟨k9,t9,c9,ks9⟩:=T1;obtain⟨b3,hb3,h⟩:=zAc h;refine zJ3 [(6,.op 0 0),(8,.s (.pt (Nd.enc (.mk k9 t9 c9 ks9))))] n2 ⟨rfl,rfl,trivial⟩ rfl fun H3 hH3=>?_
    have g4:H3 0=some (.box 24 [.s (.int .i64 0),.s (.str []),.s (.int .i64 0),.nl 4]):=(hH3 0).trans g3;refine zAa ?_;refine yAW ?_;refine⟨_,⟨f,_,_,hb3,rfl,rfl⟩,?_⟩
    show Tri ..;cases b3 with
    | false =>
     refine zA3 rfl (fun _=>?_) (fun h=>by cases h)
     obtain⟨rfl,rfl⟩:=Prod.mk.inj (Option.some.inj h)
     refine zAh (Le.forgetH [(6,.op 0 0)] H3 n2 ⟨rfl,trivial⟩ (fun _=>rfl) rfl) ?_;refine yAW ?_;refine zAg rfl rfl rfl rfl rfl rfl trivial ?_;refine zIk (sz:=4) (cs:=[.s (.int .i64 0),.s (.str []),.s (.int .i64 0),.nl 4]) (cs':=[.s (.int .i64 0),.s (.str []),.s (.int .i64 0),.nl 4]) (p:=.op 0 0) rfl rfl rfl rfl rfl (.inr ⟨0,rfl⟩) rfl (zFi (bt:=24) g4) rfl rfl rfl rfl rfl ?_;refine zAg rfl rfl rfl rfl rfl rfl trivial ?_;refine zAd ?_;unfold zDR
     refine⟨_,Le.refl _ _,(zJ9 (bt:=24) (cells:=[.s (.int .i64 0),.s (.str []),.s (.int .i64 0),.nl 4]) rfl ?_ rfl rfl rfl).trans rfl,rfl⟩
     show putC H3 (.op 0 0) _ 0=_;rw[zHr (bt:=24) (cs:=[.s (.int .i64 0),.s (.str []),.s (.int .i64 0),.nl 4]) g4]; rfl
    | true =>
     refine zA3 rfl (fun h=>by cases h) (fun _=>?_)
     obtain⟨rfl,rfl⟩:=Prod.mk.inj (Option.some.inj h)
     refine zAe ?_;refine zAh (Le.forgetH [(6,.op 0 0),(8,.s (.pt (Nd.enc (.mk k9 t9 c9 ks9))))] H3 n2 ⟨rfl,rfl,trivial⟩ (fun _=>rfl) rfl) ?_;refine yAW ?_;refine zAg rfl rfl rfl rfl rfl rfl trivial ?_;refine zIk (sz:=4) (cs:=[.s (.int .i64 0),.s (.str []),.s (.int .i64 0),.nl 4]) (cs':=zBr k9 t9 c9 (.s (.sl 4 (Nd.encs ks9)))) (p:=.op 0 0) rfl rfl rfl rfl rfl (.inr ⟨0,rfl⟩) rfl (zFi (bt:=24) g4) rfl rfl rfl rfl rfl ?_;refine zAg rfl rfl rfl rfl rfl rfl trivial ?_;refine zAd ?_;unfold zDR
     refine⟨_,Le.refl _ _,(zJ9 (bt:=24) (cells:=zBr k9 t9 c9 (.s (.sl 4 (Nd.encs ks9)))) rfl ?_ rfl rfl rfl).trans rfl,rfl⟩
     show putC H3 (.op 0 0) _ 0=_;rw[zHr (bt:=24) (cs:=[.s (.int .i64 0),.s (.str []),.s (.int .i64 0),.nl 4]) g4]; rfl
end Go.Proofs.YtgplhldfbkmmgaaGreat
namespace Go.Abs
theorem PSound.giveTop {P:Program}{f e sz:Nat}{R:List AV->(Nat->Option Ob)->Nat->(AV->(Nat->Option Ob)->Nat->Prop)->Prop}{S:List AV->List S->List (List S)->Prop} (h:PSound P f (zTs R))
  (hS:∀ xs cs rs,S xs cs rs->R xs (fun _=>none) 0 fun x hp n=>∃ q rows hpD,x = .agg (cs.map .s++[.orow q])/\hp q=some (.arow e sz rows)/\rows.length=rs.length/\(∀ r∈rs,r.length=sz)/\(∀ k ob,hpD k=some ob->hp k=some ob/\k ≠ q) /\
   ∀ (i:Nat) x s,rows.flatten[i]? = some x->rs.flatten[i]? = some s->Rd hpD x s) :
  PSound P f (zBI fun xs os x os'=>∃ cs rs,os=[]/\x = .agg (cs.map .s++[.orow 0])/\os'=[some (.row e sz rs)]/\S xs cs rs):=by
 refine PSound.ofOwn h.1 fun G w β xs vs os x os' hlt hgl hv hxl hob ⟨cs,rs,ho,hx,ho',hs⟩=>?_
 subst ho; subst hx; subst ho'
 refine(h.2.2.2 R rfl G w β xs vs (fun _=>none) 0 _ hlt hgl hv hxl ⟨fun k ob hk=>(by cases hk),fun k ob hk=>(by cases hk),fun k k' ob ob' hk=>(by cases hk)⟩ (hS xs cs rs hs)).mono ?_;rintro e' w' ⟨v,G',β',x,hp',n',rfl,⟨q,rows,hpD,rfl,hq,hlen,hsz,hD,hrd⟩,hn,hfr,hsub,hnew,hlt',hx,hxl,hob,hst⟩
 let c:Cx:=zGc P w β (fun _=>none) 0 G 0
 have hk:Keep G G' w w':=⟨hsub,fun b hb=>hfr.old b (hlt b hb) (by rintro⟨k,ob,h,_⟩; cases h)⟩
 have hc:Conc c G' β' ⟨fun _=>.junk,hpD,n'⟩ { tmps:=#[],defers:=[] } w':={
  defers:=rfl
  size:=rfl
  env:=fun t=>by simp only[AVal]
  envlt:=fun t=>rfl
  hp:=fun k ob hk=>hob.obs k ob (hD k ob hk).1
  hplt:=fun k ob hk=>hob.lts k ob (hD k ob hk).1
  inj:=fun k k' ob ob' hk hk'=>hob.inj k k' ob ob' (hD k ob hk).1 (hD k' ob' hk').1
  lt:=hlt'
  sub:=hsub
  new:=hnew
  fr:=hfr
  stay:=⟨hn,hst⟩
  glob:=hgl.keep hk }
 have hmine:∀ b,c.mine b->w.heap.size<=b:=fun b hb=>by
  rcases hb with ⟨k,ob,h,_⟩ | h
  ·cases h
  ·exact h
 have hk':Keep G' (allG G' β' hpD) w' w':=⟨fun _ h=>.inl h,fun _ _=>rfl⟩
 refine⟨v,allG G' β' hpD,fun _=>β' q,rfl,⟨hfr.os,hfr.tape,hfr.output,hfr.size,fun b hb _=>hfr.old b hb (by rintro⟨k,ob,h,_⟩; cases h)⟩,fun b hb=>.inl (hsub b hb),fun b hb=>?_,fun b hb=>?_,?_,?_,Nat.zero_le _,⟨fun i ob hi=>?_,fun i j ob ob' hi hj hne=>?_⟩,fun i ob hi=>absurd hi (Nat.not_lt_zero _)⟩
 ·rcases hb with hb | ⟨k,ob,h1,h2⟩
  ·exact(hnew b hb).imp id fun h=>.inr (hmine b h)
  ·exact .inr (.inr (hmine b (row_block (hc.hp k ob h1) b h2).2))
 ·rcases hb with hb | ⟨k,ob,h1,h2⟩
  ·exact hlt' b hb
  ·exact hc.blk_lt h1 h2
 ·simp only[AVal]at hx ⊢;obtain⟨us,rfl,hus⟩:=hx;refine⟨us,rfl,AVals.mk (by rw[hus.length]; simp) fun i y u hy hu=>?_⟩
  rw[List.getElem?_append]at hy
  by_cases hi:i<(cs.map AV.s).length
  ·rw[if_pos hi]at hy;obtain⟨u',hu',hr⟩:=hus.get (i:=i) (x:=y) (by rw[List.getElem?_append,if_pos hi]; exact hy)
   rw[hu]at hu'; cases hu'
   rw[List.getElem?_map]at hy;obtain⟨s,_,rfl⟩:=Option.map_eq_some_iff.1 hy;simp only[AVal]at hr ⊢;exact hr.keep hk'
  ·rw[if_neg hi]at hy;have h0:i - (cs.map AV.s).length=0 :=(by have:=(List.getElem?_eq_some_iff.1 hy).1; simpa using this);rw[h0]at hy;cases hy;obtain⟨u',hu',hr⟩:=hus.get (i:=i) (x:=.orow q) (by rw[List.getElem?_append,if_neg hi,h0]; rfl)
   rw[hu]at hu'; cases hu'
   simp only[AVal]at hr ⊢;exact hr
 ·simp only[AV.lt]
  refine zE0 fun i y hy=>?_
  rw[List.getElem?_append]at hy;split at hy
  ·rw[List.getElem?_map]at hy;obtain⟨s,_,rfl⟩:=Option.map_eq_some_iff.1 hy
   rfl
  ·rename_i hi
   have h0:i - (cs.map AV.s).length=0 :=(by have:=(List.getElem?_eq_some_iff.1 hy).1; simpa using this);rw[h0]at hy;cases hy
   rfl
 ·match i,hi with
  | 0,hi =>
   cases hi;refine⟨?_,rfl⟩
   obtain⟨hl,hz,ho⟩:=hob.obs q _ hq;refine⟨hsz,hz,?_⟩
   rcases ho with ⟨h1,rfl⟩ | ⟨b,cap,cur,h1,h2,h3,h4,h5,h6,h7⟩
   ·exact .inl ⟨h1,List.length_eq_zero_iff.1 (by simpa using hlen.symm)⟩
   ·refine .inr ⟨b,cap,cur,by rw[← hlen]; exact h1,by rw[← hlen]; exact h2,h3,h4,?_,.inr (hmine b h6),fun i s hi=>?_⟩
    ·rintro(hb | ⟨k,ob,g1,g2⟩)
     ·exact h5 hb
     ·exact hob.inj k q ob _ (hD k ob g1).1 hq (hD k ob g1).2 b g2 (by rw[h1]; rfl)
    ·have hfl:=zA4 hl;have hfs:=zA4 hsz;have hil:i<rows.flatten.length :=(by rw[hfl,hlen,← hfs]; exact(List.getElem?_eq_some_iff.1 hi).1);obtain⟨u,hu,hr',_⟩:=h7 i _ (List.getElem?_eq_getElem hil)
     exact⟨u,hu,(hrd i _ s (List.getElem?_eq_getElem hil) hi).rep hc hr'⟩
  | i+1,hi=>simp at hi
 ·match i,j,hi,hj with
  | 0,0,_,_=>exact absurd rfl hne
  | 0,j+1,_,hj=>simp at hj
  | i+1,_,hi,_=>simp at hi
end Go.Abs
namespace Go.Proofs.YtgplhldfbkmmgaaGreat
open Go.Abs
theorem VAt.rd {hp:Nat->Option Ob}{e:Nat}{v:AV}{ks:List Nd}{keys:List Nat} (h:VAt hp e v ks keys):Rd hp v (.sl 4 (Nd.encs ks)):=by
 rcases h with ⟨rfl,rfl,_⟩ | ⟨q,rows,keys',w,rfl,hq,hlen,rfl,h⟩
 ·exact .s _
 ·exact Rd.rows hq hlen fun j x hj=>(by have:=LAt.rd h j x hj; rwa [Nat.zero_add]at this)
def zWx (xs:List AV) (cs:List S) (rs:List (List S)):Prop:=∃ (a0:Nd) (k c:Int) (t:List UInt8) (ks:List Nd),zDu a0=some (.mk k t c ks)/\xs=[.agg ((Nd.enc a0).map .s)]/\cs=[.int .i64 k,.str t,.int .i64 c]/\rs=Nd.encs ks
theorem zO0:PSound Tryz.prog 53 (zBI fun xs os x os'=>∃ cs rs,os=[]/\x = .agg (cs.map .s++[.orow 0])/\os'=[some (.row 24 4 rs)]/\zWx xs cs rs):=by
 refine PSound.giveTop zIO fun xs cs rs ⟨⟨k0,t0,c0,ks0⟩,k,c,t,ks,hm,hx,hcs,hrs⟩=>?_
 subst hx; subst hcs; subst hrs
 obtain⟨⟨hq,hne⟩,hm⟩:=zAw hm;cases hm;refine⟨k0,c0,t0,ks0,hq,rfl,fun v hp' n' keys _ _ hv hnd _=>?_⟩
 rcases hv with ⟨rfl,_⟩ | ⟨q,rows,keys',w,rfl,hq,hlen,rfl,hl⟩
 ·exact absurd rfl hne
 refine⟨q,rows,fun k=>if k∈keys' then hp' k else none,rfl,hq,by rw[Nd.encs_eq,List.length_map]; exact hlen,fun r hr=>?_,fun k ob hk=>?_,zVo fun j r s hr hs=>?_⟩
 ·rw[Nd.encs_eq]at hr;obtain⟨x,_,rfl⟩:=List.mem_map.1 hr;cases x; rfl
 ·dsimp only at hk;split at hk
  ·rename_i hm
   exact⟨hk,fun e=>(List.nodup_cons.1 hnd).1 (by rw[← e]; exact hm)⟩
  ·cases hk
 ·rw[Nd.encs_eq,List.getElem?_map]at hs;cases hx:ks0[j]? with
  | none=>rw[hx]at hs; cases hs
  | some x =>
   rw[hx]at hs; cases hs
   obtain⟨keys0,rest,w0,hperm,hat,_⟩:=LAt.hole (i:=0) hl hnd hx;rw[Nat.zero_add]at hat;obtain⟨k2,t2,c2,ks2⟩:=x;obtain⟨v,hc,hv⟩:=hat.full;rw[zGM hq,hr]at hc;cases hc;exact RdC.node (VAt.rd (hv.frame fun k hk=>by
    show(if k∈keys' then hp' k else none)=hp' k;rw[if_pos (hperm.mem_iff.2 (List.mem_append_left _ hk))]))
def zN1 (xs:List AV) (os:List Ob) (x:AV) (os':List (Option Ob)):Prop:=∃ (a0:Nd) (y0:Nd),zDu a0=some y0/\xs=[.agg ((Nd.enc a0).map .s)]/\os=[]/\x = .agg (match y0 with | .mk k t c _=>[.s (.int .i64 k),.s (.str t),.s (.int .i64 c),.orow 0])/\os'=[some (.row 24 4 (match y0 with | .mk _ _ _ ks=>Nd.encs ks))]
def zG2:zAr:=zBI (fun xs os x os'=>zN1 xs os x os')
theorem zI6:PSound Tryz.prog 53 zG2 :=
 PSound.ofOwn zO0.1 fun G w β xs vs os x os' h1 h2 h3 h4 h5 ⟨a0,⟨k,t,c,ks⟩,hm,hx,ho,hr,ho'⟩ =>
  zO0.2.2.1 _ rfl G w β xs vs os x os' h1 h2 h3 h4 h5 ⟨[.int .i64 k,.str t,.int .i64 c],Nd.encs ks,ho,hr,ho',a0,k,c,t,ks,hm,hx,rfl,rfl⟩
end Go.Proofs.YtgplhldfbkmmgaaGreat
namespace Go.Proofs
open Go.RowKit Go.Lib
theorem Tryz.Grow_nil_sNode (w:World) :
  Calls Tryz.prog 206 #[.slice none 0 0,.int .i64 0] w fun e w'=>e = .returned (.slice none 0 0)/\w'=w:=by
 have h2:wrap64 0=0:=by unfold wrap64; omega
 go_enter Tryz.func206,Tryz.ntmps206
 go_wp2
 go_ret
 exact⟨rfl,rfl⟩
set_option maxHeartbeats 4000000 in
theorem Tryz.Grow_new_sNode (i0:TypeInfo) (z:Value) (hi0:Tryz.prog.info? 24=some i0) (hz0:i0.zero=some z) (hs0:0<i0.size)
  (n:Nat) (w:World) (hroom:0<n) (hbig:n * i0.bytes<=140737488355328) (h63:n<=4611686018427387904) :
  Calls Tryz.prog 206 #[.slice none 0 0,.int .i64 n] w fun e w' =>
   e = .returned (.slice (some ⟨w.heap.size,0,none⟩) 0 (grownCap w n 0 24)) /\
   w'=w.drew.alloc (.cells (#[]++Builtin.zeroCells z.cells n++Builtin.zeroCells z.cells (grownCap w n 0 24 - n)) 24):=by
 have h1:¬ ((n:Int)<0) :=(by omega);have h2:wrap64 0=0 :=(by unfold wrap64; omega);have h3:wrap64 (n:Int)=(n:Int) :=(by unfold wrap64; omega);have h4:(n:Int) > 0 :=(by omega);have hold:(Builtin.firstCells i0.size 0 (.slice none 0 0)).run Tryz.prog w.drew = .ok ([]:List Value).toArray w.drew:=run_firstCells_none w.drew i0.size 0 0 0;have hrz:∀ ty,(Builtin.append_ #[22,3] ty #[.slice none 0 0,.int .i64 (n:Int)]).run Tryz.prog w =
   .ok (.slice (some ⟨w.heap.size,0,none⟩) n (grownCap w n 0 24)) (w.drew.alloc (.cells (#[]++Builtin.zeroCells z.cells n++Builtin.zeroCells z.cells (grownCap w n 0 24 - n)) 24)):=fun ty=>by
  have h:=Lib.run_append_grow_zeros w 22 3 ty 24 i0 z .i64 .i64 Tryz.underlying22 Tryz.underlying3 hi0 hz0 none 0 0 [] hold n (by omega) hs0 (by omega) (by omega) (by omega)
   (by rw[Nat.zero_add]; exact growslice_fits hroom hbig)
  rw[Nat.zero_add]at h;exact h
 have hGn:n<=grownCap w n 0 24:=grownCap_ge w _ _ _;obtain⟨G,hG⟩:∃ G,G=grownCap w n 0 24:=⟨_,rfl⟩
 rw[← hG]at hrz hGn ⊢;have hG63:G<=9223372036854775807:=by
  have:=grownCap_le_maxLen w n 0 24 (by unfold maxLen; omega)
  rw[← hG]at this;unfold maxLen at this
  omega
 clear hold hG
 go_enter Tryz.func206,Tryz.ntmps206
 go_wp2_with (at_builtin; refine Lib.wpList_append_run _ rfl _ _ _ _ rfl _ _ rfl rfl _ _ (hrz _) ?_)
 all_goals (go_ret; exact⟨rfl,rfl⟩)
end Go.Proofs
namespace Go.Proofs.YtgplhldfbkmmgaaGreat
open Go.Abs
theorem yAl (z:Array Value) (n:Nat):(Builtin.zeroCells z n).size=n * z.size:=by simp[Builtin.zeroCells]
def zK0 (xs:List AV) (r:Ret):Prop:=∃ (a0:Int) (y0:List Nd),zFb a0=some y0/\xs=[.nl 4,.s (.int .i64 a0)]/\r = .row 24 4 (Nd.encs y0)
def zG8:zAr:=yAT fun xs r=>zK0 xs r
theorem zKp:PSound Tryz.prog 206 zG8 :=
 ⟨Tryz.call206,fun G w xs vs r hl hg _ hv ⟨a0,y0,hm,hx,hr⟩=>by
  subst hx; subst hr
  obtain⟨⟨q1,q2⟩,hm⟩:=zAw hm;obtain rfl:=Option.some.inj hm;obtain⟨n,rfl⟩:=Int.eq_ofNat_of_zero_le q1;simp only[AVals,AVal,Rep]at hv;obtain⟨_,_,rfl,rfl,_,_,rfl,rfl,rfl⟩:=hv
  by_cases h0:n=0
  ·subst h0;exact(Tryz.Grow_nil_sNode w).mono fun e w' ⟨h1,h2⟩=>by
    subst h2;exact⟨_,G,h1,Ext.refl hl,fun r hr=>(by cases hr),by decide,.inl ⟨rfl,rfl⟩⟩
  obtain⟨d,info,z,b1,b2,b3,b4,b5,b6,b7,b8,b9,b10⟩:=tokW 24 _ rfl;have i1:info.size=4:=b4;have i2:info.bytes=56:=b5;have hzs:z.cells.size=4:=zMp b7 b8 b9;refine(Tryz.Grow_new_sNode info z b3 b6 (by omega) n w (by omega) (by rw[i2]; omega) (by omega)).mono fun e w' ⟨h1,h2⟩=>?_
  have hge:n<=grownCap w n 0 24 :=(by unfold grownCap Question.cut; simp);generalize grownCap w n 0 24=g at *;refine⟨_,G,h1,?_,fun r hr=>(by cases hr),by decide,.inr ⟨w.heap.size,g,#[]++Builtin.zeroCells z.cells n++Builtin.zeroCells z.cells (g - n),rfl,Nat.zero_le _,?_,by rw[h2]; exact RowBlk.laid (zEx w.drew _),fun h=>Nat.lt_irrefl _ (hl _ h),Nat.le_refl _,fun i s hi=>by cases hi⟩⟩
  ·rw[h2]
   exact(Ext.drew hl).trans (Ext.own (w:=w.drew) hl _)
  ·simp only[Array.size_append,Array.size_empty,yAl,hzs]
   omega,
 fun R hR=>(by cases hR),fun R hR=>(by cases hR)⟩
def zKj (xs:List AV) (r:Ret):Prop:=∃ (a0:List Nd) (y0:List Nd),zEQ a0=some y0/\xs=[.s (.sl 4 (Nd.encs a0))]/\r = .val (.s (.sl 4 (Nd.encs y0)))
def zGA:zAr:=zAq fun xs r=>zKj xs r
theorem zJS:PSound Tryz.prog 199 zGA:=by
 have gok:=@gok0 Tryz.prog;refine zAs tokW Tryz.call199 Tryz.func199 rfl (fun xs r h=>by obtain⟨_,_,_,rfl,_⟩:=h; show 1<=_; decide) _ rfl ?_;rintro xs r w0 G0 ⟨l,y,h,rfl,rfl⟩ _;obtain⟨hq,h⟩:=zAw h;obtain rfl:=Option.some.inj h;have hlen:(Nd.encs l).length=l.length:=rlen Nd.encs_eq l;refine yAW ?_;refine zAa ?_;refine yAW ?_;intro b hb;show Tri ..;cases b with
 | true =>
  have hl:=hb rfl;refine zA3 rfl (fun _=>?_) (fun h=>by cases h)
  refine yAW ?_;refine zAd ?_;unfold zDR;exact⟨_,Le.refl _ _,congrArg (fun z=>some (AV.s (.sl 4 z))) hl.symm,rfl⟩
 | false =>
  refine zA3 rfl (fun h=>by cases h) (fun _=>?_)
  refine zAe ?_;refine yAh [5,7] [] rfl ?_;refine And.intro (show(([]:List (List S)).length+(Nd.encs l).length) * 56<=140737488355328/\([]:List (List S)).length+(Nd.encs l).length<=9223372036854775807 from by rw[hlen]; simp only[List.length_nil]; omega) ?_;refine zAd ?_;unfold zDR;exact⟨_,Le.giveRow 1 (e:=24) (sz:=4) (rows:=Nd.encs l) rfl,rfl,rfl⟩
def zAP (p:List Nd):List S:=[.sl 4 (Nd.encs p)]
def zJj (n:Nat) (xs:List AV) (r:Ret):Prop:=∃ (a0:List (List Nd)) (y0:List Nd),zCl n a0=some y0/\xs=[.s (.sl 1 ((List.map zAP) a0))]/\r = .row 24 4 (Nd.encs y0)
def zF9:zAr:=zAq fun xs r=>∃ n,zJj n xs r
theorem yAI {α:Type}{a b:α} (h:a=b:=by simp[List.map_append,List.map_take,List.map_drop,irow,brow,zEa,List.map_cons,List.map_nil,zDr,Nd.encs_eq,Nd.enc,CV.encs_eq,CV.enc,zBf,zAR,zBT,zAP]):a=b :=
 h
theorem zJd:PSound Tryz.prog 202 zF9:=by
 have gok:∀ f s,look? f [(206,zG8)]=some s->PSound Tryz.prog f s:=zAm (by
  simp only[List.forall_mem_cons]
  exact⟨zKp,by simp⟩)
 refine zAs tokW Tryz.call202 Tryz.func202 rfl (fun xs r h=>by obtain⟨n,_,_,_,rfl,_⟩:=h; show 1<=36; decide) 36 rfl ?_;rintro xs r w0 G0 ⟨n,slices1,y0,h,rfl,rfl⟩ _;rw[zCl]at h;refine yAh [2] [] rfl ?_;refine zAh (Le.rnm [] [(0,.s (.sl 1 ((List.map zAP) slices1)))] [] 0 ⟨rfl,trivial⟩ trivial) ?_;refine yAW ?_;refine zAa ?_;refine yAh [] [10] rfl ?_;intro n2 hn2;obtain rfl:(slices1.length:Int)=n2:=(hn2.trans (congrArg (fun m:Nat=>(m:Int)) (rlen (fun _=>rfl) slices1))).symm;show Tri ..
 obtain⟨size5,hl,h⟩:=zAc h;refine zAl ⟨ofL [(0,.s (.sl 1 ((List.map zAP) slices1))),(3,.s (.int .i64 size5))],fun _=>none,0⟩ ?_ (fun σ' hle=>?_)
 ·refine zAi (zAt (X:=Nat×Int×Int) (fun y=>match y with | (k,x3,size4)=>⟨ofL [(0,.s (.sl 1 ((List.map zAP) slices1))),(3,.s (.int .i64 size4)),(9,.s (.sl 1 ((List.map zAP) slices1))),(10,.s (.int .i64 (slices1.length:Int))),(11,.s (.int .i64 x3))],fun _=>none,0⟩) (fun y=>zA5 slices1 y.1 y.2.1 y.2.2=some size5) (fun y=>y.1) (n,0,0) hl ?_ ?_)
  ·exact(Le.forget _ ⟨rfl,rfl,rfl,rfl,rfl,trivial⟩)
  ·rintro⟨k,x3,size4⟩ h;cases k with
   | zero=>cases h
   | succ k =>
    replace h:zA5 slices1 (k+1) x3 size4=some size5:=h;rw[zA5]at h;refine yAW ?_;refine zAa ?_;refine zAf rfl h (fun hb h=>?_) (fun hb h=>?_)
    ·refine zAe ?_;refine zAa ?_;refine zAi ?_;refine yAh [] [13] rfl ?_;obtain⟨e6,he6,h⟩:=zAc h;refine And.intro (zAn (fun _=>rfl) he6).1 ?_;intro r7 hr7;obtain rfl:[.sl 4 (Nd.encs e6)]=r7:=(hr7.trans (zAn (fun _=>rfl) he6).2.1).symm;refine yAh [] [17] rfl ?_;intro n8 hn8;obtain rfl:(e6.length:Int)=n8:=(hn8.trans (congrArg (fun m:Nat=>(m:Int)) (rlen Nd.encs_eq e6))).symm;refine yAW ?_;refine zAf rfl h (fun hb h=>?_) (fun hb h=>?_)
     ·cases h
     ·refine zAe ?_;refine yAV ?_;refine⟨(k,IntKind.i64.wrap (x3+1),IntKind.i64.wrap (size4+(e6.length:Int))),h,(Le.forget _ ⟨rfl,rfl,rfl,rfl,rfl,trivial⟩),Nat.lt_succ_self k⟩
    ·refine zAy ?_;cases h;exact(Le.forget _ ⟨rfl,rfl,trivial⟩)
 ·refine zAh hle ?_;refine yAh [24] [] rfl ?_;obtain⟨y9,hy9,h⟩:=zAc h;refine⟨_,⟨_,_,hy9,rfl,rfl⟩,?_⟩
  refine zAa ?_;refine yAh [] [26] rfl ?_;intro n10 hn10;obtain rfl:(slices1.length:Int)=n10:=(hn10.trans (congrArg (fun m:Nat=>(m:Int)) (rlen (fun _=>rfl) slices1))).symm;show Tri ..;obtain⟨l14,hl,h⟩:=zAc h;refine zAl ⟨ofL [(6,.orow 0)],ofH [(0,.row 24 4 (Nd.encs l14))],1⟩ ?_ (fun σ' hle=>?_)
  ·refine zAi (zAt (X:=Nat×Int×(List Nd)) (fun y=>match y with | (k,x11,l13)=>⟨ofL [(6,.orow 0),(25,.s (.sl 1 ((List.map zAP) slices1))),(26,.s (.int .i64 (slices1.length:Int))),(27,.s (.int .i64 x11))],ofH [(0,.row 24 4 (Nd.encs l13))],1⟩) (fun y=>zA6 slices1 y.1 y.2.1 y.2.2=some l14) (fun y=>y.1) (n,0,y9) hl ?_ ?_)
   ·exact(Le.rnm [(0,0)] _ _ _ ⟨rfl,rfl,rfl,rfl,trivial⟩ ⟨rfl,⟨_,rfl,rfl⟩,trivial⟩)
   ·rintro⟨k,x11,l13⟩ h;cases k with
    | zero=>cases h
    | succ k =>
     replace h:zA6 slices1 (k+1) x11 l13=some l14:=h;rw[zA6]at h;refine yAW ?_;refine zAa ?_;refine zAf rfl h (fun hb h=>?_) (fun hb h=>?_)
     ·refine zAe ?_;refine zAa ?_;refine zAi ?_;refine yAh [] [29] rfl ?_;obtain⟨e15,he15,h⟩:=zAc h;refine And.intro (zAn (fun _=>rfl) he15).1 ?_;intro r16 hr16;obtain rfl:[.sl 4 (Nd.encs e15)]=r16:=(hr16.trans (zAn (fun _=>rfl) he15).2.1).symm;refine zAb [33] [] rfl ?_;obtain⟨hq,h⟩:=zAw h;refine And.intro (show((Nd.encs l13).length+(Nd.encs e15).length) * 56<=140737488355328/\(Nd.encs l13).length+(Nd.encs e15).length<=9223372036854775807 from by simp only[List.length_append,List.length_cons,List.length_nil,List.length_map,rlen Nd.encs_eq]at hq ⊢; omega) ?_
      refine zAh (Le.rnm [(1,0)] [(6,.orow 0),(25,.s (.sl 1 ((List.map zAP) slices1))),(26,.s (.int .i64 (slices1.length:Int))),(27,.s (.int .i64 x11))] [(0,.row 24 4 (Nd.encs (l13++e15)))] 1 ⟨rfl,rfl,rfl,rfl,trivial⟩ ⟨rfl,⟨_,rfl,congrArg (Ob.row 24 4) yAI⟩,trivial⟩) ?_;refine yAV ?_
      refine⟨(k,IntKind.i64.wrap (x11+1),l13++e15),h,(Le.rnm [(0,0)] _ _ _ ⟨rfl,rfl,rfl,rfl,trivial⟩ ⟨rfl,⟨_,rfl,rfl⟩,trivial⟩),Nat.lt_succ_self k⟩
     ·refine zAy ?_;cases h;exact(Le.rnm [(0,0)] _ _ _ ⟨rfl,trivial⟩ ⟨rfl,⟨_,rfl,rfl⟩,trivial⟩)
  ·refine zAh hle ?_;refine yAW ?_;refine zAd ?_;have hy:=osi h;subst hy;unfold zDR;exact⟨_,Le.refl _ _,0,rfl,rfl⟩
def zAI (p:(zO8×List Nd)):List S:=[.int .i64 p.1.1,.sl 1 ((List.map (irow .i64)) p.1.2.1),.int .i64 p.1.2.2.1,.int .i64 p.1.2.2.2.1,.sl 4 (Nd.encs p.1.2.2.2.2.1),.int .i64 p.1.2.2.2.2.2.1,.str p.1.2.2.2.2.2.2.1,.str p.1.2.2.2.2.2.2.2,.sl 4 (Nd.encs p.2)]
def zLx (n:Nat) (xs:List AV) (r:Ret):Prop:=∃ (a0:(zO8×List Nd)) (a1:Int) (a2:List Nd) (y0:List Nd),zBa n a0 a1 a2=some y0/\xs=[.agg ((zAI a0).map .s),.s (.int .i64 a1),.s (.sl 4 (Nd.encs a2))]/\r = .val (.s (.sl 4 (Nd.encs y0)))
def zCn:zAr:=zAq fun xs r=>∃ n,zLx n xs r
theorem zCT:PSound Tryz.prog 196 zCn:=by
 have gok:∀ f s,look? f [(202,zF9)]=some s->PSound Tryz.prog f s:=zAm (by
  simp only[List.forall_mem_cons]
  exact⟨zJd,by simp⟩)
 refine zAs tokW Tryz.call196 Tryz.func196 rfl (fun xs r h=>by obtain⟨n,_,_,_,_,_,rfl,_⟩:=h; show 3<=24; decide) 24 rfl ?_;rintro xs r w0 G0 ⟨n,⟨⟨c1Ac,c1Ag,c1N,c1Ad,c1Aa,c1Ab,c1Af,c1Ae⟩,c1O⟩,n2,nodes3,y0,h,rfl,rfl⟩ _;rw[zBa]at h;refine yAW ?_;refine zAa ?_;refine zAK [] [12,21,22] [] rfl (by decide +kernel) ?_;obtain⟨hq,h⟩:=zAw h;refine And.intro ⟨hq.1,hq.2.1,Int.le_trans hq.2.2 (Int.ofNat_le.2 (Nat.le_of_eq (rlen Nd.encs_eq _).symm))⟩ ?_;intro r4 hr4
 obtain rfl:Nd.encs ((c1O.take c1N.toNat).drop (0:Int).toNat)=r4:=(hr4.trans (rcut Nd.encs_eq _ _ _)).symm;obtain⟨hq,h⟩:=zAw h;refine And.intro ⟨hq.1,Int.le_trans hq.2.1 (Int.ofNat_le.2 (Nat.le_of_eq (rlen Nd.encs_eq _).symm)),Int.le_refl _⟩ ?_;intro r5 hr5;obtain rfl:Nd.encs ((c1O.take (c1O.length:Int).toNat).drop (IntKind.i64.wrap (c1N+n2)).toNat)=r5:=(hr5.trans ((congrArg (fun m:Nat=>((Nd.encs c1O).take m).drop (IntKind.i64.wrap (c1N+n2)).toNat) (rlen Nd.encs_eq _)).trans (rcut Nd.encs_eq _ _ _))).symm;intro r6 hr6
 obtain rfl:(List.map zAP) [(c1O.take c1N.toNat).drop (0:Int).toNat,nodes3,(c1O.take (c1O.length:Int).toNat).drop (IntKind.i64.wrap (c1N+n2)).toNat]=r6:=(hr6.trans yAI).symm;obtain⟨y7,hy7,h⟩:=zAc h;refine⟨_,⟨_,_,_,hy7,rfl,rfl⟩,?_⟩
 refine zAd ?_;have hy:=osi h;subst hy;exact fin0 rfl rfl
def zFf (n:Nat) (xs:List AV) (r:Ret):Prop:=∃ (a0:Nd) (a1:Nd) (y0:Bool),zCE n a0 a1=some y0/\xs=[.agg ((Nd.enc a0).map .s),.agg ((Nd.enc a1).map .s)]/\r = .val (.s (.bool y0))
def zBl (n:Nat) (xs:List AV) (r:Ret):Prop:=∃ (a0:List Nd) (a1:List Nd) (y0:Bool),zA7 n a0 a1=some y0/\xs=[.s (.sl 4 (Nd.encs a0)),.s (.sl 4 (Nd.encs a1)),.s (.fn 198)]/\r = .val (.s (.bool y0))
theorem zPy (n:Nat) (ih_node_Equal:PSound Tryz.prog 198 (zAq (zFf n))) (ih_slices_EqualFunc_sNode:PSound Tryz.prog 197 (zAq (zBl n))):PSound Tryz.prog 198 (zAq (zFf (n+1))):=by
 have gok:∀ f s,look? f [(197,zAq (zBl n))]=some s->PSound Tryz.prog f s:=zAm (by
  simp only[List.forall_mem_cons]
  exact⟨ih_slices_EqualFunc_sNode,by simp⟩)
 refine zAs tokW Tryz.call198 Tryz.func198 rfl (fun xs r h=>by obtain⟨_,_,_,_,rfl,_⟩:=h; show 2<=31; decide) 31 rfl ?_;rintro xs r w0 G0 ⟨⟨a1A,a1B,a1F,a1E⟩,⟨b2A,b2B,b2F,b2E⟩,y0,h,rfl,rfl⟩ _;rw[zCE]at h;refine yAW ?_;refine zAa ?_;obtain⟨x3,hj,h⟩:=zAc h;refine zAl ⟨ofL [(4,.s (.bool x3))],fun _=>none,0⟩ ?_ (fun σ' hle=>?_)
 ·replace h:=hj;refine zAb [] [10,17,24] rfl ?_;intro b hb;cases b with
  | true =>
   replace h:=zAv hb.symm h;intro b hb;cases b with
   | true =>
    replace h:=zAv hb.symm h;intro b hb;cases b with
    | true =>
     replace h:=zAv hb.symm h;obtain⟨y4,hy4,h⟩:=zAc h;refine⟨_,⟨_,_,_,hy4,rfl,rfl⟩,?_⟩
     cases h;exact(Le.forget _ ⟨rfl,trivial⟩)
    | false =>
     replace h:=zAu hb.symm h;cases h;exact(Le.forget _ ⟨rfl,trivial⟩)
   | false =>
    replace h:=zAu hb.symm h;intro b hb;subst hb;cases h;exact(Le.forget _ ⟨rfl,trivial⟩)
  | false =>
   replace h:=zAu hb.symm h;intro b hb;subst hb;intro b hb;subst hb;cases h;exact(Le.forget _ ⟨rfl,trivial⟩)
 ·refine zAh hle ?_;refine zAd ?_;have hy:=osi h;subst hy;exact fin0 rfl rfl
theorem zHu (n:Nat) (ih_node_Equal:PSound Tryz.prog 198 (zAq (zFf n))) (ih_slices_EqualFunc_sNode:PSound Tryz.prog 197 (zAq (zBl n))):PSound Tryz.prog 197 (zAq (zBl (n+1))):=by
 have gok:∀ f s,look? f [(198,zAq (zFf n))]=some s->PSound Tryz.prog f s:=zAm (by
  simp only[List.forall_mem_cons]
  exact⟨ih_node_Equal,by simp⟩)
 refine zAs tokW Tryz.call197 Tryz.func197 rfl (fun xs r h=>by obtain⟨_,_,_,_,rfl,_⟩:=h; show 3<=32; decide) 32 rfl ?_;rintro xs r w0 G0 ⟨s11,s22,y0,h,rfl,rfl⟩ _;rw[zA7]at h;refine yAW ?_;refine zAa ?_;refine yAh [] [11,13] rfl ?_;intro n3 hn3;obtain rfl:(s11.length:Int)=n3:=(hn3.trans (congrArg (fun m:Nat=>(m:Int)) (rlen Nd.encs_eq s11))).symm;intro n4 hn4;obtain rfl:(s22.length:Int)=n4:=(hn4.trans (congrArg (fun m:Nat=>(m:Int)) (rlen Nd.encs_eq s22))).symm;refine zAf rfl h (fun hb h=>?_) (fun hb h=>?_)
 ·refine yAW ?_;refine zAd ?_;have hy:=osi h;subst hy;exact fin0 rfl rfl
 ·refine zAe ?_;refine zAa ?_;refine yAh [] [16] rfl ?_;intro n5 hn5;obtain rfl:(s11.length:Int)=n5:=(hn5.trans (congrArg (fun m:Nat=>(m:Int)) (rlen Nd.encs_eq s11))).symm;show Tri ..;obtain⟨fl,hl,ho1⟩:=zAc h;refine zBA (fl:=fl) (fun z=>match z with | _=>⟨ofL [],fun _=>none,0⟩) ?_ (fun z σ' hz hle=>?_)
  ·refine zAi (zAt (X:=Nat×Int) (fun y=>match y with | (k,x6)=>⟨ofL [(1,.s (.sl 4 (Nd.encs s22))),(2,.s (.fn 198)),(15,.s (.sl 4 (Nd.encs s11))),(16,.s (.int .i64 (s11.length:Int))),(17,.s (.int .i64 x6))],fun _=>none,0⟩) (fun y=>zAS (zCE n) s11 s22 y.1 y.2=some fl) (fun y=>y.1) (n,0) hl ?_ ?_)
   ·exact(Le.forget _ ⟨rfl,rfl,rfl,rfl,rfl,trivial⟩)
   ·rintro⟨k,x6⟩ h;cases k with
    | zero=>cases h
    | succ k =>
     replace h:zAS (zCE n) s11 s22 (k+1) x6=some fl:=h;rw[zAS]at h;refine yAW ?_;refine zAa ?_;refine zAf rfl h (fun hb h=>?_) (fun hb h=>?_)
     ·refine zAe ?_;refine zAa ?_;refine zAi ?_;refine yAh [8] [20] rfl ?_;obtain⟨⟨e7A,e7B,e7F,e7E⟩,he7,h⟩:=zAc h;refine And.intro (zAn Nd.encs_eq he7).1 ?_;intro r8 hr8;obtain rfl:[.int .i64 e7A,.str e7B,.int .i64 e7F,.sl 4 (Nd.encs e7E)]=r8:=(hr8.trans (zAn Nd.encs_eq he7).2.1).symm;refine zAh (Le.giveBox 0 [.int .i64 e7A,.str e7B,.int .i64 e7F,.sl 4 (Nd.encs e7E)] rfl rfl) ?_;refine yAh [9] [24] rfl ?_;obtain⟨⟨e9A,e9B,e9F,e9E⟩,he9,h⟩:=zAc h;refine And.intro (zAn Nd.encs_eq he9).1 ?_
      intro r10 hr10;obtain rfl:[.int .i64 e9A,.str e9B,.int .i64 e9F,.sl 4 (Nd.encs e9E)]=r10:=(hr10.trans (zAn Nd.encs_eq he9).2.1).symm;refine zAh (Le.giveBox 1 [.int .i64 e9A,.str e9B,.int .i64 e9F,.sl 4 (Nd.encs e9E)] rfl rfl) ?_;refine yAW ?_;obtain⟨y11,hy11,h⟩:=zAc h;refine⟨_,⟨_,_,_,hy11,rfl,rfl⟩,?_⟩
      refine zAf rfl h (fun hb h=>?_) (fun hb h=>?_)
      ·refine yAW ?_;refine zAd ?_;cases h;replace h:some _=some _:=ho1;have hy:=osi h;subst hy;exact fin0 rfl rfl
      ·refine zAe ?_;refine yAV ?_;refine⟨(k,IntKind.i64.wrap (x6+1)),h,(Le.rnm [] _ [] 0 ⟨rfl,rfl,rfl,rfl,rfl,trivial⟩ trivial),Nat.lt_succ_self k⟩
     ·refine zAy ?_;cases h;exact⟨_,rfl,(Le.forget _ trivial)⟩
  ·subst hz;obtain _:=z;replace h:=ho1;refine zAh hle ?_;refine yAW ?_;refine zAd ?_;have hy:=osi h;subst hy;exact fin0 rfl rfl
theorem zJr:∀ n,PSound Tryz.prog 198 (zAq (zFf n))/\PSound Tryz.prog 197 (zAq (zBl n)):=by
 intro n
 induction n with
 | zero =>
  refine⟨?_,?_⟩
  ·exact zBo Tryz.call198 (fun xs r h=>by obtain⟨_,_,_,h,_⟩:=h; rw[zCE]at h; cases h)
  ·exact zBo Tryz.call197 (fun xs r h=>by obtain⟨_,_,_,h,_⟩:=h; rw[zA7]at h; cases h)
 | succ n ih =>
  obtain⟨ih_node_Equal,ih_slices_EqualFunc_sNode⟩:=ih;exact⟨zPy n ih_node_Equal ih_slices_EqualFunc_sNode,zHu n ih_node_Equal ih_slices_EqualFunc_sNode⟩
def zM1:zAr:=zAq fun xs r=>∃ n,zFf n xs r
theorem zRW:PSound Tryz.prog 198 zM1:=zBH (fun n=>(zJr n).1)
def zFg:zAr:=zAq fun xs r=>∃ n,zBl n xs r
theorem zH5:PSound Tryz.prog 197 zFg:=zBH (fun n=>(zJr n).2)
def zHR (n:Nat) (xs:List AV) (r:Ret):Prop:=∃ (a0:(zO8×List Nd)) (y0:List Nd) (y1:Int),zBB n a0=some (y0,y1)/\xs=[.agg ((zAI a0).map .s)]/\r = .val (.tup [.s (.sl 4 (Nd.encs y0)),.s (.int .i64 y1)])
def zHU:zAr:=zAq fun xs r=>∃ n,zHR n xs r
theorem zHy:PSound Tryz.prog 183 zHU:=by
 have gok:∀ f s,look? f [(53,zG2),(195,zHG),(198,zM1),(196,zCn)]=some s->PSound Tryz.prog f s:=zAm (by
  simp only[List.forall_mem_cons]
  exact⟨zI6,zIW,zRW,zCT,by simp⟩)
 refine zAs tokW Tryz.call183 Tryz.func183 rfl (fun xs r h=>by obtain⟨n,_,_,_,_,rfl,_⟩:=h; show 1<=54; decide) 54 rfl ?_;rintro xs r w0 G0 ⟨n,⟨⟨c1Ac,c1Ag,c1N,c1Ad,c1Aa,c1Ab,c1Af,c1Ae⟩,c1O⟩,y0,y1,h,rfl,rfl⟩ _;rw[zBB]at h;refine yAW ?_;refine yAh [4] [11] rfl ?_;obtain⟨⟨e2A,e2B,e2F,e2E⟩,he2,h⟩:=zAc h;refine And.intro (zAn Nd.encs_eq he2).1 ?_;intro r3 hr3
 obtain rfl:[.int .i64 e2A,.str e2B,.int .i64 e2F,.sl 4 (Nd.encs e2E)]=r3:=(hr3.trans (zAn Nd.encs_eq he2).2.1).symm;obtain⟨⟨y4A,y4B,y4F,y4E⟩,hy4,h⟩:=zAc h;refine⟨_,_,⟨_,_,hy4,rfl,rfl,rfl,rfl⟩,?_⟩
 refine zAa ?_;refine zAa ?_;refine zAK [] [] [3,4] rfl (by decide +kernel) ?_;obtain⟨y5,hy5,h⟩:=zAc h;refine⟨_,⟨_,_,hy5,rfl,rfl⟩,?_⟩
 refine zAf rfl h (fun hb h=>?_) (fun hb h=>?_)
 ·refine yAW ?_;refine zAd ?_;obtain⟨hj1,hk1⟩:=pij h;subst hj1 hk1;exact fin0 rfl rfl
 ·refine zAe ?_;refine yAW ?_;obtain⟨⟨e6A,e6B,e6F,e6E⟩,he6,h⟩:=zAc h;refine And.intro (zAn Nd.encs_eq he6).1 ?_;refine And.intro (zAn Nd.encs_eq he6).2.2 ?_;refine⟨_,(zAn Nd.encs_eq he6).2.1,?_⟩
  refine yAW ?_;obtain⟨⟨e7A,e7B,e7F,e7E⟩,he7,h⟩:=zAc h;refine And.intro (zAn Nd.encs_eq he7).1 ?_;have hset8:=(rset (R:=Nd.encs) (f:=Nd.enc) Nd.encs_eq he7 (Nd.mk e7A e7B e7F []) 3 4 [.sl 4 (Nd.encs [])] rfl)
  have hat8:=at_set he7 (Nd.mk e7A e7B e7F [])
  refine And.intro (zAn Nd.encs_eq he7).2.2 ?_;refine zAh (Le.rnm [(1,0),(0,1)] [(1,.s (.pt [.int .i64 c1Ac,.sl 1 ((List.map (irow .i64)) c1Ag),.int .i64 c1N,.int .i64 c1Ad,.sl 4 (Nd.encs c1Aa),.int .i64 c1Ab,.str c1Af,.str c1Ae,.sl 4 (Nd.encs c1O)])),(4,.op 0 0),(5,.s (.sl 4 (Nd.encs e6E)))] [(0,.box 24 [.s (.int .i64 y4A),.s (.str y4B),.s (.int .i64 y4F),.orow 1]),(1,.row 24 4 (Nd.encs (y4E.set c1Ab.toNat (Nd.mk e7A e7B e7F []))))] 2 ⟨rfl,rfl,rfl,trivial⟩ ⟨rfl,⟨_,rfl,rfl⟩,rfl,⟨_,rfl,congrArg (Ob.row 24 4) hset8⟩,trivial⟩) ?_;refine zAa ?_
  refine zAa ?_;obtain⟨x9,hj,h⟩:=zAc h;refine zAl ⟨ofL [(1,.s (.pt [.int .i64 c1Ac,.sl 1 ((List.map (irow .i64)) c1Ag),.int .i64 c1N,.int .i64 c1Ad,.sl 4 (Nd.encs c1Aa),.int .i64 c1Ab,.str c1Af,.str c1Ae,.sl 4 (Nd.encs c1O)])),(5,.s (.sl 4 (Nd.encs e6E))),(50,.s (.bool x9))],fun _=>none,0⟩ ?_ (fun σ' hle=>?_)
  ·replace h:=hj;refine zAK [] [36,41,46] [7,13] rfl (by decide +kernel) ?_;intro n10 hn10;obtain rfl:(e6E.length:Int)=n10:=(hn10.trans (congrArg (fun m:Nat=>(m:Int)) (rlen Nd.encs_eq e6E))).symm;intro b hb;cases b with
   | true =>
    replace h:=zAv hb.symm h;cases h;exact(Le.rnm [] _ [] 0 ⟨rfl,rfl,rfl,trivial⟩ trivial)
   | false =>
    replace h:=zAu hb.symm h;obtain⟨⟨e11A,e11B,e11F,e11E⟩,he11,h⟩:=zAc h;refine And.intro (zAn Nd.encs_eq he11).1 ?_;intro r12 hr12;obtain rfl:[.int .i64 e11A,.str e11B,.int .i64 e11F,.sl 4 (Nd.encs e11E)]=r12:=(hr12.trans (zAn Nd.encs_eq he11).2.1).symm;obtain⟨y13,hy13,h⟩:=zAc h;refine⟨_,⟨_,_,_,_,hy13,rfl,rfl⟩,?_⟩
    cases h;exact(Le.rnm [] _ [] 0 ⟨rfl,rfl,rfl,trivial⟩ trivial)
  ·refine zAh hle ?_;refine zAf rfl h (fun hb h=>?_) (fun hb h=>?_)
   ·refine yAW ?_;refine zAd ?_;obtain⟨hj1,hk1⟩:=pij h;subst hj1 hk1;exact fin0 rfl rfl
   ·refine zAe ?_;refine yAW ?_;obtain⟨y14,hy14,h⟩:=zAc h;refine⟨_,⟨_,_,_,_,_,hy14,rfl,rfl⟩,?_⟩
    refine zAd ?_;obtain⟨hj1,hk1⟩:=pij h;subst hj1 hk1;exact fin0 rfl rfl
def zHS (xs:List AV) (r:Ret):Prop:=∃ (a0:(zO8×List Nd)) (y0:List Nd) (y1:Int),zBC a0=some (y0,y1)/\xs=[.agg ((zAI a0).map .s)]/\r = .val (.tup [.s (.sl 4 (Nd.encs y0)),.s (.int .i64 y1)])
def zHV:zAr:=zAq fun xs r=>zHS xs r
theorem zHz:PSound Tryz.prog 183 zHV:=by
 have gok:∀ f s,look? f [(53,zG1),(195,zHG)]=some s->PSound Tryz.prog f s:=zAm (by
  simp only[List.forall_mem_cons]
  exact⟨zHM,zIW,by simp⟩)
 refine zAs tokW Tryz.call183 Tryz.func183 rfl (fun xs r h=>by obtain⟨_,_,_,_,rfl,_⟩:=h; show 1<=54; decide) 54 rfl ?_;rintro xs r w0 G0 ⟨⟨⟨c1Ac,c1Ag,c1N,c1Ad,c1Aa,c1Ab,c1Af,c1Ae⟩,c1O⟩,y0,y1,h,rfl,rfl⟩ _;rw[zBC]at h;refine yAW ?_;refine yAh [4] [11] rfl ?_;obtain⟨⟨e2A,e2B,e2F,e2E⟩,he2,h⟩:=zAc h;refine And.intro (zAn Nd.encs_eq he2).1 ?_;intro r3 hr3;obtain rfl:[.int .i64 e2A,.str e2B,.int .i64 e2F,.sl 4 (Nd.encs e2E)]=r3:=(hr3.trans (zAn Nd.encs_eq he2).2.1).symm
 obtain⟨⟨y4A,y4B,y4F,y4E⟩,hy4,h⟩:=zAc h;refine⟨_,⟨_,_,hy4,rfl,rfl⟩,?_⟩
 refine zAa ?_;refine zAa ?_;refine zAK [] [] [3] rfl (by decide +kernel) ?_;obtain⟨y5,hy5,h⟩:=zAc h;refine⟨_,⟨_,_,hy5,rfl,rfl⟩,?_⟩
 refine zAf rfl h (fun hb h=>?_) (fun hb h=>?_)
 ·refine yAW ?_;refine zAd ?_;obtain⟨hj1,hk1⟩:=pij h;subst hj1 hk1;exact fin0 rfl rfl
 ·refine zAe ?_;refine zAa ?_;cases h
def zLy (n:Nat) (xs:List AV) (r:Ret):Prop:=∃ (a0:(zO8×List Nd)) (y0:List Nd) (y1:Int),zEc n a0=some (y0,y1)/\xs=[.agg ((zAI a0).map .s)]/\r = .val (.tup [.s (.sl 4 (Nd.encs y0)),.s (.int .i64 y1)])
def zHA:zAr:=zAq fun xs r=>∃ n,zLy n xs r
theorem yAJ {α:Type}{a b:α} (h:a=b:=by simp[List.map_append,List.map_take,List.map_drop,irow,brow,zEa,List.map_cons,List.map_nil,zDr,Nd.encs_eq,Nd.enc,CV.encs_eq,CV.enc,zBf,zAR,zBT,zAP,zAI]):a=b :=
 h
theorem zLe:PSound Tryz.prog 182 zHA:=by
 have gok:∀ f s,look? f [(53,zG2),(199,zGA),(196,zCn)]=some s->PSound Tryz.prog f s:=zAm (by
  simp only[List.forall_mem_cons]
  exact⟨zI6,zJS,zCT,by simp⟩)
 refine zAs tokW Tryz.call182 Tryz.func182 rfl (fun xs r h=>by obtain⟨n,_,_,_,_,rfl,_⟩:=h; show 1<=39; decide) 39 rfl ?_;rintro xs r w0 G0 ⟨n,⟨⟨c1Ac,c1Ag,c1N,c1Ad,c1Aa,c1Ab,c1Af,c1Ae⟩,c1O⟩,y0,y1,h,rfl,rfl⟩ _;rw[zEc]at h;refine yAW ?_;refine yAh [4] [8] rfl ?_;obtain⟨⟨e2A,e2B,e2F,e2E⟩,he2,h⟩:=zAc h;refine And.intro (zAn Nd.encs_eq he2).1 ?_;intro r3 hr3;obtain rfl:[.int .i64 e2A,.str e2B,.int .i64 e2F,.sl 4 (Nd.encs e2E)]=r3:=(hr3.trans (zAn Nd.encs_eq he2).2.1).symm
 obtain⟨⟨y4A,y4B,y4F,y4E⟩,hy4,h⟩:=zAc h;refine⟨_,_,⟨_,_,hy4,rfl,rfl,rfl,rfl⟩,?_⟩
 refine zAa ?_;refine zAK [] [28] [1,19,21] rfl (by decide +kernel) ?_;obtain⟨hq,h⟩:=zAw h;refine And.intro ⟨hq.1,hq.2.1,Int.le_trans hq.2.2 (Int.ofNat_le.2 (Nat.le_of_eq (rlen Nd.encs_eq _).symm))⟩ ?_;intro r5 hr5;obtain rfl:Nd.encs ((c1O.take (IntKind.i64.wrap (c1N+c1Ad)).toNat).drop c1N.toNat)=r5:=(hr5.trans (rcut Nd.encs_eq _ _ _)).symm;obtain⟨y6,hy6,h⟩:=zAc h;refine⟨_,⟨_,_,hy6,rfl,rfl⟩,?_⟩
 obtain⟨⟨e7A,e7B,e7F,e7E⟩,he7,h⟩:=zAc h;refine And.intro (zAn Nd.encs_eq he7).1 ?_;have hset8:=(rset (R:=Nd.encs) (f:=Nd.enc) Nd.encs_eq he7 (Nd.mk e7A e7B e7F y6) 3 4 [.sl 4 (Nd.encs y6)] rfl)
 have hat8:=at_set he7 (Nd.mk e7A e7B e7F y6)
 refine And.intro (zAn Nd.encs_eq he7).2.2 ?_;show Tri ..
 refine zAh (Le.trans (Le.trans (Le.trans (Le.rnm [(1,0),(0,1)] [(1,.s (.pt [.int .i64 c1Ac,.sl 1 ((List.map (irow .i64)) c1Ag),.int .i64 c1N,.int .i64 c1Ad,.sl 4 (Nd.encs c1Aa),.int .i64 c1Ab,.str c1Af,.str c1Ae,.sl 4 (Nd.encs c1O)])),(4,.op 0 0)] [(0,.box 24 [.s (.int .i64 y4A),.s (.str y4B),.s (.int .i64 y4F),.orow 1]),(1,.row 24 4 (Nd.encs (y4E.set c1Ab.toNat (Nd.mk e7A e7B e7F y6))))] 2 ⟨rfl,rfl,trivial⟩ ⟨rfl,⟨_,rfl,rfl⟩,rfl,⟨_,rfl,congrArg (Ob.row 24 4) hset8⟩,trivial⟩) (Le.giveRow 1 rfl)) (Le.rnm [(0,0)] [(1,.s (.pt [.int .i64 c1Ac,.sl 1 ((List.map (irow .i64)) c1Ag),.int .i64 c1N,.int .i64 c1Ad,.sl 4 (Nd.encs c1Aa),.int .i64 c1Ab,.str c1Af,.str c1Ae,.sl 4 (Nd.encs c1O)])),(4,.op 0 0)] [(0,.box 24 [.s (.int .i64 y4A),.s (.str y4B),.s (.int .i64 y4F),.s (.sl 4 (Nd.encs (y4E.set c1Ab.toNat (Nd.mk e7A e7B e7F y6))))])] 1 ⟨rfl,rfl,trivial⟩ ⟨rfl,⟨_,rfl,rfl⟩,trivial⟩)) (Le.giveBox 0 [.int .i64 y4A,.str y4B,.int .i64 y4F,.sl 4 (Nd.encs (y4E.set c1Ab.toNat (Nd.mk e7A e7B e7F y6)))] rfl rfl)) ?_
 refine yAh [] [37] rfl ?_;intro r9 hr9;obtain rfl:Nd.encs [Nd.mk y4A y4B y4F (y4E.set c1Ab.toNat (Nd.mk e7A e7B e7F y6))]=r9:=(hr9.trans yAJ).symm;obtain⟨y10,hy10,h⟩:=zAc h;refine⟨_,⟨_,_,_,_,_,hy10,rfl,rfl⟩,?_⟩
 refine zAd ?_;obtain⟨hj1,hk1⟩:=pij h;subst hj1 hk1;exact fin0 rfl rfl
def zKc (n:Nat) (xs:List AV) (r:Ret):Prop:=∃ (a0:(zO8×List Nd)) (y0:List Nd) (y1:Int),zDo n a0=some (y0,y1)/\xs=[.agg ((zAI a0).map .s)]/\r = .val (.tup [.s (.sl 4 (Nd.encs y0)),.s (.int .i64 y1)])
def zGt:zAr:=zAq fun xs r=>∃ n,zKc n xs r
theorem zJH:PSound Tryz.prog 180 zGt:=by
 have gok:∀ f s,look? f [(196,zCn)]=some s->PSound Tryz.prog f s:=zAm (by
  simp only[List.forall_mem_cons]
  exact⟨zCT,by simp⟩)
 refine zAs tokW Tryz.call180 Tryz.func180 rfl (fun xs r h=>by obtain⟨n,_,_,_,_,rfl,_⟩:=h; show 1<=9; decide) 9 rfl ?_;rintro xs r w0 G0 ⟨n,⟨⟨c1Ac,c1Ag,c1N,c1Ad,c1Aa,c1Ab,c1Af,c1Ae⟩,c1O⟩,y0,y1,h,rfl,rfl⟩ _;rw[zDo]at h;refine yAW ?_;refine yAW ?_;obtain⟨y2,hy2,h⟩:=zAc h;refine⟨_,⟨_,_,_,_,_,hy2,rfl,rfl⟩,?_⟩
 refine zAd ?_;obtain⟨hj1,hk1⟩:=pij h;subst hj1 hk1;exact fin0 rfl rfl
def zKd (n:Nat) (xs:List AV) (r:Ret):Prop:=∃ (a0:(zO8×List Nd)) (y0:List Nd) (y1:Int),zDp n a0=some (y0,y1)/\xs=[.agg ((zAI a0).map .s)]/\r = .val (.tup [.s (.sl 4 (Nd.encs y0)),.s (.int .i64 y1)])
def zGu:zAr:=zAq fun xs r=>∃ n,zKd n xs r
theorem zJI:PSound Tryz.prog 181 zGu:=by
 have gok:∀ f s,look? f [(197,zFg),(196,zCn)]=some s->PSound Tryz.prog f s:=zAm (by
  simp only[List.forall_mem_cons]
  exact⟨zH5,zCT,by simp⟩)
 refine zAs tokW Tryz.call181 Tryz.func181 rfl (fun xs r h=>by obtain⟨n,_,_,_,_,rfl,_⟩:=h; show 1<=28; decide) 28 rfl ?_;rintro xs r w0 G0 ⟨n,⟨⟨c1Ac,c1Ag,c1N,c1Ad,c1Aa,c1Ab,c1Af,c1Ae⟩,c1O⟩,y0,y1,h,rfl,rfl⟩ _;rw[zDp]at h;refine yAW ?_;refine yAh [] [8] rfl ?_;intro n2 hn2;obtain rfl:(c1Aa.length:Int)=n2:=(hn2.trans (congrArg (fun m:Nat=>(m:Int)) (rlen Nd.encs_eq c1Aa))).symm;refine zAa ?_;refine zAa ?_;refine zAK [] [19] [] rfl (by decide +kernel) ?_
 obtain⟨hq,h⟩:=zAw h;refine And.intro ⟨hq.1,hq.2.1,Int.le_trans hq.2.2 (Int.ofNat_le.2 (Nat.le_of_eq (rlen Nd.encs_eq _).symm))⟩ ?_;intro r3 hr3;obtain rfl:Nd.encs ((c1O.take (IntKind.i64.wrap (c1N+(c1Aa.length:Int))).toNat).drop c1N.toNat)=r3:=(hr3.trans (rcut Nd.encs_eq _ _ _)).symm;obtain⟨y4,hy4,h⟩:=zAc h;refine⟨_,⟨_,_,_,_,hy4,rfl,rfl⟩,?_⟩
 refine zAf rfl h (fun hb h=>?_) (fun hb h=>?_)
 ·refine yAW ?_;refine zAd ?_;obtain⟨hj1,hk1⟩:=pij h;subst hj1 hk1;exact fin0 rfl rfl
 ·refine zAe ?_;refine yAW ?_;obtain⟨y5,hy5,h⟩:=zAc h;refine⟨_,⟨_,_,_,_,_,hy5,rfl,rfl⟩,?_⟩
  refine zAd ?_;obtain⟨hj1,hk1⟩:=pij h;subst hj1 hk1;exact fin0 rfl rfl
def zMq (n:Nat) (xs:List AV) (r:Ret):Prop:=∃ (a0:(zO8×List Nd)) (y0:List Nd) (y1:Int),zEz n a0=some (y0,y1)/\xs=[.agg ((zAI a0).map .s)]/\r = .val (.tup [.s (.sl 4 (Nd.encs y0)),.s (.int .i64 y1)])
def zIb:zAr:=zAq fun xs r=>∃ n,zMq n xs r
theorem zL4:PSound Tryz.prog 184 zIb:=by
 have gok:∀ f s,look? f [(196,zCn)]=some s->PSound Tryz.prog f s:=zAm (by
  simp only[List.forall_mem_cons]
  exact⟨zCT,by simp⟩)
 refine zAs tokW Tryz.call184 Tryz.func184 rfl (fun xs r h=>by obtain⟨n,_,_,_,_,rfl,_⟩:=h; show 1<=34; decide) 34 rfl ?_;rintro xs r w0 G0 ⟨n,⟨⟨c1Ac,c1Ag,c1N,c1Ad,c1Aa,c1Ab,c1Af,c1Ae⟩,c1O⟩,y0,y1,h,rfl,rfl⟩ _;rw[zEz]at h;refine yAW ?_;refine yAh [4] [10] rfl ?_;obtain⟨⟨e2A,e2B,e2F,e2E⟩,he2,h⟩:=zAc h;refine And.intro (zAn Nd.encs_eq he2).1 ?_;intro r3 hr3;obtain rfl:[.int .i64 e2A,.str e2B,.int .i64 e2F,.sl 4 (Nd.encs e2E)]=r3:=(hr3.trans (zAn Nd.encs_eq he2).2.1).symm
 refine zAa ?_;refine yAW ?_;show Tri ..;obtain⟨fl,hj,ho1⟩:=zAc h;refine zBA (fl:=fl) (fun z=>match z with | _=>⟨ofL [(1,.s (.pt [.int .i64 c1Ac,.sl 1 ((List.map (irow .i64)) c1Ag),.int .i64 c1N,.int .i64 c1Ad,.sl 4 (Nd.encs c1Aa),.int .i64 c1Ab,.str c1Af,.str c1Ae,.sl 4 (Nd.encs c1O)])),(4,.op 0 0)],ofH [(0,.box 24 [.s (.int .i64 e2A),.s (.str e2B),.s (.int .i64 e2F),.s (.sl 4 (Nd.encs e2E))])],1⟩) ?_ (fun z σ' hz hle=>?_)
 ·replace h:=hj;refine zAi ?_;refine zAa ?_;refine yAW ?_;show Tri ..;obtain⟨x4,hj,h⟩:=zAc h;refine zAl ⟨ofL [(1,.s (.pt [.int .i64 c1Ac,.sl 1 ((List.map (irow .i64)) c1Ag),.int .i64 c1N,.int .i64 c1Ad,.sl 4 (Nd.encs c1Aa),.int .i64 c1Ab,.str c1Af,.str c1Ae,.sl 4 (Nd.encs c1O)])),(4,.op 0 0),(14,.s (.bool x4))],ofH [(0,.box 24 [.s (.int .i64 e2A),.s (.str e2B),.s (.int .i64 e2F),.s (.sl 4 (Nd.encs e2E))])],1⟩ ?_ (fun σ' hle=>?_)
  ·replace h:=hj;refine zAf rfl h (fun hb h=>?_) (fun hb h=>?_)
   ·refine zAe ?_;cases h;exact(Le.rnm [(0,0)] _ _ _ ⟨rfl,rfl,rfl,trivial⟩ ⟨rfl,⟨_,rfl,rfl⟩,trivial⟩)
   ·refine yAW ?_;refine zAf rfl h (fun hb h=>?_) (fun hb h=>?_)
    ·refine zAe ?_;cases h;exact(Le.rnm [(0,0)] _ _ _ ⟨rfl,rfl,rfl,trivial⟩ ⟨rfl,⟨_,rfl,rfl⟩,trivial⟩)
    ·refine yAW ?_;refine zAf rfl h (fun hb h=>?_) (fun hb h=>?_)
     ·refine zAe ?_;cases h;exact(Le.rnm [(0,0)] _ _ _ ⟨rfl,rfl,rfl,trivial⟩ ⟨rfl,⟨_,rfl,rfl⟩,trivial⟩)
     ·refine yAW ?_;refine zAf rfl h (fun hb h=>?_) (fun hb h=>?_)
      ·refine zAe ?_;cases h;exact(Le.rnm [(0,0)] _ _ _ ⟨rfl,rfl,rfl,trivial⟩ ⟨rfl,⟨_,rfl,rfl⟩,trivial⟩)
      ·refine yAV ?_;cases h;exact(Le.rnm [(0,0)] _ _ _ ⟨rfl,rfl,rfl,trivial⟩ ⟨rfl,⟨_,rfl,rfl⟩,trivial⟩)
  ·refine zAh hle ?_;refine zAf rfl h (fun hb h=>?_) (fun hb h=>?_)
   ·refine zAe ?_;cases h;exact⟨_,rfl,(Le.rnm [(0,0)] _ _ _ ⟨rfl,rfl,trivial⟩ ⟨rfl,⟨_,rfl,rfl⟩,trivial⟩)⟩
   ·refine yAW ?_;refine zAd ?_;cases h;replace h:some _=some _:=ho1;obtain⟨hj1,hk1⟩:=pij h;subst hj1 hk1;exact fin0 rfl rfl
 ·subst hz;obtain _:=z;replace h:=ho1;refine zAh hle ?_;refine zAa ?_;refine yAW ?_;refine zAf rfl h (fun hb h=>?_) (fun hb h=>?_)
  ·refine yAW ?_;refine zAd ?_;obtain⟨hj1,hk1⟩:=pij h;subst hj1 hk1;exact fin0 rfl rfl
  ·refine zAe ?_;refine yAW ?_;refine yAh [] [32] rfl ?_;intro r5 hr5;obtain rfl:Nd.encs [Nd.mk e2A c1Ae e2F e2E]=r5:=(hr5.trans yAJ).symm;obtain⟨y6,hy6,h⟩:=zAc h;refine⟨_,⟨_,_,_,_,_,hy6,rfl,rfl⟩,?_⟩
   refine zAd ?_;obtain⟨hj1,hk1⟩:=pij h;subst hj1 hk1;exact fin0 rfl rfl
def zKb (xs:List AV) (r:Ret):Prop:=∃ (a0:(zO8×List Nd)) (y0:Int),zCz a0=some y0/\xs=[.agg ((zAI a0).map .s)]/\r = .val (.s (.int .i64 y0))
def zGs:zAr:=zAq fun xs r=>zKb xs r
theorem zJG:PSound Tryz.prog 179 zGs:=by
 have gok:=@gok0 Tryz.prog;refine zAs tokW Tryz.call179 Tryz.func179 rfl (fun xs r h=>by obtain⟨_,_,_,rfl,_⟩:=h; show 1<=44; decide) 44 rfl ?_;rintro xs r w0 G0 ⟨⟨⟨c1Ac,c1Ag,c1N,c1Ad,c1Aa,c1Ab,c1Af,c1Ae⟩,c1O⟩,y0,h,rfl,rfl⟩ _;rw[zCz]at h;refine yAW ?_;refine yAW ?_;refine zAa ?_;refine yAW ?_;show Tri ..;obtain⟨need2,hj,h⟩:=zAc h
 refine zAl ⟨ofL [(1,.s (.pt [.int .i64 c1Ac,.sl 1 ((List.map (irow .i64)) c1Ag),.int .i64 c1N,.int .i64 c1Ad,.sl 4 (Nd.encs c1Aa),.int .i64 c1Ab,.str c1Af,.str c1Ae,.sl 4 (Nd.encs c1O)])),(3,.s (.int .i64 need2))],fun _=>none,0⟩ ?_ (fun σ' hle=>?_)
 ·replace h:=hj;refine zAi ?_;refine yAW ?_;refine zAf rfl h (fun hb h=>?_) (fun hb h=>?_)
  ·refine yAV ?_;cases h;exact(Le.forget _ ⟨rfl,rfl,trivial⟩)
  ·refine yAW ?_;refine zAf rfl h (fun hb h=>?_) (fun hb h=>?_)
   ·refine zAb [] [14] rfl ?_;intro n3 hn3;obtain rfl:(c1Aa.length:Int)=n3:=(hn3.trans (congrArg (fun m:Nat=>(m:Int)) (rlen Nd.encs_eq c1Aa))).symm;cases h;exact(Le.forget _ ⟨rfl,rfl,trivial⟩)
   ·refine yAW ?_;refine zAf rfl h (fun hb h=>?_) (fun hb h=>?_)
    ·refine yAV ?_;cases h;exact(Le.forget _ ⟨rfl,rfl,trivial⟩)
    ·refine zAe ?_;cases h;exact(Le.forget _ ⟨rfl,rfl,trivial⟩)
 ·refine zAh hle ?_;refine zAa ?_;refine zAa ?_;obtain⟨x4,hj,h⟩:=zAc h;refine zAl ⟨ofL [(43,.s (.bool x4))],fun _=>none,0⟩ ?_ (fun σ' hle=>?_)
  ·replace h:=hj;refine zAb [] [24,30,33,37] rfl ?_;intro b hb;cases b with
   | true =>
    replace h:=zAv hb.symm h;intro b hb;subst hb;cases h;exact(Le.forget _ ⟨rfl,trivial⟩)
   | false =>
    replace h:=zAu hb.symm h;intro n5 hn5;obtain rfl:(c1O.length:Int)=n5:=(hn5.trans (congrArg (fun m:Nat=>(m:Int)) (rlen Nd.encs_eq c1O))).symm;intro b hb;cases b with
    | true =>
     replace h:=zAv hb.symm h;cases h;exact(Le.forget _ ⟨rfl,trivial⟩)
    | false =>
     replace h:=zAu hb.symm h;intro n6 hn6;obtain rfl:(c1O.length:Int)=n6:=(hn6.trans (congrArg (fun m:Nat=>(m:Int)) (rlen Nd.encs_eq c1O))).symm;cases h;exact(Le.forget _ ⟨rfl,trivial⟩)
  ·refine zAh hle ?_;refine zAf rfl h (fun hb h=>?_) (fun hb h=>?_)
   ·refine yAW ?_;refine zAd ?_;have hy:=osi h;subst hy;exact fin0 rfl rfl
   ·refine zAe ?_;refine yAW ?_;refine zAd ?_;have hy:=osi h;subst hy;exact fin0 rfl rfl
def zNz (n:Nat) (xs:List AV) (r:Ret):Prop:=∃ (a0:List Nd) (a1:Int) (y0:Bool),zDW n a0 a1=some y0/\xs=[.s (.sl 4 (Nd.encs a0)),.s (.int .i64 a1)]/\r = .val (.s (.bool y0))
def zIZ:zAr:=zAq fun xs r=>∃ n,zNz n xs r
theorem zMD:PSound Tryz.prog 177 zIZ:=by
 have gok:∀ f s,look? f [(176,zFP),(195,zHG)]=some s->PSound Tryz.prog f s:=zAm (by
  simp only[List.forall_mem_cons]
  exact⟨zHN,zIW,by simp⟩)
 refine zAs tokW Tryz.call177 Tryz.func177 rfl (fun xs r h=>by obtain⟨n,_,_,_,_,rfl,_⟩:=h; show 2<=35; decide) 35 rfl ?_;rintro xs r w0 G0 ⟨n,l1,slot2,y0,h,rfl,rfl⟩ _;rw[zDW]at h;refine yAW ?_;refine zAa ?_;refine zAa ?_;obtain⟨x3,hj,h⟩:=zAc h;refine zAl ⟨ofL [(0,.s (.sl 4 (Nd.encs l1))),(1,.s (.int .i64 slot2)),(24,.s (.bool x3))],fun _=>none,0⟩ ?_ (fun σ' hle=>?_)
 ·replace h:=hj;refine zAb [] [6,8,13,17,20] rfl ?_;intro n4 hn4;obtain rfl:(l1.length:Int)=n4:=(hn4.trans (congrArg (fun m:Nat=>(m:Int)) (rlen Nd.encs_eq l1))).symm;intro b hb;cases b with
  | true =>
   replace h:=zAv hb.symm h;intro b hb;subst hb;intro b hb;subst hb;cases h;exact(Le.forget _ ⟨rfl,rfl,rfl,trivial⟩)
  | false =>
   replace h:=zAu hb.symm h;obtain⟨y5,hy5,h⟩:=zAc h;refine⟨_,⟨_,_,_,hy5,rfl,rfl⟩,?_⟩
   intro b hb;cases b with
   | true =>
    replace h:=zAv hb.symm h;intro b hb;subst hb;cases h;exact(Le.forget _ ⟨rfl,rfl,rfl,trivial⟩)
   | false =>
    replace h:=zAu hb.symm h;intro b hb;cases b with
    | true =>
     replace h:=zAv hb.symm h;cases h;exact(Le.forget _ ⟨rfl,rfl,rfl,trivial⟩)
    | false =>
     replace h:=zAu hb.symm h;obtain⟨⟨e6A,e6B,e6F,e6E⟩,he6,h⟩:=zAc h;refine And.intro (zAn Nd.encs_eq he6).1 ?_;intro r7 hr7;obtain rfl:[.int .i64 e6A,.str e6B,.int .i64 e6F,.sl 4 (Nd.encs e6E)]=r7:=(hr7.trans (zAn Nd.encs_eq he6).2.1).symm;obtain⟨y8,hy8,h⟩:=zAc h;refine⟨_,⟨_,_,hy8,rfl,rfl⟩,?_⟩
     cases h;exact(Le.forget _ ⟨rfl,rfl,rfl,trivial⟩)
 ·refine zAh hle ?_;refine zAf rfl h (fun hb h=>?_) (fun hb h=>?_)
  ·refine yAW ?_;refine zAd ?_;have hy:=osi h;subst hy;exact fin0 rfl rfl
  ·refine zAe ?_;refine yAh [] [26,30,33] rfl ?_;obtain⟨⟨e9A,e9B,e9F,e9E⟩,he9,h⟩:=zAc h;refine And.intro (zAn Nd.encs_eq he9).1 ?_;intro r10 hr10;obtain rfl:[.int .i64 e9A,.str e9B,.int .i64 e9F,.sl 4 (Nd.encs e9E)]=r10:=(hr10.trans (zAn Nd.encs_eq he9).2.1).symm;obtain⟨⟨e11A,e11B,e11F,e11E⟩,he11,h⟩:=zAc h;refine And.intro (zAn Nd.encs_eq he11).1 ?_;intro r12 hr12;obtain rfl:[.int .i64 e11A,.str e11B,.int .i64 e11F,.sl 4 (Nd.encs e11E)]=r12:=(hr12.trans (zAn Nd.encs_eq he11).2.1).symm;intro n13 hn13
   obtain rfl:(e11E.length:Int)=n13:=(hn13.trans (congrArg (fun m:Nat=>(m:Int)) (rlen Nd.encs_eq e11E))).symm;refine zAd ?_;have hy:=osi h;subst hy;exact fin0 rfl rfl
def zAo (p:zO8):List S:=[.int .i64 p.1,.sl 1 ((List.map (irow .i64)) p.2.1),.int .i64 p.2.2.1,.int .i64 p.2.2.2.1,.sl 4 (Nd.encs p.2.2.2.2.1),.int .i64 p.2.2.2.2.2.1,.str p.2.2.2.2.2.2.1,.str p.2.2.2.2.2.2.2]
def zRh (n:Nat) (xs:List AV) (r:Ret):Prop:=∃ (a0:zO8) (y0:Bool),zFv n a0=some y0/\xs=[.agg ((zAo a0).map .s)]/\r = .val (.s (.bool y0))
def zLK:zAr:=zAq fun xs r=>∃ n,zRh n xs r
theorem zP5:PSound Tryz.prog 145 zLK:=by
 have gok:∀ f s,look? f [(176,zFP),(177,zIZ)]=some s->PSound Tryz.prog f s:=zAm (by
  simp only[List.forall_mem_cons]
  exact⟨zHN,zMD,by simp⟩)
 refine zAs tokW Tryz.call145 Tryz.func145 rfl (fun xs r h=>by obtain⟨n,_,_,_,rfl,_⟩:=h; show 1<=80; decide) 80 rfl ?_;rintro xs r w0 G0 ⟨n,⟨a1A,a1I,a1H,a1L,a1G,a1K,a1M,a1B⟩,y0,h,rfl,rfl⟩ _;rw[zFv]at h;refine yAW ?_;refine zAa ?_;obtain⟨x2,hj,h⟩:=zAc h;refine zAl ⟨ofL [(1,.s (.pt [.int .i64 a1A,.sl 1 ((List.map (irow .i64)) a1I),.int .i64 a1H,.int .i64 a1L,.sl 4 (Nd.encs a1G),.int .i64 a1K,.str a1M,.str a1B])),(3,.s (.bool x2))],fun _=>none,0⟩ ?_ (fun σ' hle=>?_)
 ·replace h:=hj;refine zAb [] [7] rfl ?_;intro b hb;cases b with
  | true =>
   replace h:=zAv hb.symm h;cases h;exact(Le.forget _ ⟨rfl,rfl,trivial⟩)
  | false =>
   replace h:=zAu hb.symm h;cases h;exact(Le.forget _ ⟨rfl,rfl,trivial⟩)
 ·refine zAh hle ?_;refine zAa ?_;refine yAW ?_;show Tri ..;obtain⟨fl,hj,ho1⟩:=zAc h;refine zBA (fl:=fl) (fun z=>match z with | _=>⟨ofL [],fun _=>none,0⟩) ?_ (fun z σ' hz hle=>?_)
  ·replace h:=hj;refine zAi ?_;refine zAa ?_;refine yAW ?_;show Tri ..;obtain⟨x3,hj,h⟩:=zAc h;refine zAl ⟨ofL [(1,.s (.pt [.int .i64 a1A,.sl 1 ((List.map (irow .i64)) a1I),.int .i64 a1H,.int .i64 a1L,.sl 4 (Nd.encs a1G),.int .i64 a1K,.str a1M,.str a1B])),(3,.s (.bool x2)),(13,.s (.int .i64 a1A)),(14,.s (.bool x3))],fun _=>none,0⟩ ?_ (fun σ' hle=>?_)
   ·replace h:=hj;refine zAf rfl h (fun hb h=>?_) (fun hb h=>?_)
    ·refine zAe ?_;cases h;exact(Le.forget _ ⟨rfl,rfl,rfl,rfl,trivial⟩)
    ·refine yAV ?_;cases h;exact(Le.forget _ ⟨rfl,rfl,rfl,rfl,trivial⟩)
   ·refine zAh hle ?_;refine zAf rfl h (fun hb h=>?_) (fun hb h=>?_)
    ·refine zAa ?_;obtain⟨x4,hj,h⟩:=zAc h;refine zAl ⟨ofL [(2,.s (.bool x4))],fun _=>none,0⟩ ?_ (fun σ' hle=>?_)
     ·replace h:=hj;refine zAb [] [20,25,29,32,35] rfl ?_;intro b hb;cases b with
      | true =>
       replace h:=zAv hb.symm h;intro b hb;cases b with
       | true =>
        replace h:=zAv hb.symm h;intro b hb;cases b with
        | true =>
         replace h:=zAv hb.symm h;intro n5 hn5;obtain rfl:(a1G.length:Int)=n5:=(hn5.trans (congrArg (fun m:Nat=>(m:Int)) (rlen Nd.encs_eq a1G))).symm;intro b hb;cases b with
         | true =>
          replace h:=zAv hb.symm h;obtain⟨y6,hy6,h⟩:=zAc h;refine⟨_,⟨_,_,_,hy6,rfl,rfl⟩,?_⟩
          cases h;exact(Le.forget _ ⟨rfl,trivial⟩)
         | false =>
          replace h:=zAu hb.symm h;cases h;exact(Le.forget _ ⟨rfl,trivial⟩)
        | false =>
         replace h:=zAu hb.symm h;intro b hb;subst hb;cases h;exact(Le.forget _ ⟨rfl,trivial⟩)
       | false =>
        replace h:=zAu hb.symm h;intro b hb;subst hb;intro b hb;subst hb;cases h;exact(Le.forget _ ⟨rfl,trivial⟩)
      | false =>
       replace h:=zAu hb.symm h;intro b hb;subst hb;intro b hb;subst hb;intro b hb;subst hb;cases h;exact(Le.forget _ ⟨rfl,trivial⟩)
     ·refine zAh hle ?_;refine zAd ?_;cases h;replace h:some _=some _:=ho1;have hy:=osi h;subst hy;exact fin0 rfl rfl
    ·refine zAa ?_;refine yAW ?_;show Tri ..;obtain⟨x7,hj,h⟩:=zAc h;refine zAl ⟨ofL [(1,.s (.pt [.int .i64 a1A,.sl 1 ((List.map (irow .i64)) a1I),.int .i64 a1H,.int .i64 a1L,.sl 4 (Nd.encs a1G),.int .i64 a1K,.str a1M,.str a1B])),(3,.s (.bool x2)),(13,.s (.int .i64 a1A)),(40,.s (.bool x7))],fun _=>none,0⟩ ?_ (fun σ' hle=>?_)
     ·replace h:=hj;refine zAf rfl h (fun hb h=>?_) (fun hb h=>?_)
      ·refine zAe ?_;cases h;exact(Le.forget _ ⟨rfl,rfl,rfl,rfl,trivial⟩)
      ·refine yAV ?_;cases h;exact(Le.forget _ ⟨rfl,rfl,rfl,rfl,trivial⟩)
     ·refine zAh hle ?_;refine zAf rfl h (fun hb h=>?_) (fun hb h=>?_)
      ·refine zAa ?_;obtain⟨x8,hj,h⟩:=zAc h;refine zAl ⟨ofL [(2,.s (.bool x8))],fun _=>none,0⟩ ?_ (fun σ' hle=>?_)
       ·replace h:=hj;refine zAb [] [46,50] rfl ?_;intro b hb;cases b with
        | true =>
         replace h:=zAv hb.symm h;intro b hb;cases b with
         | true =>
          replace h:=zAv hb.symm h;obtain⟨y9,hy9,h⟩:=zAc h;refine⟨_,⟨_,_,_,_,hy9,rfl,rfl⟩,?_⟩
          cases h;exact(Le.forget _ ⟨rfl,trivial⟩)
         | false =>
          replace h:=zAu hb.symm h;cases h;exact(Le.forget _ ⟨rfl,trivial⟩)
        | false =>
         replace h:=zAu hb.symm h;intro b hb;subst hb;cases h;exact(Le.forget _ ⟨rfl,trivial⟩)
       ·refine zAh hle ?_;refine zAd ?_;cases h;replace h:some _=some _:=ho1;have hy:=osi h;subst hy;exact fin0 rfl rfl
      ·refine yAW ?_;refine zAf rfl h (fun hb h=>?_) (fun hb h=>?_)
       ·refine zAa ?_;obtain⟨x10,hj,h⟩:=zAc h;refine zAl ⟨ofL [(2,.s (.bool x10))],fun _=>none,0⟩ ?_ (fun σ' hle=>?_)
        ·replace h:=hj;refine zAb [] [62,67,70,73] rfl ?_;intro b hb;cases b with
         | true =>
          replace h:=zAv hb.symm h;intro b hb;cases b with
          | true =>
           replace h:=zAv hb.symm h;intro n11 hn11;obtain rfl:(a1G.length:Int)=n11:=(hn11.trans (congrArg (fun m:Nat=>(m:Int)) (rlen Nd.encs_eq a1G))).symm;intro b hb;cases b with
           | true =>
            replace h:=zAv hb.symm h;cases h;exact(Le.forget _ ⟨rfl,trivial⟩)
           | false =>
            replace h:=zAu hb.symm h;cases h;exact(Le.forget _ ⟨rfl,trivial⟩)
          | false =>
           replace h:=zAu hb.symm h;intro b hb;subst hb;cases h;exact(Le.forget _ ⟨rfl,trivial⟩)
         | false =>
          replace h:=zAu hb.symm h;intro b hb;subst hb;intro b hb;subst hb;cases h;exact(Le.forget _ ⟨rfl,trivial⟩)
        ·refine zAh hle ?_;refine zAd ?_;cases h;replace h:some _=some _:=ho1;have hy:=osi h;subst hy;exact fin0 rfl rfl
       ·refine zAe ?_;cases h;exact⟨_,rfl,(Le.forget _ trivial)⟩
  ·subst hz;obtain _:=z;replace h:=ho1;refine zAh hle ?_;refine yAW ?_;refine zAd ?_;have hy:=osi h;subst hy;exact fin0 rfl rfl
theorem zX1 {P:Program}{f:Nat}{A B:List AV->Ret->Prop} (hA:PSound P f (zAq A)) (hB:PSound P f (zAq B)):PSound P f (zAq fun xs r=>A xs r∨B xs r) :=
 ⟨hA.1,fun G w xs vs r hl hg hp hv hs=>hs.elim (hA.2.1 G w xs vs r hl hg hp hv) (hB.2.1 G w xs vs r hl hg hp hv),fun R hR=>(by cases hR),fun R hR=>(by cases hR)⟩
theorem zVj {P:Program}{f:Nat}{A B:List AV->Ret->Prop} (hA:PSound P f (zAq A)) (h:∀ xs r,B xs r->A xs r):PSound P f (zAq B) :=
 ⟨hA.1,fun G w xs vs r hl hg hp hv hs=>hA.2.1 G w xs vs r hl hg hp hv (h xs r hs),fun R hR=>(by cases hR),fun R hR=>(by cases hR)⟩
def zKe (n:Nat) (xs:List AV) (r:Ret):Prop:=∃ (a0:(zO8×List Nd)) (y0:List Nd) (y1:Int),zBt n a0=some (y0,y1)/\xs=[.agg ((zAI a0).map .s)]/\r = .val (.tup [.s (.sl 4 (Nd.encs y0)),.s (.int .i64 y1)])
def zGv:zAr:=zAq fun xs r=>∃ n,zKe n xs r
theorem zJJ:PSound Tryz.prog 183 zGv :=
 zVj (zX1 zHz zHy) fun xs r ⟨n,a,y,z,hm,hx,hr⟩=>by
  unfold zBt at hm;split at hm
  ·rename_i q hq
   obtain rfl:=Option.some.inj hm;exact .inl ⟨a,y,z,hq,hx,hr⟩
  ·exact .inr ⟨n,a,y,z,hm,hx,hr⟩
def zKX (n:Nat) (xs:List AV) (r:Ret):Prop:=∃ (a0:(zO8×List Nd)) (y0:List Nd) (y1:Int),zCM n a0=some (y0,y1)/\xs=[.agg ((zAI a0).map .s)]/\r = .val (.tup [.s (.sl 4 (Nd.encs y0)),.s (.int .i64 y1)])
def zG3:zAr:=zAq fun xs r=>∃ n,zKX n xs r
theorem zKm:PSound Tryz.prog 147 zG3:=by
 have gok:∀ f s,look? f [(179,zGs),(180,zGt),(181,zGu),(182,zHA),(183,zGv),(184,zIb)]=some s->PSound Tryz.prog f s:=zAm (by
  simp only[List.forall_mem_cons]
  exact⟨zJG,zJH,zJI,zLe,zJJ,zL4,by simp⟩)
 refine zAs tokW Tryz.call147 Tryz.func147 rfl (fun xs r h=>by obtain⟨n,_,_,_,_,rfl,_⟩:=h; show 1<=41; decide) 41 rfl ?_;rintro xs r w0 G0 ⟨n,⟨⟨c1Ac,c1Ag,c1N,c1Ad,c1Aa,c1Ab,c1Af,c1Ae⟩,c1O⟩,y0,y1,h,rfl,rfl⟩ _;rw[zCM]at h;refine yAW ?_;refine zAa ?_;refine yAW ?_;obtain⟨y2,hy2,h⟩:=zAc h;refine⟨_,⟨_,_,hy2,rfl,rfl⟩,?_⟩
 refine yAW ?_;refine zAf rfl h (fun hb h=>?_) (fun hb h=>?_)
 ·refine yAW ?_;refine zAd ?_;obtain⟨hj1,hk1⟩:=pij h;subst hj1 hk1;exact fin0 rfl rfl
 ·refine zAe ?_;refine zAa ?_;refine yAW ?_;refine zAi ?_;refine yAW ?_;refine zAf rfl h (fun hb h=>?_) (fun hb h=>?_)
  ·refine yAW ?_;obtain⟨⟨y3,y4⟩,hy3,h⟩:=zAc h;refine⟨_,⟨_,_,_,_,hy3,rfl,rfl⟩,?_⟩
   refine zAd ?_;obtain⟨hj1,hk1⟩:=pij h;subst hj1 hk1;exact fin0 rfl rfl
  ·refine yAW ?_;refine zAf rfl h (fun hb h=>?_) (fun hb h=>?_)
   ·refine yAW ?_;obtain⟨⟨y5,y6⟩,hy5,h⟩:=zAc h;refine⟨_,⟨_,_,_,_,hy5,rfl,rfl⟩,?_⟩
    refine zAd ?_;obtain⟨hj1,hk1⟩:=pij h;subst hj1 hk1;exact fin0 rfl rfl
   ·refine yAW ?_;refine zAf rfl h (fun hb h=>?_) (fun hb h=>?_)
    ·refine yAW ?_;obtain⟨⟨y7,y8⟩,hy7,h⟩:=zAc h;refine⟨_,⟨_,_,_,_,hy7,rfl,rfl⟩,?_⟩
     refine zAd ?_;obtain⟨hj1,hk1⟩:=pij h;subst hj1 hk1;exact fin0 rfl rfl
    ·refine yAW ?_;refine zAf rfl h (fun hb h=>?_) (fun hb h=>?_)
     ·refine yAW ?_;obtain⟨⟨y9,y10⟩,hy9,h⟩:=zAc h;refine⟨_,⟨_,_,_,_,hy9,rfl,rfl⟩,?_⟩
      refine zAd ?_;obtain⟨hj1,hk1⟩:=pij h;subst hj1 hk1;exact fin0 rfl rfl
     ·refine zAe ?_;refine yAW ?_;obtain⟨⟨y11,y12⟩,hy11,h⟩:=zAc h;refine⟨_,⟨_,_,_,_,hy11,rfl,rfl⟩,?_⟩
      refine zAd ?_;obtain⟨hj1,hk1⟩:=pij h;subst hj1 hk1;exact fin0 rfl rfl
def zSD (n:Nat) (xs:List AV) (r:Ret):Prop:=∃ (a0:Nd) (a1:zO8) (y0:Nd) (y1:Int),zGd n a0 a1=some (y0,y1)/\xs=[.agg ((Nd.enc a0).map .s),.agg ((zAo a1).map .s)]/\r = .val (.tup [.agg ((Nd.enc y0).map .s),.s (.int .i64 y1)])
def zM0:zAr:=zAq fun xs r=>∃ n,zSD n xs r
theorem zRV:PSound Tryz.prog 111 zM0:=by
 have gok:∀ f s,look? f [(73,zDB),(145,zLK),(146,zQo),(147,zG3),(148,zOb)]=some s->PSound Tryz.prog f s:=zAm (by
  simp only[List.forall_mem_cons]
  exact⟨zDO,zP5,zU4,zKm,zTJ,by simp⟩)
 refine zAs tokW Tryz.call111 Tryz.func111 rfl (fun xs r h=>by obtain⟨n,_,_,_,_,_,rfl,_⟩:=h; show 2<=53; decide) 53 rfl ?_;rintro xs r w0 G0 ⟨n,⟨n1A,n1B,n1F,n1E⟩,⟨op2A,op2I,op2H,op2L,op2G,op2K,op2M,op2B⟩,y0,y1,h,rfl,rfl⟩ _;rw[zGd]at h;refine yAh [4] [] rfl ?_;refine zAa ?_;refine yAW ?_;obtain⟨y3,hy3,h⟩:=zAc h;refine⟨_,⟨_,_,_,hy3,rfl,rfl⟩,?_⟩
 refine zAf rfl h (fun hb h=>?_) (fun hb h=>?_)
 ·refine yAW ?_;refine zAd ?_;obtain⟨hj1,hk1⟩:=pij h;subst hj1 hk1;exact fin0 rfl rfl
 ·refine zAe ?_;refine zAa ?_;refine yAW ?_;obtain⟨y4,hy4,h⟩:=zAc h;refine⟨_,⟨_,_,_,hy4,rfl,rfl⟩,?_⟩
  refine zAf rfl h (fun hb h=>?_) (fun hb h=>?_)
  ·refine yAW ?_;refine zAd ?_;obtain⟨hj1,hk1⟩:=pij h;subst hj1 hk1;exact fin0 rfl rfl
  ·refine zAe ?_;refine yAh [6] [] rfl ?_;obtain⟨⟨⟨y5A,y5B,y5F,y5E⟩,y6⟩,hy5,h⟩:=zAc h;refine⟨_,⟨_,_,_,_,_,hy5,rfl,rfl⟩,?_⟩
   refine zAa ?_;refine yAW ?_;refine zAf rfl h (fun hb h=>?_) (fun hb h=>?_)
   ·refine yAW ?_;refine zAd ?_;obtain⟨hj1,hk1⟩:=pij h;subst hj1 hk1;exact fin0 rfl rfl
   ·refine zAe ?_;refine yAW ?_;obtain⟨⟨y7,y8⟩,hy7,h⟩:=zAc h;refine⟨_,⟨_,_,_,_,hy7,rfl,rfl⟩,?_⟩
    refine zAa ?_;refine yAW ?_;refine zAf rfl h (fun hb h=>?_) (fun hb h=>?_)
    ·refine yAW ?_;refine zAd ?_;obtain⟨hj1,hk1⟩:=pij h;subst hj1 hk1;exact fin0 rfl rfl
    ·refine zAe ?_;refine yAh [8] [] rfl ?_;obtain⟨⟨⟨y9A,y9B,y9F,y9E⟩,y10⟩,hy9,h⟩:=zAc h;refine⟨_,⟨_,_,_,_,_,_,hy9,rfl,rfl⟩,?_⟩
     refine zAh (Le.giveBox 2 [.int .i64 y9A,.str y9B,.int .i64 y9F,.sl 4 (Nd.encs y9E)] rfl rfl) ?_;refine zAa ?_;refine yAW ?_;refine zAf rfl h (fun hb h=>?_) (fun hb h=>?_)
     ·refine yAW ?_;refine zAd ?_;obtain⟨hj1,hk1⟩:=pij h;subst hj1 hk1;exact fin0 rfl rfl
     ·refine zAe ?_;refine yAW ?_;refine zAd ?_;obtain⟨hj1,hk1⟩:=pij h;subst hj1 hk1;exact fin0 rfl rfl
def zN3 (n:Nat) (xs:List AV) (r:Ret):Prop:=∃ (a0:Nd) (a1:List zO8) (y0:Nd) (y1:Int) (y2:Int),zDv n a0 a1=some (y0,y1,y2)/\xs=[.agg ((Nd.enc a0).map .s),.s (.sl 8 ((List.map zAo) a1))]/\r = .val (.tup [.agg ((Nd.enc y0).map .s),.s (.int .i64 y1),.s (.int .i64 y2)])
def zJl:zAr:=zAq fun xs r=>∃ n,zN3 n xs r
theorem zNJ:PSound Tryz.prog 74 zJl:=by
 have gok:∀ f s,look? f [(73,zDB),(53,zG1),(111,zM0)]=some s->PSound Tryz.prog f s:=zAm (by
  simp only[List.forall_mem_cons]
  exact⟨zDO,zHM,zRV,by simp⟩)
 refine zAs tokW Tryz.call74 Tryz.func74 rfl (fun xs r h=>by obtain⟨n,_,_,_,_,_,_,rfl,_⟩:=h; show 2<=39; decide) 39 rfl ?_;rintro xs r w0 G0 ⟨n,⟨n1A,n1B,n1F,n1E⟩,ops2,y0,y1,y2,h,rfl,rfl⟩ _;rw[zDv]at h;refine yAh [4] [] rfl ?_;refine zAa ?_;refine yAW ?_;obtain⟨y3,hy3,h⟩:=zAc h;refine⟨_,⟨_,_,_,hy3,rfl,rfl⟩,?_⟩
 refine zAf rfl h (fun hb h=>?_) (fun hb h=>?_)
 ·refine yAW ?_;refine zAd ?_;obtain⟨hj1,hk1⟩:=pij h;subst hj1;obtain⟨hj2,hk2⟩:=Prod.mk.inj hk1;subst hj2;subst hk2;exact fin0 rfl rfl
 ·refine zAe ?_;refine yAh [7] [] rfl ?_;obtain⟨⟨y4A,y4B,y4F,y4E⟩,hy4,h⟩:=zAc h;refine⟨_,⟨_,_,hy4,rfl,rfl⟩,?_⟩
  refine zAa ?_;refine yAh [] [19] rfl ?_;intro n5 hn5;obtain rfl:(ops2.length:Int)=n5:=(hn5.trans (congrArg (fun m:Nat=>(m:Int)) (rlen (fun _=>rfl) ops2))).symm;show Tri ..;obtain⟨fl,hl,ho1⟩:=zAc h;refine zBA (fl:=fl) (fun z=>match z with | ⟨x12,x13,x14,x15⟩=>⟨ofL [(4,.op 0 0),(7,.op 1 0)],ofH [(0,.box 24 [.s (.int .i64 0),.s (.str []),.s (.int .i64 0),.nl 4]),(1,.box 24 [.s (.int .i64 x12),.s (.str x13),.s (.int .i64 x14),.s (.sl 4 (Nd.encs x15))])],2⟩) ?_ (fun z σ' hz hle=>?_)
  ·refine zAi (zAt (X:=Nat×Int×(List UInt8)×Int×(List Nd)×Int) (fun y=>match y with | (k,x7,x8,x9,x10,x11)=>⟨ofL [(4,.op 0 0),(7,.op 1 0),(18,.s (.sl 8 ((List.map zAo) ops2))),(19,.s (.int .i64 (ops2.length:Int))),(20,.s (.int .i64 x11))],ofH [(0,.box 24 [.s (.int .i64 0),.s (.str []),.s (.int .i64 0),.nl 4]),(1,.box 24 [.s (.int .i64 x7),.s (.str x8),.s (.int .i64 x9),.s (.sl 4 (Nd.encs x10))])],2⟩) (fun y=>zBN n ops2 y.1 y.2.1 y.2.2.1 y.2.2.2.1 y.2.2.2.2.1 y.2.2.2.2.2=some fl) (fun y=>y.1) (n,y4A,y4B,y4F,y4E,0) hl ?_ ?_)
   ·exact(Le.rnm [(0,0),(1,1)] _ _ _ ⟨rfl,rfl,rfl,rfl,rfl,trivial⟩ ⟨rfl,⟨_,rfl,rfl⟩,rfl,⟨_,rfl,rfl⟩,trivial⟩)
   ·rintro⟨k,x7,x8,x9,x10,x11⟩ h;cases k with
    | zero=>cases h
    | succ k =>
     replace h:zBN n ops2 (k+1) x7 x8 x9 x10 x11=some fl:=h;rw[zBN]at h;refine yAW ?_;refine zAa ?_;refine zAf rfl h (fun hb h=>?_) (fun hb h=>?_)
     ·refine zAe ?_;refine zAa ?_;refine zAi ?_;refine yAh [9] [23] rfl ?_;obtain⟨⟨e16A,e16I,e16H,e16L,e16G,e16K,e16M,e16B⟩,he16,h⟩:=zAc h;refine And.intro (zAn (fun _=>rfl) he16).1 ?_;intro r17 hr17;obtain rfl:[.int .i64 e16A,.sl 1 ((List.map (irow .i64)) e16I),.int .i64 e16H,.int .i64 e16L,.sl 4 (Nd.encs e16G),.int .i64 e16K,.str e16M,.str e16B]=r17:=(hr17.trans (zAn (fun _=>rfl) he16).2.1).symm;show Tri ..
      refine zAh (Le.giveBox 2 [.int .i64 e16A,.sl 1 ((List.map (irow .i64)) e16I),.int .i64 e16H,.int .i64 e16L,.sl 4 (Nd.encs e16G),.int .i64 e16K,.str e16M,.str e16B] rfl rfl) ?_;refine yAh [10] [] rfl ?_;obtain⟨⟨⟨y18A,y18B,y18F,y18E⟩,y19⟩,hy18,h⟩:=zAc h;refine⟨_,⟨_,_,_,_,_,hy18,rfl,rfl⟩,?_⟩
      refine zAh (Le.giveBox 3 [.int .i64 y18A,.str y18B,.int .i64 y18F,.sl 4 (Nd.encs y18E)] rfl rfl) ?_;refine zAa ?_;refine yAW ?_;refine zAf rfl h (fun hb h=>?_) (fun hb h=>?_)
      ·refine yAW ?_;refine zAd ?_;cases h;replace h:some _=some _:=ho1;obtain⟨hj1,hk1⟩:=pij h;subst hj1;obtain⟨hj2,hk2⟩:=Prod.mk.inj hk1;subst hj2;subst hk2;exact fin0 rfl rfl
      ·refine zAe ?_;refine yAV ?_;refine yAV ?_;refine⟨(k,y18A,y18B,y18F,y18E,IntKind.i64.wrap (x11+1)),h,(Le.rnm [(0,0),(1,1)] _ _ _ ⟨rfl,rfl,rfl,rfl,rfl,trivial⟩ ⟨rfl,⟨_,rfl,rfl⟩,rfl,⟨_,rfl,rfl⟩,trivial⟩),Nat.lt_succ_self k⟩
     ·refine zAy ?_;cases h;exact⟨_,rfl,(Le.rnm [(0,0),(1,1)] _ _ _ ⟨rfl,rfl,trivial⟩ ⟨rfl,⟨_,rfl,rfl⟩,rfl,⟨_,rfl,rfl⟩,trivial⟩)⟩
  ·subst hz;obtain⟨x12,x13,x14,x15⟩:=z;replace h:=ho1;refine zAh hle ?_;refine yAW ?_;refine zAd ?_;obtain⟨hj1,hk1⟩:=pij h;subst hj1;obtain⟨hj2,hk2⟩:=Prod.mk.inj hk1;subst hj2;subst hk2;exact fin0 rfl rfl
end Go.Proofs.YtgplhldfbkmmgaaGreat
namespace Go.Abs
variable {c:Cx} {σ:St}
theorem Le.ofA (k:Nat){e sz:Nat}{rows:List (List AV)} (rs:List (List S)) (hk:σ.hp k=some (.arow e sz rows)) (hs:zIB rows=some rs):Le c σ (zFF σ k (.row e sz rs)):=by
 unfold Le;intro G β a w hc;obtain⟨s1,s2,s3⟩:=zQ8 hs;have hget:∀ {j o},(zFF σ k (.row e sz rs)).hp j=some o->(j=k/\o = .row e sz rs)∨(j ≠ k/\σ.hp j=some o):=fun {j o} h=>by
  simp only[zFF]at h;cases hq:Nat.beq j k with
  | true=>rw[hq,cond_true]at h; cases h; exact .inl ⟨Nat.eq_of_beq_eq_true hq,rfl⟩
  | false=>rw[hq,cond_false]at h; exact .inr ⟨Nat.ne_of_beq_eq_false hq,h⟩
 have hget':∀ {j o},(zFF σ k (.row e sz rs)).hp j=some o->∃ o',σ.hp j=some o':=fun {j o} h=>by
  rcases hget h with ⟨rfl,_⟩ | ⟨_,h⟩
  ·exact⟨_,hk⟩
  ·exact⟨_,h⟩
 refine⟨G,β,{ hc with hp:=fun j o hj=>?_,hplt:=fun j o hj=>?_,inj:=fun j j' o o' hj hj'=>(let ⟨_,h1⟩:=hget' hj; let ⟨_,h2⟩:=hget' hj'; hc.inj j j' _ _ h1 h2) }⟩
 ·rcases hget hj with ⟨rfl,rfl⟩ | ⟨_,h⟩
  ·obtain⟨hlen,hsz,ho⟩:=hc.hp j _ hk;refine⟨fun r hr=>s3 sz hlen r hr,hsz,ho.imp (fun h=>⟨h.1,by have:=h.2; subst this; exact List.length_eq_zero_iff.1 (by simpa using s2.symm)⟩) ?_⟩
   rintro⟨b,cap,cur,h1,h2,h3,h4,h5,h6,h7⟩
   refine⟨b,cap,cur,by rw[← s2]; exact h1,by rw[← s2]; exact h2,h3,h4,h5,h6,fun i s hi=>?_⟩
   have hm:(rows.flatten.map AV.sc)[i]? = some (some s) :=(by rw[s1,List.getElem?_map,hi]; rfl);rw[List.getElem?_map]at hm;obtain⟨x,hx,hxs⟩:=Option.map_eq_some_iff.1 hm;obtain⟨u,hu,hr,_⟩:=h7 i x hx;exact⟨u,hu,AV.sc_rep hxs hr⟩
  ·exact hc.hp j o h
 ·rcases hget hj with ⟨rfl,rfl⟩ | ⟨_,h⟩
  ·exact⟨(hc.hplt j _ hk).1,rfl⟩
  ·exact hc.hplt j o h
theorem zYl:∀ r:List S,zMT (r.map AV.s)=some r
 | []=>rfl
 | x::r=>by simp[zMT,AV.sc,zYl r]
theorem zWg:∀ rows:List (List S),zIB (rows.map (·.map AV.s))=some rows
 | []=>rfl
 | r::rows=>by simp[zIB,zYl r,zWg rows]
theorem zMj:∀ {a b:List (List AV)}{x y:List (List S)},zIB a=some x->zIB b=some y->zIB (a++b)=some (x++y)
 | [],b,x,y,h,h'=>by
  simp only[zIB,Option.some.injEq]at h;subst h;exact h'
 | r::a,b,x,y,h,h'=>by
  simp only[zIB]at h;split at h
  ·rename_i z zs h1 h2
   cases h;simp[zIB,h1,zMj h2 h']
  ·cases h
theorem zVQ {k:Nat}{r:AV}{p:Nat->AV}:∀ l:List S,AV.frzAll k r p (l.map AV.s)=l.map AV.s
 | []=>rfl
 | x::l=>by simp[AV.frzAll,AV.frz,zVQ l]
theorem zWJ {k:Nat}{r:AV}{p:Nat->AV} (rows:List (List S)):(rows.map (·.map AV.s)).map (AV.frzAll k r p)=rows.map (·.map AV.s):=by
 rw[List.map_map]
 exact List.map_congr_left fun l _=>zVQ l
end Go.Abs
namespace Go.Proofs.YtgplhldfbkmmgaaGreat
open Go.Abs
def zN5 (xs:List AV) (os:List Ob) (x:AV) (os':List (Option Ob)):Prop:=∃ (y0:CV),zDx=some y0/\xs=[.orow 0]/\os=[.row 68 4 []]/\x = .agg (match y0 with | .mk k i t _=>[.s (.int .i64 k),.s (.int .i64 i),.s (.str t),.orow 1])/\os'=[none,some (.row 68 4 (match y0 with | .mk _ _ _ l=>CV.encs l))]
def zEh:zAr:=zBI (fun xs os x os'=>zN5 xs os x os') (some 0)
theorem zE1:PSound Tryz.prog 58 zEh:=by
 have gok:=@gok0 Tryz.prog;refine PSound.withNil (zDZ tokW Tryz.call58 Tryz.func58 rfl (fun xs os x os' h=>by obtain⟨_,_,rfl,rfl,_,rfl⟩:=h; exact⟨by show 1<=5; decide,by show 1<=2; decide⟩) 5 rfl ?_) _;rintro xs os x os' w0 G0 B0 ⟨y0,h,rfl,rfl,rfl,rfl⟩ _;rw[zDx]at h;cases h;refine yAh [2] [] rfl ?_;refine yAW ?_;refine zAd ?_;unfold zBb
 exact⟨_,(Le.rnm [(0,1),(1,2)] [(2,.op 2 0)] [(1,.row 68 4 []),(2,.box 68 [.s (.int .i64 3),.s (.int .i64 0),.s (.str []),.orow 1])] 3 ⟨rfl,trivial⟩ ⟨rfl,⟨_,rfl,rfl⟩,rfl,⟨_,rfl,rfl⟩,trivial⟩),rfl,rfl,rfl,rfl,trivial⟩
end Go.Proofs.YtgplhldfbkmmgaaGreat
