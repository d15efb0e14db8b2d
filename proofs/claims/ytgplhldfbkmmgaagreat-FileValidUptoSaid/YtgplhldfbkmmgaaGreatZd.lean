/-
  Joined out of: FzVA, FzVB, LibG, LibH, LibW, AbsY, LibO, LibR, FzE, LibE, FzF, RwA, LibL, FzCA, FzCB.
-/
import Derived.WalkKit
import Derived.Lib.Walk
import Derived.Lib.SliceRun
import Derived.Lib.AppendZerosOnto
import Derived.Shelf.RegionOpenPlain
import Derived.Test.YtgplhldfbkmmgaaGreatZc
set_option linter.unusedVariables false
set_option linter.unusedSimpArgs false
set_option maxHeartbeats 2000000
set_option maxRecDepth 100000
namespace Go.Proofs.YtgplhldfbkmmgaaGreat
open Go.Abs
def zQj (xs:List AV) (r:Ret):Prop:=∃ (a0:List UInt8) (y0:Bool),zBZ a0=some y0/\xs=[.s (.str a0)]/\r = .val (.s (.bool y0))
def zKP:zAp:=zAn fun xs r=>zQj xs r
theorem zPw:PSound Tryz.prog 138 zKP:=by
 have gok:=@gok0 Tryz.prog;refine zAo tokW Tryz.call138 Tryz.func138 rfl (fun xs r h=>by obtain⟨_,_,_,rfl,_⟩:=h; show 1<=5; decide) 5 rfl ?_;rintro xs r w0 G0 ⟨s1,y0,h,rfl,rfl⟩ _;rw[zBZ]at h;refine zYc ?_;refine zYc ?_;refine zAd ?_;have hy:=osi h;subst hy;exact fin0 rfl rfl
def zNy (n:Nat) (xs:List AV) (r:Ret):Prop:=∃ (a0:List UInt8) (y0:Bool),zC9 n a0=some y0/\xs=[.s (.str a0)]/\r = .val (.s (.bool y0))
def zIP:zAp:=zAn fun xs r=>∃ n,zNy n xs r
theorem zMP:PSound Tryz.prog 170 zIP:=by
 have gok:=@gok0 Tryz.prog;refine zAo tokW Tryz.call170 Tryz.func170 rfl (fun xs r h=>by obtain⟨n,_,_,_,rfl,_⟩:=h; show 1<=21; decide) 21 rfl ?_;rintro xs r w0 G0 ⟨n,s1,y0,h,rfl,rfl⟩ _;rw[zC9]at h;refine zYc ?_;refine zAa ?_;refine zYc ?_;show Tri ..;obtain⟨fl,hl,ho1⟩:=zAc h;refine zBO (fl:=fl) (fun z=>match z with | _=>⟨ofL [],fun _=>none,0⟩) ?_ (fun z σ' hz hle=>?_)
 ·refine zAj (zAt (X:=Nat×Int) (fun y=>match y with | (k,i2)=>⟨ofL [(0,.s (.str s1)),(3,.s (.int .i64 i2))],fun _=>none,0⟩) (fun y=>zBl s1 y.1 y.2=some fl) (fun y=>y.1) (n,0) hl ?_ ?_)
  ·exact(Le.forget _ ⟨rfl,rfl,trivial⟩)
  ·rintro⟨k,i2⟩ h;cases k with
   | zero=>cases h
   | succ k =>
    replace h:zBl s1 (k+1) i2=some fl:=h;rw[zBl]at h;refine zAa ?_;refine zYc ?_;refine zAg rfl h (fun hb h=>?_) (fun hb h=>?_)
    ·refine zAe ?_;refine zAa ?_;refine zAj ?_;refine zXw [] [13] rfl ?_;obtain⟨c3,hc3,h⟩:=zAc h;refine And.intro (zBB hc3).1 ?_;intro v4 hv4;obtain rfl:(c3.toNat:Int)=v4:=(hv4.trans (zBB hc3).2).symm;refine zAa ?_;obtain⟨x5,hj,h⟩:=zAc h;refine zAk ⟨ofL [(0,.s (.str s1)),(3,.s (.int .i64 i2)),(20,.s (.bool x5))],fun _=>none,0⟩ ?_ (fun σ' hle=>?_)
     ·replace h:=hj;refine zAb [] [17] rfl ?_;intro b hb;cases b with
      | true =>
       replace h:=zAv hb.symm h;cases h;exact(Le.forget _ ⟨rfl,rfl,rfl,trivial⟩)
      | false =>
       replace h:=zAu hb.symm h;cases h;exact(Le.forget _ ⟨rfl,rfl,rfl,trivial⟩)
     ·refine zAi hle ?_;refine zAg rfl h (fun hb h=>?_) (fun hb h=>?_)
      ·refine zYc ?_;refine zAd ?_;cases h;replace h:some _=some _:=ho1;have hy:=osi h;subst hy;exact fin0 rfl rfl
      ·refine zAe ?_;refine zYb ?_;refine⟨(k,IntKind.i64.wrap (i2+1)),h,(Le.forget _ ⟨rfl,rfl,trivial⟩),Nat.lt_succ_self k⟩
    ·refine zAx ?_;cases h;exact⟨_,rfl,(Le.forget _ trivial)⟩
 ·subst hz;obtain _:=z;replace h:=ho1;refine zAi hle ?_;refine zYc ?_;refine zAd ?_;have hy:=osi h;subst hy;exact fin0 rfl rfl
def zNx (xs:List AV) (r:Ret):Prop:=∃ (a0:List UInt8) (y0:Bool),zD0 a0=some y0/\xs=[.s (.str a0)]/\r = .val (.s (.bool y0))
def zIO:zAp:=zAn fun xs r=>zNx xs r
theorem zMO:PSound Tryz.prog 172 zIO:=by
 have gok:=@gok0 Tryz.prog;refine zAo tokW Tryz.call172 Tryz.func172 rfl (fun xs r h=>by obtain⟨_,_,_,rfl,_⟩:=h; show 1<=9; decide) 9 rfl ?_;rintro xs r w0 G0 ⟨s1,y0,h,rfl,rfl⟩ _;rw[zD0]at h;refine zYc ?_;refine zAa ?_;refine zYc ?_;show Tri ..;obtain⟨fl,hj,ho1⟩:=zAc h;refine zBO (fl:=fl) (fun z=>match z with | _=>⟨ofL [],fun _=>none,0⟩) ?_ (fun z σ' hz hle=>?_)
 ·replace h:=hj;refine zAj ?_;refine zAa ?_;refine zYc ?_;show Tri ..;obtain⟨x2,hj,h⟩:=zAc h;refine zAk ⟨ofL [(4,.s (.bool x2))],fun _=>none,0⟩ ?_ (fun σ' hle=>?_)
  ·replace h:=hj;refine zAg rfl h (fun hb h=>?_) (fun hb h=>?_)
   ·refine zAe ?_;cases h;exact(Le.forget _ ⟨rfl,trivial⟩)
   ·refine zYc ?_;refine zAg rfl h (fun hb h=>?_) (fun hb h=>?_)
    ·refine zAe ?_;cases h;exact(Le.forget _ ⟨rfl,trivial⟩)
    ·refine zYc ?_;refine zAg rfl h (fun hb h=>?_) (fun hb h=>?_)
     ·refine zAe ?_;cases h;exact(Le.forget _ ⟨rfl,trivial⟩)
     ·refine zYb ?_;cases h;exact(Le.forget _ ⟨rfl,trivial⟩)
  ·refine zAi hle ?_;refine zAg rfl h (fun hb h=>?_) (fun hb h=>?_)
   ·refine zYc ?_;refine zAd ?_;cases h;replace h:some _=some _:=ho1;have hy:=osi h;subst hy;exact fin0 rfl rfl
   ·refine zAe ?_;cases h;exact⟨_,rfl,(Le.forget _ trivial)⟩
 ·subst hz;obtain _:=z;replace h:=ho1;refine zAi hle ?_;refine zYc ?_;refine zAd ?_;have hy:=osi h;subst hy;exact fin0 rfl rfl
def zO0 (xs:List AV) (r:Ret):Prop:=∃ (a0:List UInt8) (y0:Bool),zDH a0=some y0/\xs=[.s (.str a0)]/\r = .val (.s (.bool y0))
def zG8:zAp:=zAn fun xs r=>zO0 xs r
theorem zIX:PSound Tryz.prog 142 zG8:=by
 have gok:=@gok0 Tryz.prog;refine zAo tokW Tryz.call142 Tryz.func142 rfl (fun xs r h=>by obtain⟨_,_,_,rfl,_⟩:=h; show 1<=11; decide) 11 rfl ?_;rintro xs r w0 G0 ⟨s1,y0,h,rfl,rfl⟩ _;rw[zDH]at h;refine zYc ?_;refine zAa ?_;refine zYc ?_;show Tri ..;obtain⟨fl,hj,ho1⟩:=zAc h;refine zBO (fl:=fl) (fun z=>match z with | _=>⟨ofL [],fun _=>none,0⟩) ?_ (fun z σ' hz hle=>?_)
 ·replace h:=hj;refine zAj ?_;refine zAa ?_;refine zYc ?_;show Tri ..;obtain⟨x2,hj,h⟩:=zAc h;refine zAk ⟨ofL [(4,.s (.bool x2))],fun _=>none,0⟩ ?_ (fun σ' hle=>?_)
  ·replace h:=hj;refine zAg rfl h (fun hb h=>?_) (fun hb h=>?_)
   ·refine zAe ?_;cases h;exact(Le.forget _ ⟨rfl,trivial⟩)
   ·refine zYc ?_;refine zAg rfl h (fun hb h=>?_) (fun hb h=>?_)
    ·refine zAe ?_;cases h;exact(Le.forget _ ⟨rfl,trivial⟩)
    ·refine zYc ?_;refine zAg rfl h (fun hb h=>?_) (fun hb h=>?_)
     ·refine zAe ?_;cases h;exact(Le.forget _ ⟨rfl,trivial⟩)
     ·refine zYc ?_;refine zAg rfl h (fun hb h=>?_) (fun hb h=>?_)
      ·refine zAe ?_;cases h;exact(Le.forget _ ⟨rfl,trivial⟩)
      ·refine zYc ?_;refine zAg rfl h (fun hb h=>?_) (fun hb h=>?_)
       ·refine zAe ?_;cases h;exact(Le.forget _ ⟨rfl,trivial⟩)
       ·refine zYb ?_;cases h;exact(Le.forget _ ⟨rfl,trivial⟩)
  ·refine zAi hle ?_;refine zAg rfl h (fun hb h=>?_) (fun hb h=>?_)
   ·refine zYc ?_;refine zAd ?_;cases h;replace h:some _=some _:=ho1;have hy:=osi h;subst hy;exact fin0 rfl rfl
   ·refine zAe ?_;cases h;exact⟨_,rfl,(Le.forget _ trivial)⟩
 ·subst hz;obtain _:=z;replace h:=ho1;refine zAi hle ?_;refine zYc ?_;refine zAd ?_;have hy:=osi h;subst hy;exact fin0 rfl rfl
def zOZ (n:Nat) (xs:List AV) (r:Ret):Prop:=∃ (a0:List UInt8) (y0:Bool),zEs n a0=some y0/\xs=[.s (.str a0)]/\r = .val (.s (.bool y0))
def zJJ:zAp:=zAn fun xs r=>∃ n,zOZ n xs r
theorem zNR:PSound Tryz.prog 139 zJJ:=by
 have gok:∀ f s,look? f [(170,zIP),(171,zGj),(172,zIO),(142,zG8)]=some s->PSound Tryz.prog f s:=zAl (by
  simp only[List.forall_mem_cons]
  exact⟨zMP,zJo,zMO,zIX,by simp⟩)
 refine zAo tokW Tryz.call139 Tryz.func139 rfl (fun xs r h=>by obtain⟨n,_,_,_,rfl,_⟩:=h; show 1<=34; decide) 34 rfl ?_;rintro xs r w0 G0 ⟨n,s1,y0,h,rfl,rfl⟩ _;rw[zEs]at h;refine zYc ?_;refine zAa ?_;refine zYc ?_;refine zAg rfl h (fun hb h=>?_) (fun hb h=>?_)
 ·refine zAa ?_;obtain⟨x2,hj,h⟩:=zAc h;refine zAk ⟨ofL [(2,.s (.bool x2))],fun _=>none,0⟩ ?_ (fun σ' hle=>?_)
  ·replace h:=hj;refine zAb [] [8] rfl ?_;obtain⟨y3,hy3,h⟩:=zAc h;refine⟨_,⟨_,_,_,hy3,rfl,rfl⟩,?_⟩
   intro b hb;cases b with
   | true =>
    replace h:=zAv hb.symm h;cases h;exact(Le.forget _ ⟨rfl,trivial⟩)
   | false =>
    replace h:=zAu hb.symm h;obtain⟨y4,hy4,h⟩:=zAc h;refine⟨_,⟨_,_,_,hy4,rfl,rfl⟩,?_⟩
    cases h;exact(Le.forget _ ⟨rfl,trivial⟩)
  ·refine zAi hle ?_;refine zAd ?_;have hy:=osi h;subst hy;exact fin0 rfl rfl
 ·refine zAe ?_;refine zAa ?_;obtain⟨x5,hj,h⟩:=zAc h;refine zAk ⟨ofL [(2,.s (.bool x5))],fun _=>none,0⟩ ?_ (fun σ' hle=>?_)
  ·replace h:=hj;refine zAb [] [15,20,24,29] rfl ?_;intro b hb;cases b with
   | true =>
    replace h:=zAv hb.symm h;intro b hb;cases b with
    | true =>
     replace h:=zAv hb.symm h;obtain⟨y6,hy6,h⟩:=zAc h;refine⟨_,⟨_,_,_,hy6,rfl,rfl⟩,?_⟩
     intro b hb;cases b with
     | true =>
      replace h:=zAv hb.symm h;obtain⟨y7,hy7,h⟩:=zAc h;refine⟨_,⟨_,_,hy7,rfl,rfl⟩,?_⟩
      intro b hb;cases b with
      | true =>
       replace h:=zAv hb.symm h;obtain⟨y8,hy8,h⟩:=zAc h;refine⟨_,⟨_,_,hy8,rfl,rfl⟩,?_⟩
       cases h;exact(Le.forget _ ⟨rfl,trivial⟩)
      | false =>
       replace h:=zAu hb.symm h;cases h;exact(Le.forget _ ⟨rfl,trivial⟩)
     | false =>
      replace h:=zAu hb.symm h;intro b hb;subst hb;cases h;exact(Le.forget _ ⟨rfl,trivial⟩)
    | false =>
     replace h:=zAu hb.symm h;intro b hb;subst hb;intro b hb;subst hb;cases h;exact(Le.forget _ ⟨rfl,trivial⟩)
   | false =>
    replace h:=zAu hb.symm h;intro b hb;subst hb;intro b hb;subst hb;intro b hb;subst hb;cases h;exact(Le.forget _ ⟨rfl,trivial⟩)
  ·refine zAi hle ?_;refine zAd ?_;have hy:=osi h;subst hy;exact fin0 rfl rfl
def zKm (xs:List AV) (r:Ret):Prop:=∃ (a0:List UInt8) (a1:List UInt8) (y0:List UInt8) (y1:List UInt8) (y2:Bool),zCH a0 a1=some (y0,y1,y2)/\xs=[.s (.str a0),.s (.str a1)]/\r = .val (.tup [.s (.str y0),.s (.str y1),.s (.bool y2)])
def zGL:zAp:=zAn fun xs r=>zKm xs r
theorem zJ4:PSound Tryz.prog 193 zGL:=by
 have gok:∀ f s,look? f [(200,zFQ)]=some s->PSound Tryz.prog f s:=zAl (by
  simp only[List.forall_mem_cons]
  exact⟨zIE,by simp⟩)
 refine zAo tokW Tryz.call193 Tryz.func193 rfl (fun xs r h=>by obtain⟨_,_,_,_,_,_,rfl,_⟩:=h; show 2<=23; decide) 23 rfl ?_;rintro xs r w0 G0 ⟨s1,sep2,y0,y1,y2,h,rfl,rfl⟩ _;rw[zCH]at h;refine zYc ?_;refine zAa ?_;refine zYc ?_;obtain⟨y3,hy3,h⟩:=zAc h;refine⟨_,⟨_,_,_,hy3,rfl,rfl⟩,?_⟩
 refine zYc ?_;refine zAg rfl h (fun hb h=>?_) (fun hb h=>?_)
 ·refine zAa ?_;refine zAO [] [] [] rfl (by decide +kernel) ?_;obtain⟨hq,h⟩:=zAy h;refine And.intro hq ?_;obtain⟨hq,h⟩:=zAy h;refine And.intro hq ?_;refine zAd ?_;obtain⟨hj1,hk1⟩:=pij h;subst hj1;obtain⟨hj2,hk2⟩:=Prod.mk.inj hk1;subst hj2;subst hk2;exact fin0 rfl rfl
 ·refine zAe ?_;refine zYc ?_;refine zAd ?_;obtain⟨hj1,hk1⟩:=pij h;subst hj1;obtain⟨hj2,hk2⟩:=Prod.mk.inj hk1;subst hj2;subst hk2;exact fin0 rfl rfl
def zO6 (xs:List AV) (r:Ret):Prop:=∃ (a0:List UInt8) (a1:List UInt8) (y0:List UInt8) (y1:List UInt8) (y2:Bool),zEx a0 a1=some (y0,y1,y2)/\xs=[.s (.str a0),.s (.str a1)]/\r = .val (.tup [.s (.str y0),.s (.str y1),.s (.bool y2)])
def zJN:zAp:=zAn fun xs r=>zO6 xs r
theorem zNV:PSound Tryz.prog 173 zJN:=by
 have gok:∀ f s,look? f [(193,zGL)]=some s->PSound Tryz.prog f s:=zAl (by
  simp only[List.forall_mem_cons]
  exact⟨zJ4,by simp⟩)
 refine zAo tokW Tryz.call173 Tryz.func173 rfl (fun xs r h=>by obtain⟨_,_,_,_,_,_,rfl,_⟩:=h; show 2<=13; decide) 13 rfl ?_;rintro xs r w0 G0 ⟨s1,sep2,y0,y1,y2,h,rfl,rfl⟩ _;rw[zEx]at h;refine zYc ?_;refine zYc ?_;obtain⟨⟨y3,y4,y5⟩,hy3,h⟩:=zAc h;refine⟨_,⟨_,_,_,_,_,hy3,rfl,rfl⟩,?_⟩
 refine zAd ?_;obtain⟨hj1,hk1⟩:=pij h;subst hj1;obtain⟨hj2,hk2⟩:=Prod.mk.inj hk1;subst hj2;subst hk2;exact fin0 rfl rfl
def zO1 (n:Nat) (xs:List AV) (r:Ret):Prop:=∃ (a0:List UInt8) (y0:Bool),zDI n a0=some y0/\xs=[.s (.str a0)]/\r = .val (.s (.bool y0))
def zJK:zAp:=zAn fun xs r=>∃ n,zO1 n xs r
theorem zNS:PSound Tryz.prog 174 zJK:=by
 have gok:=@gok0 Tryz.prog;refine zAo tokW Tryz.call174 Tryz.func174 rfl (fun xs r h=>by obtain⟨n,_,_,_,rfl,_⟩:=h; show 1<=22; decide) 22 rfl ?_;rintro xs r w0 G0 ⟨n,s1,y0,h,rfl,rfl⟩ _;rw[zDI]at h;refine zYc ?_;refine zAa ?_;refine zYc ?_;show Tri ..;obtain⟨fl,hl,ho1⟩:=zAc h;refine zBO (fl:=fl) (fun z=>match z with | _=>⟨ofL [(0,.s (.str s1))],fun _=>none,0⟩) ?_ (fun z σ' hz hle=>?_)
 ·refine zAj (zAt (X:=Nat×Int) (fun y=>match y with | (k,i2)=>⟨ofL [(0,.s (.str s1)),(3,.s (.int .i64 i2))],fun _=>none,0⟩) (fun y=>zBt s1 y.1 y.2=some fl) (fun y=>y.1) (n,0) hl ?_ ?_)
  ·exact(Le.forget _ ⟨rfl,rfl,trivial⟩)
  ·rintro⟨k,i2⟩ h;cases k with
   | zero=>cases h
   | succ k =>
    replace h:zBt s1 (k+1) i2=some fl:=h;rw[zBt]at h;refine zAa ?_;refine zYc ?_;refine zAg rfl h (fun hb h=>?_) (fun hb h=>?_)
    ·refine zAe ?_;refine zAa ?_;refine zAj ?_;refine zAa ?_;obtain⟨x3,hj,h⟩:=zAc h;refine zAk ⟨ofL [(0,.s (.str s1)),(3,.s (.int .i64 i2)),(19,.s (.bool x3))],fun _=>none,0⟩ ?_ (fun σ' hle=>?_)
     ·replace h:=hj;refine zAb [] [12,14,17] rfl ?_;obtain⟨c4,hc4,h⟩:=zAc h;refine And.intro (zBB hc4).1 ?_;intro v5 hv5;obtain rfl:(c4.toNat:Int)=v5:=(hv5.trans (zBB hc4).2).symm;intro b hb;cases b with
      | true =>
       replace h:=zAv hb.symm h;cases h;exact(Le.forget _ ⟨rfl,rfl,rfl,trivial⟩)
      | false =>
       replace h:=zAu hb.symm h;obtain⟨c6,hc6,h⟩:=zAc h;refine And.intro (zBB hc6).1 ?_;intro v7 hv7;obtain rfl:(c6.toNat:Int)=v7:=(hv7.trans (zBB hc6).2).symm;cases h;exact(Le.forget _ ⟨rfl,rfl,rfl,trivial⟩)
     ·refine zAi hle ?_;refine zAg rfl h (fun hb h=>?_) (fun hb h=>?_)
      ·refine zYc ?_;refine zAd ?_;cases h;replace h:some _=some _:=ho1;have hy:=osi h;subst hy;exact fin0 rfl rfl
      ·refine zAe ?_;refine zYb ?_;refine⟨(k,IntKind.i64.wrap (i2+1)),h,(Le.forget _ ⟨rfl,rfl,trivial⟩),Nat.lt_succ_self k⟩
    ·refine zAx ?_;cases h;exact⟨_,rfl,(Le.forget _ ⟨rfl,trivial⟩)⟩
 ·subst hz;obtain _:=z;replace h:=ho1;refine zAi hle ?_;refine zYc ?_;refine zAd ?_;have hy:=osi h;subst hy;exact fin0 rfl rfl
def zOY (n:Nat) (xs:List AV) (r:Ret):Prop:=∃ (a0:List UInt8) (y0:Bool),zDG n a0=some y0/\xs=[.s (.str a0)]/\r = .val (.s (.bool y0))
def zJI:zAp:=zAn fun xs r=>∃ n,zOY n xs r
theorem zNQ:PSound Tryz.prog 140 zJI:=by
 have gok:∀ f s,look? f [(173,zJN),(174,zJK)]=some s->PSound Tryz.prog f s:=zAl (by
  simp only[List.forall_mem_cons]
  exact⟨zNV,zNS,by simp⟩)
 refine zAo tokW Tryz.call140 Tryz.func140 rfl (fun xs r h=>by obtain⟨n,_,_,_,rfl,_⟩:=h; show 1<=27; decide) 27 rfl ?_;rintro xs r w0 G0 ⟨n,s1,y0,h,rfl,rfl⟩ _;rw[zDG]at h;refine zYc ?_;refine zYc ?_;obtain⟨⟨y2,y3,y4⟩,hy2,h⟩:=zAc h;refine⟨_,⟨_,_,_,_,_,hy2,rfl,rfl⟩,?_⟩
 refine zAa ?_;obtain⟨x5,hj,h⟩:=zAc h;refine zAk ⟨ofL [(2,.s (.bool x5))],fun _=>none,0⟩ ?_ (fun σ' hle=>?_)
 ·replace h:=hj;refine zAb [] [15,19,22] rfl ?_;intro b hb;cases b with
  | true =>
   replace h:=zAv hb.symm h;obtain⟨y6,hy6,h⟩:=zAc h;refine⟨_,⟨_,_,_,hy6,rfl,rfl⟩,?_⟩
   intro b hb;cases b with
   | true =>
    replace h:=zAv hb.symm h;intro b hb;cases b with
    | true =>
     replace h:=zAv hb.symm h;cases h;exact(Le.forget _ ⟨rfl,trivial⟩)
    | false =>
     replace h:=zAu hb.symm h;obtain⟨y7,hy7,h⟩:=zAc h;refine⟨_,⟨_,_,_,hy7,rfl,rfl⟩,?_⟩
     cases h;exact(Le.forget _ ⟨rfl,trivial⟩)
   | false =>
    replace h:=zAu hb.symm h;cases h;exact(Le.forget _ ⟨rfl,trivial⟩)
  | false =>
   replace h:=zAu hb.symm h;intro b hb;subst hb;cases h;exact(Le.forget _ ⟨rfl,trivial⟩)
 ·refine zAi hle ?_;refine zAd ?_;have hy:=osi h;subst hy;exact fin0 rfl rfl
def zQm (n:Nat) (xs:List AV) (r:Ret):Prop:=∃ (a0:List UInt8) (y0:Bool),zE5 n a0=some y0/\xs=[.s (.str a0)]/\r = .val (.s (.bool y0))
def zKS:zAp:=zAn fun xs r=>∃ n,zQm n xs r
theorem zPz:PSound Tryz.prog 141 zKS:=by
 have gok:=@gok0 Tryz.prog;refine zAo tokW Tryz.call141 Tryz.func141 rfl (fun xs r h=>by obtain⟨n,_,_,_,rfl,_⟩:=h; show 1<=23; decide) 23 rfl ?_;rintro xs r w0 G0 ⟨n,s1,y0,h,rfl,rfl⟩ _;rw[zE5]at h;refine zYc ?_;refine zAa ?_;refine zYc ?_;show Tri ..;obtain⟨fl,hl,ho1⟩:=zAc h;refine zBO (fl:=fl) (fun z=>match z with | _=>⟨ofL [(0,.s (.str s1))],fun _=>none,0⟩) ?_ (fun z σ' hz hle=>?_)
 ·refine zAj (zAt (X:=Nat×Int) (fun y=>match y with | (k,i2)=>⟨ofL [(0,.s (.str s1)),(3,.s (.int .i64 i2))],fun _=>none,0⟩) (fun y=>zBG s1 y.1 y.2=some fl) (fun y=>y.1) (n,0) hl ?_ ?_)
  ·exact(Le.forget _ ⟨rfl,rfl,trivial⟩)
  ·rintro⟨k,i2⟩ h;cases k with
   | zero=>cases h
   | succ k =>
    replace h:zBG s1 (k+1) i2=some fl:=h;rw[zBG]at h;refine zAa ?_;refine zYc ?_;refine zAg rfl h (fun hb h=>?_) (fun hb h=>?_)
    ·refine zAe ?_;refine zAa ?_;refine zAj ?_;refine zAa ?_;obtain⟨x3,hj,h⟩:=zAc h;refine zAk ⟨ofL [(0,.s (.str s1)),(3,.s (.int .i64 i2)),(19,.s (.bool x3))],fun _=>none,0⟩ ?_ (fun σ' hle=>?_)
     ·replace h:=hj;refine zAb [] [12,14,17] rfl ?_;obtain⟨c4,hc4,h⟩:=zAc h;refine And.intro (zBB hc4).1 ?_;intro v5 hv5;obtain rfl:(c4.toNat:Int)=v5:=(hv5.trans (zBB hc4).2).symm;intro b hb;cases b with
      | true =>
       replace h:=zAv hb.symm h;cases h;exact(Le.forget _ ⟨rfl,rfl,rfl,trivial⟩)
      | false =>
       replace h:=zAu hb.symm h;obtain⟨c6,hc6,h⟩:=zAc h;refine And.intro (zBB hc6).1 ?_;intro v7 hv7;obtain rfl:(c6.toNat:Int)=v7:=(hv7.trans (zBB hc6).2).symm;cases h;exact(Le.forget _ ⟨rfl,rfl,rfl,trivial⟩)
     ·refine zAi hle ?_;refine zAg rfl h (fun hb h=>?_) (fun hb h=>?_)
      ·refine zYc ?_;refine zAd ?_;cases h;replace h:some _=some _:=ho1;have hy:=osi h;subst hy;exact fin0 rfl rfl
      ·refine zAe ?_;refine zYb ?_;refine⟨(k,IntKind.i64.wrap (i2+1)),h,(Le.forget _ ⟨rfl,rfl,trivial⟩),Nat.lt_succ_self k⟩
    ·refine zAx ?_;cases h;exact⟨_,rfl,(Le.forget _ ⟨rfl,trivial⟩)⟩
 ·subst hz;obtain _:=z;replace h:=ho1;refine zAi hle ?_;refine zYc ?_;refine zAd ?_;have hy:=osi h;subst hy;exact fin0 rfl rfl
def zQk (xs:List AV) (r:Ret):Prop:=∃ (a0:List UInt8) (y0:Bool),zE4 a0=some y0/\xs=[.s (.str a0)]/\r = .val (.s (.bool y0))
def zKQ:zAp:=zAn fun xs r=>zQk xs r
theorem zPx:PSound Tryz.prog 143 zKQ:=by
 have gok:∀ f s,look? f [(175,zFP)]=some s->PSound Tryz.prog f s:=zAl (by
  simp only[List.forall_mem_cons]
  exact⟨zID,by simp⟩)
 refine zAo tokW Tryz.call143 Tryz.func143 rfl (fun xs r h=>by obtain⟨_,_,_,rfl,_⟩:=h; show 1<=18; decide) 18 rfl ?_;rintro xs r w0 G0 ⟨s1,y0,h,rfl,rfl⟩ _;rw[zE4]at h;refine zYc ?_;refine zAa ?_;obtain⟨x2,hj,h⟩:=zAc h;refine zAk ⟨ofL [(2,.s (.bool x2))],fun _=>none,0⟩ ?_ (fun σ' hle=>?_)
 ·replace h:=hj;refine zAb [] [6,8,12,14] rfl ?_;intro b hb;cases b with
  | true =>
   replace h:=zAv hb.symm h;obtain⟨c3,hc3,h⟩:=zAc h;refine And.intro (zBB hc3).1 ?_;intro v4 hv4;obtain rfl:(c3.toNat:Int)=v4:=(hv4.trans (zBB hc3).2).symm;obtain⟨y5,hy5,h⟩:=zAc h;refine⟨_,⟨_,_,_,hy5,rfl,rfl⟩,?_⟩
   intro b hb;cases b with
   | true =>
    replace h:=zAv hb.symm h;obtain⟨c6,hc6,h⟩:=zAc h;refine And.intro (zBB hc6).1 ?_;intro v7 hv7;obtain rfl:(c6.toNat:Int)=v7:=(hv7.trans (zBB hc6).2).symm;obtain⟨y8,hy8,h⟩:=zAc h;refine⟨_,⟨_,_,_,hy8,rfl,rfl⟩,?_⟩
    cases h;exact(Le.forget _ ⟨rfl,trivial⟩)
   | false =>
    replace h:=zAu hb.symm h;cases h;exact(Le.forget _ ⟨rfl,trivial⟩)
  | false =>
   replace h:=zAu hb.symm h;intro b hb;subst hb;cases h;exact(Le.forget _ ⟨rfl,trivial⟩)
 ·refine zAi hle ?_;refine zAd ?_;have hy:=osi h;subst hy;exact fin0 rfl rfl
def zBi (p:Unit):List S:=[.str [],.int .i64 0,.nf,.str [114,111,119],.int .i64 0,.fn 138,.str [115,121,109],.int .i64 0,.fn 139,.str [110,117,109],.int .i64 0,.fn 140,.str [116,101,120,116],.int .i64 0,.fn 141,.str [102,114,97,99],.int .i64 2,.fn 138,.str [114,111,111,116],.int .i64 2,.fn 138,.str [115,117,98],.int .i64 2,.fn 138,.str [115,117,112],.int .i64 2,.fn 138,.str [98,111,116,104],.int .i64 3,.fn 138,.str [97,99,99,101,110,116],.int .i64 1,.fn 142,.str [102,101,110,99,101],.int .i64 1,.fn 143,.str [109,97,116,114,105,120],.int .i64 0,.fn 138]
def zQl (xs:List AV) (r:Ret):Prop:=∃ (y0:Unit),zGm=some y0/\xs=[]/\r = .val (.agg ((zBi y0).map .s))
def zKR:zAp:=zAn fun xs r=>zQl xs r
theorem zPy:PSound Tryz.prog 109 zKR:=by
 have gok:=@gok0 Tryz.prog;refine zAo tokW Tryz.call109 Tryz.func109 rfl (fun xs r h=>by obtain⟨_,_,rfl,_⟩:=h; show 0<=14; decide) 14 rfl ?_;rintro xs r w0 G0 ⟨y0,h,rfl,rfl⟩ _;rw[zGm]at h;refine zXw [0] [] rfl ?_;refine zYc ?_;refine zAd ?_;have hy:=osi h;subst hy;exact fin0 rfl rfl
def zAJ (p:(Unit×Int)):List S:=[.str [],.int .i64 0,.nf,.str [114,111,119],.int .i64 0,.fn 138,.str [115,121,109],.int .i64 0,.fn 139,.str [110,117,109],.int .i64 0,.fn 140,.str [116,101,120,116],.int .i64 0,.fn 141,.str [102,114,97,99],.int .i64 2,.fn 138,.str [114,111,111,116],.int .i64 2,.fn 138,.str [115,117,98],.int .i64 2,.fn 138,.str [115,117,112],.int .i64 2,.fn 138,.str [98,111,116,104],.int .i64 3,.fn 138,.str [97,99,99,101,110,116],.int .i64 1,.fn 142,.str [102,101,110,99,101],.int .i64 1,.fn 143,.str [109,97,116,114,105,120],.int .i64 0,.fn 138,.int .i64 p.2]
def zJC (n:Nat) (xs:List AV) (os:List Ob) (x:AV) (os':List (Option Ob)):Prop:=∃ (a0:(Unit×Int)) (a1:Nd) (y0:Bool) (z0:(Unit×Int)),zCm n a0 a1=some (y0,z0)/\xs=[.op 0 0,.s (.pt (Nd.enc a1))]/\os=[.box 167 ((zAJ a0).map .s)]/\x = .s (.bool y0)/\os'=[some (.box 167 ((zAJ z0).map .s))]
def zGi:zAp:=zEO (fun xs os x os'=>∃ n,zJC n xs os x os')
theorem zJm:PSound Tryz.prog 144 zGi:=by
 have gok:∀ f s,look? f [(138,zKP),(139,zJJ),(140,zJI),(141,zKS),(142,zG8),(143,zKQ)]=some s->PSound Tryz.prog f s:=zAl (by
  simp only[List.forall_mem_cons]
  exact⟨zPw,zNR,zNQ,zPz,zIX,zPx,by simp⟩)
 refine PSound.withNil (zRC tokW Tryz.call144 Tryz.func144 rfl (fun xs os x os' h=>by obtain⟨n,_,_,_,_,_,rfl,rfl,_,rfl⟩:=h; exact⟨by show 2<=120; decide,by show 1<=1; decide⟩) 120 rfl ?_) _;rintro xs os x os' w0 G0 B0 ⟨n,⟨_,o1G⟩,⟨a2A,a2B,a2D,a2C⟩,y0,z0,h,rfl,rfl,rfl,rfl⟩ _;rw[zCm]at h;refine zYc ?_;refine zAa ?_;refine zAa ?_;obtain⟨x3,hj,h⟩:=zAc h
 refine zAk ⟨ofL [(0,.op 0 0),(1,.s (.pt [.int .i64 a2A,.str a2B,.int .i64 a2D,.sl 4 (Nd.encs a2C)])),(34,.s (.bool x3))],ofH [(0,.box 167 [.s (.str []),.s (.int .i64 0),.s (.nf),.s (.str [114,111,119]),.s (.int .i64 0),.s (.fn 138),.s (.str [115,121,109]),.s (.int .i64 0),.s (.fn 139),.s (.str [110,117,109]),.s (.int .i64 0),.s (.fn 140),.s (.str [116,101,120,116]),.s (.int .i64 0),.s (.fn 141),.s (.str [102,114,97,99]),.s (.int .i64 2),.s (.fn 138),.s (.str [114,111,111,116]),.s (.int .i64 2),.s (.fn 138),.s (.str [115,117,98]),.s (.int .i64 2),.s (.fn 138),.s (.str [115,117,112]),.s (.int .i64 2),.s (.fn 138),.s (.str [98,111,116,104]),.s (.int .i64 3),.s (.fn 138),.s (.str [97,99,99,101,110,116]),.s (.int .i64 1),.s (.fn 142),.s (.str [102,101,110,99,101]),.s (.int .i64 1),.s (.fn 143),.s (.str [109,97,116,114,105,120]),.s (.int .i64 0),.s (.fn 138),.s (.int .i64 o1G)])],1⟩ ?_ (fun σ' hle=>?_)
 ·replace h:=hj;refine zAO [] [10,17,22] [22] rfl (by decide +kernel) ?_;intro b hb;cases b with
  | true =>
   replace h:=zAv hb.symm h;intro b hb;subst hb;cases h;exact(Le.rnm [(0,0)] _ _ _ ⟨rfl,rfl,rfl,trivial⟩ ⟨rfl,⟨_,rfl,rfl⟩,trivial⟩)
  | false =>
   replace h:=zAu hb.symm h;intro b hb;cases b with
   | true =>
    replace h:=zAv hb.symm h;cases h;exact(Le.rnm [(0,0)] _ _ _ ⟨rfl,rfl,rfl,trivial⟩ ⟨rfl,⟨_,rfl,rfl⟩,trivial⟩)
   | false =>
    replace h:=zAu hb.symm h;intro vsp hvsp;cases hc:(a2A == 1) with
    | true =>
     replace h:=zAv hc h;obtain rfl:(1:Int)=vsp:=(hvsp.trans (eq_of_beq hc)).symm;refine And.intro (by decide) ?_;obtain⟨y4,hy4,h⟩:=zAc h;refine⟨_,⟨_,_,hy4,rfl,rfl⟩,?_⟩
     cases h;exact(Le.rnm [(0,0)] _ _ _ ⟨rfl,rfl,rfl,trivial⟩ ⟨rfl,⟨_,rfl,rfl⟩,trivial⟩)
    | false =>
     replace h:=zAu hc h;cases hc:(a2A == 2) with
     | true =>
      replace h:=zAv hc h;obtain rfl:(2:Int)=vsp:=(hvsp.trans (eq_of_beq hc)).symm;refine And.intro (by decide) ?_;obtain⟨y5,hy5,h⟩:=zAc h;refine⟨_,⟨_,_,_,hy5,rfl,rfl⟩,?_⟩
      cases h;exact(Le.rnm [(0,0)] _ _ _ ⟨rfl,rfl,rfl,trivial⟩ ⟨rfl,⟨_,rfl,rfl⟩,trivial⟩)
     | false =>
      replace h:=zAu hc h;cases hc:(a2A == 3) with
      | true =>
       replace h:=zAv hc h;obtain rfl:(3:Int)=vsp:=(hvsp.trans (eq_of_beq hc)).symm;refine And.intro (by decide) ?_;obtain⟨y6,hy6,h⟩:=zAc h;refine⟨_,⟨_,_,_,hy6,rfl,rfl⟩,?_⟩
       cases h;exact(Le.rnm [(0,0)] _ _ _ ⟨rfl,rfl,rfl,trivial⟩ ⟨rfl,⟨_,rfl,rfl⟩,trivial⟩)
      | false =>
       replace h:=zAu hc h;cases hc:(a2A == 4) with
       | true =>
        replace h:=zAv hc h;obtain rfl:(4:Int)=vsp:=(hvsp.trans (eq_of_beq hc)).symm;refine And.intro (by decide) ?_;obtain⟨y7,hy7,h⟩:=zAc h;refine⟨_,⟨_,_,_,hy7,rfl,rfl⟩,?_⟩
        cases h;exact(Le.rnm [(0,0)] _ _ _ ⟨rfl,rfl,rfl,trivial⟩ ⟨rfl,⟨_,rfl,rfl⟩,trivial⟩)
       | false =>
        replace h:=zAu hc h;cases hc:(a2A == 5) with
        | true =>
         replace h:=zAv hc h;obtain rfl:(5:Int)=vsp:=(hvsp.trans (eq_of_beq hc)).symm;refine And.intro (by decide) ?_;obtain⟨y8,hy8,h⟩:=zAc h;refine⟨_,⟨_,_,hy8,rfl,rfl⟩,?_⟩
         cases h;exact(Le.rnm [(0,0)] _ _ _ ⟨rfl,rfl,rfl,trivial⟩ ⟨rfl,⟨_,rfl,rfl⟩,trivial⟩)
        | false =>
         replace h:=zAu hc h;cases hc:(a2A == 6) with
         | true =>
          replace h:=zAv hc h;obtain rfl:(6:Int)=vsp:=(hvsp.trans (eq_of_beq hc)).symm;refine And.intro (by decide) ?_;obtain⟨y9,hy9,h⟩:=zAc h;refine⟨_,⟨_,_,hy9,rfl,rfl⟩,?_⟩
          cases h;exact(Le.rnm [(0,0)] _ _ _ ⟨rfl,rfl,rfl,trivial⟩ ⟨rfl,⟨_,rfl,rfl⟩,trivial⟩)
         | false =>
          replace h:=zAu hc h;cases hc:(a2A == 7) with
          | true =>
           replace h:=zAv hc h;obtain rfl:(7:Int)=vsp:=(hvsp.trans (eq_of_beq hc)).symm;refine And.intro (by decide) ?_;obtain⟨y10,hy10,h⟩:=zAc h;refine⟨_,⟨_,_,hy10,rfl,rfl⟩,?_⟩
           cases h;exact(Le.rnm [(0,0)] _ _ _ ⟨rfl,rfl,rfl,trivial⟩ ⟨rfl,⟨_,rfl,rfl⟩,trivial⟩)
          | false =>
           replace h:=zAu hc h;cases hc:(a2A == 8) with
           | true =>
            replace h:=zAv hc h;obtain rfl:(8:Int)=vsp:=(hvsp.trans (eq_of_beq hc)).symm;refine And.intro (by decide) ?_;obtain⟨y11,hy11,h⟩:=zAc h;refine⟨_,⟨_,_,hy11,rfl,rfl⟩,?_⟩
            cases h;exact(Le.rnm [(0,0)] _ _ _ ⟨rfl,rfl,rfl,trivial⟩ ⟨rfl,⟨_,rfl,rfl⟩,trivial⟩)
           | false =>
            replace h:=zAu hc h;cases hc:(a2A == 9) with
            | true =>
             replace h:=zAv hc h;obtain rfl:(9:Int)=vsp:=(hvsp.trans (eq_of_beq hc)).symm;refine And.intro (by decide) ?_;obtain⟨y12,hy12,h⟩:=zAc h;refine⟨_,⟨_,_,hy12,rfl,rfl⟩,?_⟩
             cases h;exact(Le.rnm [(0,0)] _ _ _ ⟨rfl,rfl,rfl,trivial⟩ ⟨rfl,⟨_,rfl,rfl⟩,trivial⟩)
            | false =>
             replace h:=zAu hc h;cases hc:(a2A == 10) with
             | true =>
              replace h:=zAv hc h;obtain rfl:(10:Int)=vsp:=(hvsp.trans (eq_of_beq hc)).symm;refine And.intro (by decide) ?_;obtain⟨y13,hy13,h⟩:=zAc h;refine⟨_,⟨_,_,hy13,rfl,rfl⟩,?_⟩
              cases h;exact(Le.rnm [(0,0)] _ _ _ ⟨rfl,rfl,rfl,trivial⟩ ⟨rfl,⟨_,rfl,rfl⟩,trivial⟩)
             | false =>
              replace h:=zAu hc h;cases hc:(a2A == 11) with
              | true =>
               replace h:=zAv hc h;obtain rfl:(11:Int)=vsp:=(hvsp.trans (eq_of_beq hc)).symm;refine And.intro (by decide) ?_;obtain⟨y14,hy14,h⟩:=zAc h;refine⟨_,⟨_,_,hy14,rfl,rfl⟩,?_⟩
               cases h;exact(Le.rnm [(0,0)] _ _ _ ⟨rfl,rfl,rfl,trivial⟩ ⟨rfl,⟨_,rfl,rfl⟩,trivial⟩)
              | false =>
               replace h:=zAu hc h;cases hc:(a2A == 12) with
               | true =>
                replace h:=zAv hc h;obtain rfl:(12:Int)=vsp:=(hvsp.trans (eq_of_beq hc)).symm;refine And.intro (by decide) ?_;obtain⟨y15,hy15,h⟩:=zAc h;refine⟨_,⟨_,_,hy15,rfl,rfl⟩,?_⟩
                cases h;exact(Le.rnm [(0,0)] _ _ _ ⟨rfl,rfl,rfl,trivial⟩ ⟨rfl,⟨_,rfl,rfl⟩,trivial⟩)
               | false =>
                replace h:=zAu hc h;cases h
 ·refine zAi hle ?_;refine zAg rfl h (fun hb h=>?_) (fun hb h=>?_)
  ·refine zYc ?_;refine zAd ?_;obtain⟨hj1,hk1⟩:=pij h;subst hj1 hk1;unfold zFi
   exact⟨_,(Le.rnm [(0,0)] [(4,.s (.bool false))] [(0,.box 167 [.s (.str []),.s (.int .i64 0),.s (.nf),.s (.str [114,111,119]),.s (.int .i64 0),.s (.fn 138),.s (.str [115,121,109]),.s (.int .i64 0),.s (.fn 139),.s (.str [110,117,109]),.s (.int .i64 0),.s (.fn 140),.s (.str [116,101,120,116]),.s (.int .i64 0),.s (.fn 141),.s (.str [102,114,97,99]),.s (.int .i64 2),.s (.fn 138),.s (.str [114,111,111,116]),.s (.int .i64 2),.s (.fn 138),.s (.str [115,117,98]),.s (.int .i64 2),.s (.fn 138),.s (.str [115,117,112]),.s (.int .i64 2),.s (.fn 138),.s (.str [98,111,116,104]),.s (.int .i64 3),.s (.fn 138),.s (.str [97,99,99,101,110,116]),.s (.int .i64 1),.s (.fn 142),.s (.str [102,101,110,99,101]),.s (.int .i64 1),.s (.fn 143),.s (.str [109,97,116,114,105,120]),.s (.int .i64 0),.s (.fn 138),.s (.int .i64 o1G)])] 1 ⟨rfl,trivial⟩ ⟨rfl,⟨_,rfl,rfl⟩,trivial⟩),rfl,rfl,rfl,rfl,trivial⟩
  ·refine zAe ?_;refine zAa ?_;refine zYc ?_;refine zAj ?_;refine zYc ?_;refine zAg rfl h (fun hb h=>?_) (fun hb h=>?_)
   ·refine zAa ?_;obtain⟨x16,hj,h⟩:=zAc h
    refine zAk ⟨ofL [(4,.s (.bool x16))],ofH [(0,.box 167 [.s (.str []),.s (.int .i64 0),.s (.nf),.s (.str [114,111,119]),.s (.int .i64 0),.s (.fn 138),.s (.str [115,121,109]),.s (.int .i64 0),.s (.fn 139),.s (.str [110,117,109]),.s (.int .i64 0),.s (.fn 140),.s (.str [116,101,120,116]),.s (.int .i64 0),.s (.fn 141),.s (.str [102,114,97,99]),.s (.int .i64 2),.s (.fn 138),.s (.str [114,111,111,116]),.s (.int .i64 2),.s (.fn 138),.s (.str [115,117,98]),.s (.int .i64 2),.s (.fn 138),.s (.str [115,117,112]),.s (.int .i64 2),.s (.fn 138),.s (.str [98,111,116,104]),.s (.int .i64 3),.s (.fn 138),.s (.str [97,99,99,101,110,116]),.s (.int .i64 1),.s (.fn 142),.s (.str [102,101,110,99,101]),.s (.int .i64 1),.s (.fn 143),.s (.str [109,97,116,114,105,120]),.s (.int .i64 0),.s (.fn 138),.s (.int .i64 o1G)])],1⟩ ?_ (fun σ' hle=>?_)
    ·replace h:=hj;refine zAb [] [46,51] rfl ?_;intro b hb;cases b with
     | true =>
      replace h:=zAv hb.symm h;intro n17 hn17;obtain rfl:(a2C.length:Int)=n17:=(hn17.trans (congrArg (fun m:Nat=>(m:Int)) (rlen Nd.encs_eq a2C))).symm;cases h;exact(Le.rnm [(0,0)] _ _ _ ⟨rfl,trivial⟩ ⟨rfl,⟨_,rfl,rfl⟩,trivial⟩)
     | false =>
      replace h:=zAu hb.symm h;cases h;exact(Le.rnm [(0,0)] _ _ _ ⟨rfl,trivial⟩ ⟨rfl,⟨_,rfl,rfl⟩,trivial⟩)
    ·refine zAi hle ?_;refine zAd ?_;obtain⟨hj1,hk1⟩:=pij h;subst hj1 hk1;unfold zFi
     exact⟨_,(Le.rnm [(0,0)] [(4,.s (.bool x16))] [(0,.box 167 [.s (.str []),.s (.int .i64 0),.s (.nf),.s (.str [114,111,119]),.s (.int .i64 0),.s (.fn 138),.s (.str [115,121,109]),.s (.int .i64 0),.s (.fn 139),.s (.str [110,117,109]),.s (.int .i64 0),.s (.fn 140),.s (.str [116,101,120,116]),.s (.int .i64 0),.s (.fn 141),.s (.str [102,114,97,99]),.s (.int .i64 2),.s (.fn 138),.s (.str [114,111,111,116]),.s (.int .i64 2),.s (.fn 138),.s (.str [115,117,98]),.s (.int .i64 2),.s (.fn 138),.s (.str [115,117,112]),.s (.int .i64 2),.s (.fn 138),.s (.str [98,111,116,104]),.s (.int .i64 3),.s (.fn 138),.s (.str [97,99,99,101,110,116]),.s (.int .i64 1),.s (.fn 142),.s (.str [102,101,110,99,101]),.s (.int .i64 1),.s (.fn 143),.s (.str [109,97,116,114,105,120]),.s (.int .i64 0),.s (.fn 138),.s (.int .i64 o1G)])] 1 ⟨rfl,trivial⟩ ⟨rfl,⟨_,rfl,rfl⟩,trivial⟩),rfl,rfl,rfl,rfl,trivial⟩
   ·refine zYc ?_;refine zAg rfl h (fun hb h=>?_) (fun hb h=>?_)
    ·refine zAa ?_;obtain⟨x18,hj,h⟩:=zAc h
     refine zAk ⟨ofL [(4,.s (.bool x18))],ofH [(0,.box 167 [.s (.str []),.s (.int .i64 0),.s (.nf),.s (.str [114,111,119]),.s (.int .i64 0),.s (.fn 138),.s (.str [115,121,109]),.s (.int .i64 0),.s (.fn 139),.s (.str [110,117,109]),.s (.int .i64 0),.s (.fn 140),.s (.str [116,101,120,116]),.s (.int .i64 0),.s (.fn 141),.s (.str [102,114,97,99]),.s (.int .i64 2),.s (.fn 138),.s (.str [114,111,111,116]),.s (.int .i64 2),.s (.fn 138),.s (.str [115,117,98]),.s (.int .i64 2),.s (.fn 138),.s (.str [115,117,112]),.s (.int .i64 2),.s (.fn 138),.s (.str [98,111,116,104]),.s (.int .i64 3),.s (.fn 138),.s (.str [97,99,99,101,110,116]),.s (.int .i64 1),.s (.fn 142),.s (.str [102,101,110,99,101]),.s (.int .i64 1),.s (.fn 143),.s (.str [109,97,116,114,105,120]),.s (.int .i64 0),.s (.fn 138),.s (.int .i64 o1G)])],1⟩ ?_ (fun σ' hle=>?_)
     ·replace h:=hj;refine zAO [] [61,68,73,76,81,84,89] [] rfl (by decide +kernel) ?_;intro b hb;cases b with
      | true =>
       replace h:=zAv hb.symm h;intro b hb;cases b with
       | true =>
        replace h:=zAv hb.symm h;intro n19 hn19;obtain rfl:(a2C.length:Int)=n19:=(hn19.trans (congrArg (fun m:Nat=>(m:Int)) (rlen Nd.encs_eq a2C))).symm;intro b hb;cases b with
        | true =>
         replace h:=zAv hb.symm h;intro n20 hn20;obtain rfl:(a2C.length:Int)=n20:=(hn20.trans (congrArg (fun m:Nat=>(m:Int)) (rlen Nd.encs_eq a2C))).symm;intro b hb;cases b with
         | true =>
          replace h:=zAv hb.symm h;intro n21 hn21;obtain rfl:(a2C.length:Int)=n21:=(hn21.trans (congrArg (fun m:Nat=>(m:Int)) (rlen Nd.encs_eq a2C))).symm;obtain⟨hq,h⟩:=zAy h;refine And.intro hq ?_;cases h;exact(Le.rnm [(0,0)] _ _ _ ⟨rfl,trivial⟩ ⟨rfl,⟨_,rfl,rfl⟩,trivial⟩)
         | false =>
          replace h:=zAu hb.symm h;cases h;exact(Le.rnm [(0,0)] _ _ _ ⟨rfl,trivial⟩ ⟨rfl,⟨_,rfl,rfl⟩,trivial⟩)
        | false =>
         replace h:=zAu hb.symm h;intro b hb;subst hb;cases h;exact(Le.rnm [(0,0)] _ _ _ ⟨rfl,trivial⟩ ⟨rfl,⟨_,rfl,rfl⟩,trivial⟩)
       | false =>
        replace h:=zAu hb.symm h;intro b hb;subst hb;intro b hb;subst hb;cases h;exact(Le.rnm [(0,0)] _ _ _ ⟨rfl,trivial⟩ ⟨rfl,⟨_,rfl,rfl⟩,trivial⟩)
      | false =>
       replace h:=zAu hb.symm h;intro b hb;subst hb;intro b hb;subst hb;intro b hb;subst hb;cases h;exact(Le.rnm [(0,0)] _ _ _ ⟨rfl,trivial⟩ ⟨rfl,⟨_,rfl,rfl⟩,trivial⟩)
     ·refine zAi hle ?_;refine zAd ?_;obtain⟨hj1,hk1⟩:=pij h;subst hj1 hk1;unfold zFi
      exact⟨_,(Le.rnm [(0,0)] [(4,.s (.bool x18))] [(0,.box 167 [.s (.str []),.s (.int .i64 0),.s (.nf),.s (.str [114,111,119]),.s (.int .i64 0),.s (.fn 138),.s (.str [115,121,109]),.s (.int .i64 0),.s (.fn 139),.s (.str [110,117,109]),.s (.int .i64 0),.s (.fn 140),.s (.str [116,101,120,116]),.s (.int .i64 0),.s (.fn 141),.s (.str [102,114,97,99]),.s (.int .i64 2),.s (.fn 138),.s (.str [114,111,111,116]),.s (.int .i64 2),.s (.fn 138),.s (.str [115,117,98]),.s (.int .i64 2),.s (.fn 138),.s (.str [115,117,112]),.s (.int .i64 2),.s (.fn 138),.s (.str [98,111,116,104]),.s (.int .i64 3),.s (.fn 138),.s (.str [97,99,99,101,110,116]),.s (.int .i64 1),.s (.fn 142),.s (.str [102,101,110,99,101]),.s (.int .i64 1),.s (.fn 143),.s (.str [109,97,116,114,105,120]),.s (.int .i64 0),.s (.fn 138),.s (.int .i64 o1G)])] 1 ⟨rfl,trivial⟩ ⟨rfl,⟨_,rfl,rfl⟩,trivial⟩),rfl,rfl,rfl,rfl,trivial⟩
    ·refine zAe ?_;refine zAa ?_;obtain⟨x22,hj,h⟩:=zAc h
     refine zAk ⟨ofL [(4,.s (.bool x22))],ofH [(0,.box 167 [.s (.str []),.s (.int .i64 0),.s (.nf),.s (.str [114,111,119]),.s (.int .i64 0),.s (.fn 138),.s (.str [115,121,109]),.s (.int .i64 0),.s (.fn 139),.s (.str [110,117,109]),.s (.int .i64 0),.s (.fn 140),.s (.str [116,101,120,116]),.s (.int .i64 0),.s (.fn 141),.s (.str [102,114,97,99]),.s (.int .i64 2),.s (.fn 138),.s (.str [114,111,111,116]),.s (.int .i64 2),.s (.fn 138),.s (.str [115,117,98]),.s (.int .i64 2),.s (.fn 138),.s (.str [115,117,112]),.s (.int .i64 2),.s (.fn 138),.s (.str [98,111,116,104]),.s (.int .i64 3),.s (.fn 138),.s (.str [97,99,99,101,110,116]),.s (.int .i64 1),.s (.fn 142),.s (.str [102,101,110,99,101]),.s (.int .i64 1),.s (.fn 143),.s (.str [109,97,116,114,105,120]),.s (.int .i64 0),.s (.fn 138),.s (.int .i64 o1G)])],1⟩ ?_ (fun σ' hle=>?_)
     ·replace h:=hj;refine zAO [] [102,107,112] [20] rfl (by decide +kernel) ?_;intro b hb;cases b with
      | true =>
       replace h:=zAv hb.symm h;intro n23 hn23;obtain rfl:(a2C.length:Int)=n23:=(hn23.trans (congrArg (fun m:Nat=>(m:Int)) (rlen Nd.encs_eq a2C))).symm;intro vsp hvsp;cases hc:(a2A == 1) with
       | true =>
        replace h:=zAv hc h;obtain rfl:(1:Int)=vsp:=(hvsp.trans (eq_of_beq hc)).symm;refine And.intro (by decide) ?_;cases h;exact(Le.rnm [(0,0)] _ _ _ ⟨rfl,trivial⟩ ⟨rfl,⟨_,rfl,rfl⟩,trivial⟩)
       | false =>
        replace h:=zAu hc h;cases hc:(a2A == 2) with
        | true =>
         replace h:=zAv hc h;obtain rfl:(2:Int)=vsp:=(hvsp.trans (eq_of_beq hc)).symm;refine And.intro (by decide) ?_;cases h;exact(Le.rnm [(0,0)] _ _ _ ⟨rfl,trivial⟩ ⟨rfl,⟨_,rfl,rfl⟩,trivial⟩)
        | false =>
         replace h:=zAu hc h;cases hc:(a2A == 3) with
         | true =>
          replace h:=zAv hc h;obtain rfl:(3:Int)=vsp:=(hvsp.trans (eq_of_beq hc)).symm;refine And.intro (by decide) ?_;cases h;exact(Le.rnm [(0,0)] _ _ _ ⟨rfl,trivial⟩ ⟨rfl,⟨_,rfl,rfl⟩,trivial⟩)
         | false =>
          replace h:=zAu hc h;cases hc:(a2A == 4) with
          | true =>
           replace h:=zAv hc h;obtain rfl:(4:Int)=vsp:=(hvsp.trans (eq_of_beq hc)).symm;refine And.intro (by decide) ?_;cases h;exact(Le.rnm [(0,0)] _ _ _ ⟨rfl,trivial⟩ ⟨rfl,⟨_,rfl,rfl⟩,trivial⟩)
          | false =>
           replace h:=zAu hc h;cases hc:(a2A == 5) with
           | true =>
            replace h:=zAv hc h;obtain rfl:(5:Int)=vsp:=(hvsp.trans (eq_of_beq hc)).symm;refine And.intro (by decide) ?_;cases h;exact(Le.rnm [(0,0)] _ _ _ ⟨rfl,trivial⟩ ⟨rfl,⟨_,rfl,rfl⟩,trivial⟩)
           | false =>
            replace h:=zAu hc h;cases hc:(a2A == 6) with
            | true =>
             replace h:=zAv hc h;obtain rfl:(6:Int)=vsp:=(hvsp.trans (eq_of_beq hc)).symm;refine And.intro (by decide) ?_;cases h;exact(Le.rnm [(0,0)] _ _ _ ⟨rfl,trivial⟩ ⟨rfl,⟨_,rfl,rfl⟩,trivial⟩)
            | false =>
             replace h:=zAu hc h;cases hc:(a2A == 7) with
             | true =>
              replace h:=zAv hc h;obtain rfl:(7:Int)=vsp:=(hvsp.trans (eq_of_beq hc)).symm;refine And.intro (by decide) ?_;cases h;exact(Le.rnm [(0,0)] _ _ _ ⟨rfl,trivial⟩ ⟨rfl,⟨_,rfl,rfl⟩,trivial⟩)
             | false =>
              replace h:=zAu hc h;cases hc:(a2A == 8) with
              | true =>
               replace h:=zAv hc h;obtain rfl:(8:Int)=vsp:=(hvsp.trans (eq_of_beq hc)).symm;refine And.intro (by decide) ?_;cases h;exact(Le.rnm [(0,0)] _ _ _ ⟨rfl,trivial⟩ ⟨rfl,⟨_,rfl,rfl⟩,trivial⟩)
              | false =>
               replace h:=zAu hc h;cases hc:(a2A == 9) with
               | true =>
                replace h:=zAv hc h;obtain rfl:(9:Int)=vsp:=(hvsp.trans (eq_of_beq hc)).symm;refine And.intro (by decide) ?_;cases h;exact(Le.rnm [(0,0)] _ _ _ ⟨rfl,trivial⟩ ⟨rfl,⟨_,rfl,rfl⟩,trivial⟩)
               | false =>
                replace h:=zAu hc h;cases hc:(a2A == 10) with
                | true =>
                 replace h:=zAv hc h;obtain rfl:(10:Int)=vsp:=(hvsp.trans (eq_of_beq hc)).symm;refine And.intro (by decide) ?_;cases h;exact(Le.rnm [(0,0)] _ _ _ ⟨rfl,trivial⟩ ⟨rfl,⟨_,rfl,rfl⟩,trivial⟩)
                | false =>
                 replace h:=zAu hc h;cases hc:(a2A == 11) with
                 | true =>
                  replace h:=zAv hc h;obtain rfl:(11:Int)=vsp:=(hvsp.trans (eq_of_beq hc)).symm;refine And.intro (by decide) ?_;cases h;exact(Le.rnm [(0,0)] _ _ _ ⟨rfl,trivial⟩ ⟨rfl,⟨_,rfl,rfl⟩,trivial⟩)
                 | false =>
                  replace h:=zAu hc h;cases hc:(a2A == 12) with
                  | true =>
                   replace h:=zAv hc h;obtain rfl:(12:Int)=vsp:=(hvsp.trans (eq_of_beq hc)).symm;refine And.intro (by decide) ?_;cases h;exact(Le.rnm [(0,0)] _ _ _ ⟨rfl,trivial⟩ ⟨rfl,⟨_,rfl,rfl⟩,trivial⟩)
                  | false =>
                   replace h:=zAu hc h;cases h
      | false =>
       replace h:=zAu hb.symm h;cases h;exact(Le.rnm [(0,0)] _ _ _ ⟨rfl,trivial⟩ ⟨rfl,⟨_,rfl,rfl⟩,trivial⟩)
     ·refine zAi hle ?_;refine zAd ?_;obtain⟨hj1,hk1⟩:=pij h;subst hj1 hk1;unfold zFi
      exact⟨_,(Le.rnm [(0,0)] [(4,.s (.bool x22))] [(0,.box 167 [.s (.str []),.s (.int .i64 0),.s (.nf),.s (.str [114,111,119]),.s (.int .i64 0),.s (.fn 138),.s (.str [115,121,109]),.s (.int .i64 0),.s (.fn 139),.s (.str [110,117,109]),.s (.int .i64 0),.s (.fn 140),.s (.str [116,101,120,116]),.s (.int .i64 0),.s (.fn 141),.s (.str [102,114,97,99]),.s (.int .i64 2),.s (.fn 138),.s (.str [114,111,111,116]),.s (.int .i64 2),.s (.fn 138),.s (.str [115,117,98]),.s (.int .i64 2),.s (.fn 138),.s (.str [115,117,112]),.s (.int .i64 2),.s (.fn 138),.s (.str [98,111,116,104]),.s (.int .i64 3),.s (.fn 138),.s (.str [97,99,99,101,110,116]),.s (.int .i64 1),.s (.fn 142),.s (.str [102,101,110,99,101]),.s (.int .i64 1),.s (.fn 143),.s (.str [109,97,116,114,105,120]),.s (.int .i64 0),.s (.fn 138),.s (.int .i64 o1G)])] 1 ⟨rfl,trivial⟩ ⟨rfl,⟨_,rfl,rfl⟩,trivial⟩),rfl,rfl,rfl,rfl,trivial⟩
def zB4 (n:Nat) (xs:List AV) (os:List Ob) (x:AV) (os':List (Option Ob)):Prop:=∃ (a0:(Unit×Int)) (a1:Nd) (a2:Int) (y0:Bool) (z0:(Unit×Int)),zAS n a0 a1 a2=some (y0,z0)/\xs=[.op 0 0,.s (.pt (Nd.enc a1)),.s (.int .i64 a2)]/\os=[.box 167 ((zAJ a0).map .s)]/\x = .s (.bool y0)/\os'=[some (.box 167 ((zAJ z0).map .s))]
theorem zHA (n:Nat) (ih:PSound Tryz.prog 110 (zEO (zB4 n))):PSound Tryz.prog 110 (zEO (zB4 (n+1))):=by
 have gok:∀ f s,look? f [(144,zGi),(110,zEO (zB4 n))]=some s->PSound Tryz.prog f s:=zAl (by
  simp only[List.forall_mem_cons]
  exact⟨zJm,ih,by simp⟩)
 refine PSound.withNil (zRC tokW Tryz.call110 Tryz.func110 rfl (fun xs os x os' h=>by obtain⟨_,_,_,_,_,_,rfl,rfl,_,rfl⟩:=h; exact⟨by show 3<=67; decide,by show 1<=1; decide⟩) 67 rfl ?_) _;rintro xs os x os' w0 G0 B0 ⟨⟨_,o1G⟩,⟨a2A,a2B,a2D,a2C⟩,a3,y0,z0,h,rfl,rfl,rfl,rfl⟩ _;rw[zAS]at h;refine zYc ?_;refine zYc ?_;refine zAa ?_;refine zAa ?_;obtain⟨⟨x4,x5⟩,hj,h⟩:=zAc h
 refine zAk ⟨ofL [(0,.op 0 0),(1,.s (.pt [.int .i64 a2A,.str a2B,.int .i64 a2D,.sl 4 (Nd.encs a2C)])),(2,.s (.int .i64 a3)),(29,.s (.bool x4))],ofH [(0,.box 167 [.s (.str []),.s (.int .i64 0),.s (.nf),.s (.str [114,111,119]),.s (.int .i64 0),.s (.fn 138),.s (.str [115,121,109]),.s (.int .i64 0),.s (.fn 139),.s (.str [110,117,109]),.s (.int .i64 0),.s (.fn 140),.s (.str [116,101,120,116]),.s (.int .i64 0),.s (.fn 141),.s (.str [102,114,97,99]),.s (.int .i64 2),.s (.fn 138),.s (.str [114,111,111,116]),.s (.int .i64 2),.s (.fn 138),.s (.str [115,117,98]),.s (.int .i64 2),.s (.fn 138),.s (.str [115,117,112]),.s (.int .i64 2),.s (.fn 138),.s (.str [98,111,116,104]),.s (.int .i64 3),.s (.fn 138),.s (.str [97,99,99,101,110,116]),.s (.int .i64 1),.s (.fn 142),.s (.str [102,101,110,99,101]),.s (.int .i64 1),.s (.fn 143),.s (.str [109,97,116,114,105,120]),.s (.int .i64 0),.s (.fn 138),.s (.int .i64 x5)])],1⟩ ?_ (fun σ' hle=>?_)
 ·replace h:=hj;refine zAb [] [20,24] rfl ?_;intro b hb;cases b with
  | true =>
   replace h:=zAv hb.symm h;intro b hb;subst hb;cases h;exact(Le.rnm [(0,0)] _ _ _ ⟨rfl,rfl,rfl,rfl,trivial⟩ ⟨rfl,⟨_,rfl,rfl⟩,trivial⟩)
  | false =>
   replace h:=zAu hb.symm h;intro b hb;cases b with
   | true =>
    replace h:=zAv hb.symm h;cases h;exact(Le.rnm [(0,0)] _ _ _ ⟨rfl,rfl,rfl,rfl,trivial⟩ ⟨rfl,⟨_,rfl,rfl⟩,trivial⟩)
   | false =>
    replace h:=zAu hb.symm h;obtain⟨⟨y6,⟨_,w7G⟩⟩,hy6,h⟩:=zAc h;refine⟨_,_,⟨_,_,_,_,_,hy6,rfl,rfl,rfl,rfl⟩,?_⟩
    cases h;exact(Le.rnm [(0,0)] _ _ _ ⟨rfl,rfl,rfl,rfl,trivial⟩ ⟨rfl,⟨_,rfl,rfl⟩,trivial⟩)
 ·refine zAi hle ?_;refine zAg rfl h (fun hb h=>?_) (fun hb h=>?_)
  ·refine zYc ?_;refine zAd ?_;obtain⟨hj1,hk1⟩:=pij h;subst hj1 hk1;unfold zFi
   exact⟨_,(Le.rnm [(0,0)] [(6,.s (.bool false))] [(0,.box 167 [.s (.str []),.s (.int .i64 0),.s (.nf),.s (.str [114,111,119]),.s (.int .i64 0),.s (.fn 138),.s (.str [115,121,109]),.s (.int .i64 0),.s (.fn 139),.s (.str [110,117,109]),.s (.int .i64 0),.s (.fn 140),.s (.str [116,101,120,116]),.s (.int .i64 0),.s (.fn 141),.s (.str [102,114,97,99]),.s (.int .i64 2),.s (.fn 138),.s (.str [114,111,111,116]),.s (.int .i64 2),.s (.fn 138),.s (.str [115,117,98]),.s (.int .i64 2),.s (.fn 138),.s (.str [115,117,112]),.s (.int .i64 2),.s (.fn 138),.s (.str [98,111,116,104]),.s (.int .i64 3),.s (.fn 138),.s (.str [97,99,99,101,110,116]),.s (.int .i64 1),.s (.fn 142),.s (.str [102,101,110,99,101]),.s (.int .i64 1),.s (.fn 143),.s (.str [109,97,116,114,105,120]),.s (.int .i64 0),.s (.fn 138),.s (.int .i64 x5)])] 1 ⟨rfl,trivial⟩ ⟨rfl,⟨_,rfl,rfl⟩,trivial⟩),rfl,rfl,rfl,rfl,trivial⟩
  ·refine zAe ?_;refine zAa ?_;refine zXw [] [34] rfl ?_;intro n8 hn8;obtain rfl:(a2C.length:Int)=n8:=(hn8.trans (congrArg (fun m:Nat=>(m:Int)) (rlen Nd.encs_eq a2C))).symm;show Tri ..;obtain⟨fl,hl,ho1⟩:=zAc h
   refine zBO (fl:=fl) (fun z=>match z with | x11=>⟨ofL [],ofH [(0,.box 167 [.s (.str []),.s (.int .i64 0),.s (.nf),.s (.str [114,111,119]),.s (.int .i64 0),.s (.fn 138),.s (.str [115,121,109]),.s (.int .i64 0),.s (.fn 139),.s (.str [110,117,109]),.s (.int .i64 0),.s (.fn 140),.s (.str [116,101,120,116]),.s (.int .i64 0),.s (.fn 141),.s (.str [102,114,97,99]),.s (.int .i64 2),.s (.fn 138),.s (.str [114,111,111,116]),.s (.int .i64 2),.s (.fn 138),.s (.str [115,117,98]),.s (.int .i64 2),.s (.fn 138),.s (.str [115,117,112]),.s (.int .i64 2),.s (.fn 138),.s (.str [98,111,116,104]),.s (.int .i64 3),.s (.fn 138),.s (.str [97,99,99,101,110,116]),.s (.int .i64 1),.s (.fn 142),.s (.str [102,101,110,99,101]),.s (.int .i64 1),.s (.fn 143),.s (.str [109,97,116,114,105,120]),.s (.int .i64 0),.s (.fn 138),.s (.int .i64 x11)])],1⟩) ?_ (fun x11 σ' hz hle=>?_)
   ·refine zAj (zAt (X:=Nat×Int×Int) (fun y=>match y with | (k,x9,x10)=>⟨ofL [(0,.op 0 0),(1,.s (.pt [.int .i64 a2A,.str a2B,.int .i64 a2D,.sl 4 (Nd.encs a2C)])),(2,.s (.int .i64 a3)),(34,.s (.int .i64 (a2C.length:Int))),(35,.s (.int .i64 x10))],ofH [(0,.box 167 [.s (.str []),.s (.int .i64 0),.s (.nf),.s (.str [114,111,119]),.s (.int .i64 0),.s (.fn 138),.s (.str [115,121,109]),.s (.int .i64 0),.s (.fn 139),.s (.str [110,117,109]),.s (.int .i64 0),.s (.fn 140),.s (.str [116,101,120,116]),.s (.int .i64 0),.s (.fn 141),.s (.str [102,114,97,99]),.s (.int .i64 2),.s (.fn 138),.s (.str [114,111,111,116]),.s (.int .i64 2),.s (.fn 138),.s (.str [115,117,98]),.s (.int .i64 2),.s (.fn 138),.s (.str [115,117,112]),.s (.int .i64 2),.s (.fn 138),.s (.str [98,111,116,104]),.s (.int .i64 3),.s (.fn 138),.s (.str [97,99,99,101,110,116]),.s (.int .i64 1),.s (.fn 142),.s (.str [102,101,110,99,101]),.s (.int .i64 1),.s (.fn 143),.s (.str [109,97,116,114,105,120]),.s (.int .i64 0),.s (.fn 138),.s (.int .i64 x9)])],1⟩) (fun y=>zAH (zAS n) a2A a2C a3 y.1 y.2.1 y.2.2=some fl) (fun y=>y.1) (n,x5,0) hl ?_ ?_)
    ·exact(Le.rnm [(0,0)] _ _ _ ⟨rfl,rfl,rfl,rfl,rfl,trivial⟩ ⟨rfl,⟨_,rfl,rfl⟩,trivial⟩)
    ·rintro⟨k,x9,x10⟩ h;cases k with
     | zero=>cases h
     | succ k =>
      replace h:zAH (zAS n) a2A a2C a3 (k+1) x9 x10=some fl:=h;rw[zAH]at h;refine zYc ?_;refine zAa ?_;refine zAg rfl h (fun hb h=>?_) (fun hb h=>?_)
      ·refine zAe ?_;refine zAa ?_;refine zAj ?_;refine zYc ?_;refine zAa ?_;obtain⟨⟨x12,x13⟩,hj,h⟩:=zAc h
       refine zAk ⟨ofL [(0,.op 0 0),(1,.s (.pt [.int .i64 a2A,.str a2B,.int .i64 a2D,.sl 4 (Nd.encs a2C)])),(2,.s (.int .i64 a3)),(34,.s (.int .i64 (a2C.length:Int))),(35,.s (.int .i64 x10)),(65,.s (.bool x12))],ofH [(0,.box 167 [.s (.str []),.s (.int .i64 0),.s (.nf),.s (.str [114,111,119]),.s (.int .i64 0),.s (.fn 138),.s (.str [115,121,109]),.s (.int .i64 0),.s (.fn 139),.s (.str [110,117,109]),.s (.int .i64 0),.s (.fn 140),.s (.str [116,101,120,116]),.s (.int .i64 0),.s (.fn 141),.s (.str [102,114,97,99]),.s (.int .i64 2),.s (.fn 138),.s (.str [114,111,111,116]),.s (.int .i64 2),.s (.fn 138),.s (.str [115,117,98]),.s (.int .i64 2),.s (.fn 138),.s (.str [115,117,112]),.s (.int .i64 2),.s (.fn 138),.s (.str [98,111,116,104]),.s (.int .i64 3),.s (.fn 138),.s (.str [97,99,99,101,110,116]),.s (.int .i64 1),.s (.fn 142),.s (.str [102,101,110,99,101]),.s (.int .i64 1),.s (.fn 143),.s (.str [109,97,116,114,105,120]),.s (.int .i64 0),.s (.fn 138),.s (.int .i64 x13)])],1⟩ ?_ (fun σ' hle=>?_)
       ·replace h:=hj;refine zAO [] [48,53,60] [25] rfl (by decide +kernel) ?_;obtain⟨⟨e14A,e14B,e14D,e14C⟩,he14,h⟩:=zAc h;refine And.intro (zAr Nd.encs_eq he14).1 ?_;intro r15 hr15;obtain rfl:[.int .i64 e14A,.str e14B,.int .i64 e14D,.sl 4 (Nd.encs e14C)]=r15:=(hr15.trans (zAr Nd.encs_eq he14).2.1).symm;intro b hb;cases b with
        | true =>
         replace h:=zAv hb.symm h;cases h;exact(Le.rnm [(0,0)] _ _ _ ⟨rfl,rfl,rfl,rfl,rfl,rfl,trivial⟩ ⟨rfl,⟨_,rfl,rfl⟩,trivial⟩)
        | false =>
         replace h:=zAu hb.symm h;obtain⟨⟨e16A,e16B,e16D,e16C⟩,he16,h⟩:=zAc h;refine And.intro (zAr Nd.encs_eq he16).1 ?_;intro r17 hr17;obtain rfl:[.int .i64 e16A,.str e16B,.int .i64 e16D,.sl 4 (Nd.encs e16C)]=r17:=(hr17.trans (zAr Nd.encs_eq he16).2.1).symm;obtain⟨⟨y18,⟨_,w19G⟩⟩,hy18,h⟩:=zAc h;refine⟨_,_,⟨_,_,_,_,_,hy18,rfl,rfl,rfl,rfl⟩,?_⟩
         cases h;exact(Le.rnm [(0,0)] _ _ _ ⟨rfl,rfl,rfl,rfl,rfl,rfl,trivial⟩ ⟨rfl,⟨_,rfl,rfl⟩,trivial⟩)
       ·refine zAi hle ?_;refine zAg rfl h (fun hb h=>?_) (fun hb h=>?_)
        ·refine zYc ?_;refine zAd ?_;cases h;replace h:some _=some _:=ho1;obtain⟨hj1,hk1⟩:=pij h;subst hj1 hk1;unfold zFi
         exact⟨_,(Le.rnm [(0,0)] [(6,.s (.bool false))] [(0,.box 167 [.s (.str []),.s (.int .i64 0),.s (.nf),.s (.str [114,111,119]),.s (.int .i64 0),.s (.fn 138),.s (.str [115,121,109]),.s (.int .i64 0),.s (.fn 139),.s (.str [110,117,109]),.s (.int .i64 0),.s (.fn 140),.s (.str [116,101,120,116]),.s (.int .i64 0),.s (.fn 141),.s (.str [102,114,97,99]),.s (.int .i64 2),.s (.fn 138),.s (.str [114,111,111,116]),.s (.int .i64 2),.s (.fn 138),.s (.str [115,117,98]),.s (.int .i64 2),.s (.fn 138),.s (.str [115,117,112]),.s (.int .i64 2),.s (.fn 138),.s (.str [98,111,116,104]),.s (.int .i64 3),.s (.fn 138),.s (.str [97,99,99,101,110,116]),.s (.int .i64 1),.s (.fn 142),.s (.str [102,101,110,99,101]),.s (.int .i64 1),.s (.fn 143),.s (.str [109,97,116,114,105,120]),.s (.int .i64 0),.s (.fn 138),.s (.int .i64 x13)])] 1 ⟨rfl,trivial⟩ ⟨rfl,⟨_,rfl,rfl⟩,trivial⟩),rfl,rfl,rfl,rfl,trivial⟩
        ·refine zAe ?_;refine zYb ?_;refine⟨(k,x13,IntKind.i64.wrap (x10+1)),h,(Le.rnm [(0,0)] _ _ _ ⟨rfl,rfl,rfl,rfl,rfl,trivial⟩ ⟨rfl,⟨_,rfl,rfl⟩,trivial⟩),Nat.lt_succ_self k⟩
      ·refine zAx ?_;cases h;exact⟨_,rfl,(Le.rnm [(0,0)] _ _ _ trivial ⟨rfl,⟨_,rfl,rfl⟩,trivial⟩)⟩
   ·subst hz;replace h:=ho1;refine zAi hle ?_;refine zYc ?_;refine zAd ?_;obtain⟨hj1,hk1⟩:=pij h;subst hj1 hk1;unfold zFi
    exact⟨_,(Le.rnm [(0,0)] [(6,.s (.bool true))] [(0,.box 167 [.s (.str []),.s (.int .i64 0),.s (.nf),.s (.str [114,111,119]),.s (.int .i64 0),.s (.fn 138),.s (.str [115,121,109]),.s (.int .i64 0),.s (.fn 139),.s (.str [110,117,109]),.s (.int .i64 0),.s (.fn 140),.s (.str [116,101,120,116]),.s (.int .i64 0),.s (.fn 141),.s (.str [102,114,97,99]),.s (.int .i64 2),.s (.fn 138),.s (.str [114,111,111,116]),.s (.int .i64 2),.s (.fn 138),.s (.str [115,117,98]),.s (.int .i64 2),.s (.fn 138),.s (.str [115,117,112]),.s (.int .i64 2),.s (.fn 138),.s (.str [98,111,116,104]),.s (.int .i64 3),.s (.fn 138),.s (.str [97,99,99,101,110,116]),.s (.int .i64 1),.s (.fn 142),.s (.str [102,101,110,99,101]),.s (.int .i64 1),.s (.fn 143),.s (.str [109,97,116,114,105,120]),.s (.int .i64 0),.s (.fn 138),.s (.int .i64 x11)])] 1 ⟨rfl,trivial⟩ ⟨rfl,⟨_,rfl,rfl⟩,trivial⟩),rfl,rfl,rfl,rfl,trivial⟩
theorem zHM:∀ n,PSound Tryz.prog 110 (zEO (zB4 n)):=by
 intro n
 induction n with
 | zero=>exact zMV Tryz.call110 (fun xs os x os' h=>by obtain⟨_,_,_,_,_,h,_⟩:=h; cases h) _
 | succ n ih=>exact zHA n ih
def zFL:zAp:=zEO (fun xs os x os'=>∃ n,zB4 n xs os x os')
theorem zIB:PSound Tryz.prog 110 zFL:=zOz zHM _
def zQi (n:Nat) (xs:List AV) (r:Ret):Prop:=∃ (a0:Nd) (y0:Bool),zAR n a0=some y0/\xs=[.agg ((Nd.enc a0).map .s)]/\r = .val (.s (.bool y0))
def zCK:zAp:=zAn fun xs r=>∃ n,zQi n xs r
theorem zCY:PSound Tryz.prog 73 zCK:=by
 have gok:∀ f s,look? f [(109,zKR),(110,zFL)]=some s->PSound Tryz.prog f s:=zAl (by
  simp only[List.forall_mem_cons]
  exact⟨zPy,zIB,by simp⟩)
 refine zAo tokW Tryz.call73 Tryz.func73 rfl (fun xs r h=>by obtain⟨n,_,_,_,rfl,_⟩:=h; show 1<=14; decide) 14 rfl ?_;rintro xs r w0 G0 ⟨n,⟨n1A,n1B,n1D,n1C⟩,y0,h,rfl,rfl⟩ _;rw[zAR]at h;refine zYc ?_;refine zXw [6] [] rfl ?_;obtain⟨_,hy2,h⟩:=zAc h;refine⟨_,⟨_,hy2,rfl,rfl⟩,?_⟩
 refine zAa ?_;obtain⟨x3,hj,h⟩:=zAc h;refine zAk ⟨ofL [(2,.s (.bool x3))],fun _=>none,0⟩ ?_ (fun σ' hle=>?_)
 ·replace h:=hj;refine zAb [] [10] rfl ?_;intro b hb;cases b with
  | true =>
   replace h:=zAv hb.symm h;obtain⟨⟨y4,⟨_,w5G⟩⟩,hy4,h⟩:=zAc h;refine⟨_,_,⟨_,_,_,_,_,_,hy4,rfl,rfl,rfl,rfl⟩,?_⟩
   cases h;exact(Le.rnm [] _ [] 0 ⟨rfl,trivial⟩ trivial)
  | false =>
   replace h:=zAu hb.symm h;cases h;exact(Le.rnm [] _ [] 0 ⟨rfl,trivial⟩ trivial)
 ·refine zAi hle ?_;refine zAd ?_;have hy:=osi h;subst hy;exact fin0 rfl rfl
def zKl (n:Nat) (xs:List AV) (r:Ret):Prop:=∃ (a0:List Nd) (y0:Bool),zB3 n a0=some y0/\xs=[.s (.sl 4 (Nd.encs a0))]/\r = .val (.s (.bool y0))
def zED:zAp:=zAn fun xs r=>∃ n,zKl n xs r
theorem zGq:PSound Tryz.prog 176 zED:=by
 have gok:∀ f s,look? f [(73,zCK)]=some s->PSound Tryz.prog f s:=zAl (by
  simp only[List.forall_mem_cons]
  exact⟨zCY,by simp⟩)
 refine zAo tokW Tryz.call176 Tryz.func176 rfl (fun xs r h=>by obtain⟨n,_,_,_,rfl,_⟩:=h; show 1<=6; decide) 6 rfl ?_;rintro xs r w0 G0 ⟨n,l1,y0,h,rfl,rfl⟩ _;rw[zB3]at h;refine zYc ?_;refine zYc ?_;obtain⟨y2,hy2,h⟩:=zAc h;refine⟨_,⟨_,_,_,hy2,rfl,rfl⟩,?_⟩
 refine zAd ?_;have hy:=osi h;subst hy;exact fin0 rfl rfl
def zQh (xs:List AV) (r:Ret):Prop:=∃ (a0:Nd) (y0:Int),zDs a0=some y0/\xs=[.agg ((Nd.enc a0).map .s)]/\r = .val (.s (.int .i64 y0))
def zGh:zAp:=zAn fun xs r=>zQh xs r
theorem zHi:PSound Tryz.prog 195 zGh:=by
 have gok:=@gok0 Tryz.prog;refine zAo tokW Tryz.call195 Tryz.func195 rfl (fun xs r h=>by obtain⟨_,_,_,rfl,_⟩:=h; show 1<=9; decide) 9 rfl ?_;rintro xs r w0 G0 ⟨⟨n1A,n1B,n1D,n1C⟩,y0,h,rfl,rfl⟩ _;rw[zDs]at h;refine zYc ?_;refine zAa ?_;refine zYc ?_;refine zAg rfl h (fun hb h=>?_) (fun hb h=>?_)
 ·refine zYc ?_;refine zAd ?_;have hy:=osi h;subst hy;exact fin0 rfl rfl
 ·refine zAe ?_;refine zXw [] [8] rfl ?_;intro n2 hn2;obtain rfl:(n1C.length:Int)=n2:=(hn2.trans (congrArg (fun m:Nat=>(m:Int)) (rlen Nd.encs_eq n1C))).symm;refine zAd ?_;have hy:=osi h;subst hy;exact fin0 rfl rfl
def zQp (xs:List AV) (r:Ret):Prop:=∃ (a0:Int) (y0:Bool),zEg a0=some y0/\xs=[.s (.int .u8 a0)]/\r = .val (.s (.bool y0))
def zHK:zAp:=zAn fun xs r=>zQp xs r
theorem zJ3:PSound Tryz.prog 186 zHK:=by
 have gok:=@gok0 Tryz.prog;refine zAo tokW Tryz.call186 Tryz.func186 rfl (fun xs r h=>by obtain⟨_,_,_,rfl,_⟩:=h; show 1<=17; decide) 17 rfl ?_;rintro xs r w0 G0 ⟨c1,y0,h,rfl,rfl⟩ _;rw[zEg]at h;refine zYc ?_;refine zAa ?_;obtain⟨x2,hj,h⟩:=zAc h;refine zAk ⟨ofL [(2,.s (.bool x2))],fun _=>none,0⟩ ?_ (fun σ' hle=>?_)
 ·replace h:=hj;refine zAb [] [5,9,12] rfl ?_;intro b hb;cases b with
  | true =>
   replace h:=zAv hb.symm h;intro b hb;cases b with
   | true =>
    replace h:=zAv hb.symm h;cases h;exact(Le.forget _ ⟨rfl,trivial⟩)
   | false =>
    replace h:=zAu hb.symm h;intro b hb;cases b with
    | true =>
     replace h:=zAv hb.symm h;cases h;exact(Le.forget _ ⟨rfl,trivial⟩)
    | false =>
     replace h:=zAu hb.symm h;cases h;exact(Le.forget _ ⟨rfl,trivial⟩)
  | false =>
   replace h:=zAu hb.symm h;intro b hb;subst hb;intro b hb;cases b with
   | true =>
    replace h:=zAv hb.symm h;cases h;exact(Le.forget _ ⟨rfl,trivial⟩)
   | false =>
    replace h:=zAu hb.symm h;cases h;exact(Le.forget _ ⟨rfl,trivial⟩)
 ·refine zAi hle ?_;refine zAd ?_;have hy:=osi h;subst hy;exact fin0 rfl rfl
def zUz (n:Nat) (xs:List AV) (r:Ret):Prop:=∃ (a0:List UInt8) (a1:Int) (y0:Bool),zDv n a0 a1=some y0/\xs=[.s (.str a0),.s (.int .u8 a1)]/\r = .val (.s (.bool y0))
def zL6:zAp:=zAn fun xs r=>∃ n,zUz n xs r
theorem zOx:PSound Tryz.prog 154 zL6:=by
 have gok:=@gok0 Tryz.prog;refine zAo tokW Tryz.call154 Tryz.func154 rfl (fun xs r h=>by obtain⟨n,_,_,_,_,rfl,_⟩:=h; show 2<=17; decide) 17 rfl ?_;rintro xs r w0 G0 ⟨n,s1,c2,y0,h,rfl,rfl⟩ _;rw[zDv]at h;refine zYc ?_;refine zAa ?_;refine zYc ?_;show Tri ..;obtain⟨fl,hl,ho1⟩:=zAc h;refine zBO (fl:=fl) (fun z=>match z with | _=>⟨ofL [],fun _=>none,0⟩) ?_ (fun z σ' hz hle=>?_)
 ·refine zAj (zAt (X:=Nat×Int) (fun y=>match y with | (k,i3)=>⟨ofL [(0,.s (.str s1)),(1,.s (.int .u8 c2)),(5,.s (.int .i64 i3))],fun _=>none,0⟩) (fun y=>zCM s1 c2 y.1 y.2=some fl) (fun y=>y.1) (n,0) hl ?_ ?_)
  ·exact(Le.forget _ ⟨rfl,rfl,rfl,trivial⟩)
  ·rintro⟨k,i3⟩ h;cases k with
   | zero=>cases h
   | succ k =>
    replace h:zCM s1 c2 (k+1) i3=some fl:=h;rw[zCM]at h;refine zAa ?_;refine zYc ?_;refine zAg rfl h (fun hb h=>?_) (fun hb h=>?_)
    ·refine zAe ?_;refine zAa ?_;refine zAj ?_;refine zXw [] [14] rfl ?_;obtain⟨c4,hc4,h⟩:=zAc h;refine And.intro (zBB hc4).1 ?_;intro v5 hv5;obtain rfl:(c4.toNat:Int)=v5:=(hv5.trans (zBB hc4).2).symm;refine zAg rfl h (fun hb h=>?_) (fun hb h=>?_)
     ·refine zYc ?_;refine zAd ?_;cases h;replace h:some _=some _:=ho1;have hy:=osi h;subst hy;exact fin0 rfl rfl
     ·refine zAe ?_;refine zYb ?_;refine⟨(k,IntKind.i64.wrap (i3+1)),h,(Le.forget _ ⟨rfl,rfl,rfl,trivial⟩),Nat.lt_succ_self k⟩
    ·refine zAx ?_;cases h;exact⟨_,rfl,(Le.forget _ trivial)⟩
 ·subst hz;obtain _:=z;replace h:=ho1;refine zAi hle ?_;refine zYc ?_;refine zAd ?_;have hy:=osi h;subst hy;exact fin0 rfl rfl
def zLT (n:Nat) (xs:List AV) (r:Ret):Prop:=∃ (a0:Int) (y0:Bool),zEu n a0=some y0/\xs=[.s (.int .u8 a0)]/\r = .val (.s (.bool y0))
def zHJ:zAp:=zAn fun xs r=>∃ n,zLT n xs r
theorem zLy:PSound Tryz.prog 185 zHJ:=by
 have gok:∀ f s,look? f [(186,zHK),(154,zL6)]=some s->PSound Tryz.prog f s:=zAl (by
  simp only[List.forall_mem_cons]
  exact⟨zJ3,zOx,by simp⟩)
 refine zAo tokW Tryz.call185 Tryz.func185 rfl (fun xs r h=>by obtain⟨n,_,_,_,rfl,_⟩:=h; show 1<=9; decide) 9 rfl ?_;rintro xs r w0 G0 ⟨n,c1,y0,h,rfl,rfl⟩ _;rw[zEu]at h;refine zYc ?_;refine zAa ?_;obtain⟨x2,hj,h⟩:=zAc h;refine zAk ⟨ofL [(2,.s (.bool x2))],fun _=>none,0⟩ ?_ (fun σ' hle=>?_)
 ·replace h:=hj;refine zAb [] [5] rfl ?_;obtain⟨y3,hy3,h⟩:=zAc h;refine⟨_,⟨_,_,hy3,rfl,rfl⟩,?_⟩
  intro b hb;cases b with
  | true =>
   replace h:=zAv hb.symm h;cases h;exact(Le.forget _ ⟨rfl,trivial⟩)
  | false =>
   replace h:=zAu hb.symm h;obtain⟨y4,hy4,h⟩:=zAc h;refine⟨_,⟨_,_,_,_,hy4,rfl,rfl⟩,?_⟩
   cases h;exact(Le.forget _ ⟨rfl,trivial⟩)
 ·refine zAi hle ?_;refine zAd ?_;have hy:=osi h;subst hy;exact fin0 rfl rfl
def zBL (p:List UInt8):List S:=[.str p]
def zNz (xs:List AV) (r:Ret):Prop:=∃ (y0:List (List UInt8)),zEU=some y0/\xs=[]/\r = .val (.s (.sl 1 ((List.map zBL) y0)))
def zIQ:zAp:=zAn fun xs r=>zNz xs r
theorem zXT {α:Type}{a b:α} (h:a=b:=by simp[List.map_append,List.map_take,List.map_drop,irow,brow,zEm,List.map_cons,List.map_nil,zDV,Nd.encs_eq,Nd.enc,CV.encs_eq,CV.enc,zBi,zAJ,zBL]):a=b :=
 h
theorem zMQ:PSound Tryz.prog 187 zIQ:=by
 have gok:=@gok0 Tryz.prog;refine zAo tokW Tryz.call187 Tryz.func187 rfl (fun xs r h=>by obtain⟨_,_,rfl,_⟩:=h; show 0<=2; decide) 2 rfl ?_;rintro xs r w0 G0 ⟨y0,h,rfl,rfl⟩ _;rw[zEU]at h;refine zYc ?_;refine zXw [] [1] rfl ?_;intro r1 hr1
 obtain rfl:(List.map zBL) [[102,114,97,99],[114,111,111,116],[109,97,116,114,105,120],[102,101,110,99,101]]=r1:=(hr1.trans zXT).symm;refine zAd ?_;have hy:=osi h;subst hy;exact fin0 rfl rfl
def zVK (n:Nat) (xs:List AV) (r:Ret):Prop:=∃ (a0:List (List UInt8)) (a1:List UInt8) (y0:Bool),zET n a0 a1=some y0/\xs=[.s (.sl 1 ((List.map zBL) a0)),.s (.str a1)]/\r = .val (.s (.bool y0))
def zO7:zAp:=zAn fun xs r=>∃ n,zVK n xs r
theorem zRs:PSound Tryz.prog 152 zO7:=by
 have gok:=@gok0 Tryz.prog;refine zAo tokW Tryz.call152 Tryz.func152 rfl (fun xs r h=>by obtain⟨n,_,_,_,_,rfl,_⟩:=h; show 2<=18; decide) 18 rfl ?_;rintro xs r w0 G0 ⟨n,l1,s2,y0,h,rfl,rfl⟩ _;rw[zET]at h;refine zYc ?_;refine zAa ?_;refine zYc ?_;show Tri ..;obtain⟨fl,hl,ho1⟩:=zAc h;refine zBO (fl:=fl) (fun z=>match z with | _=>⟨ofL [],fun _=>none,0⟩) ?_ (fun z σ' hz hle=>?_)
 ·refine zAj (zAt (X:=Nat×Int) (fun y=>match y with | (k,i3)=>⟨ofL [(0,.s (.sl 1 ((List.map zBL) l1))),(1,.s (.str s2)),(5,.s (.int .i64 i3))],fun _=>none,0⟩) (fun y=>zDu l1 s2 y.1 y.2=some fl) (fun y=>y.1) (n,0) hl ?_ ?_)
  ·exact(Le.forget _ ⟨rfl,rfl,rfl,trivial⟩)
  ·rintro⟨k,i3⟩ h;cases k with
   | zero=>cases h
   | succ k =>
    replace h:zDu l1 s2 (k+1) i3=some fl:=h;rw[zDu]at h;refine zAa ?_;refine zXw [] [8] rfl ?_;intro n4 hn4;obtain rfl:(l1.length:Int)=n4:=(hn4.trans (congrArg (fun m:Nat=>(m:Int)) (rlen (fun _=>rfl) l1))).symm;refine zAg rfl h (fun hb h=>?_) (fun hb h=>?_)
    ·refine zAe ?_;refine zAa ?_;refine zAj ?_;refine zXw [] [14] rfl ?_;obtain⟨e5,he5,h⟩:=zAc h;refine And.intro (zAr (fun _=>rfl) he5).1 ?_;intro r6 hr6;obtain rfl:[.str e5]=r6:=(hr6.trans (zAr (fun _=>rfl) he5).2.1).symm;refine zAg rfl h (fun hb h=>?_) (fun hb h=>?_)
     ·refine zYc ?_;refine zAd ?_;cases h;replace h:some _=some _:=ho1;have hy:=osi h;subst hy;exact fin0 rfl rfl
     ·refine zAe ?_;refine zYb ?_;refine⟨(k,IntKind.i64.wrap (i3+1)),h,(Le.forget _ ⟨rfl,rfl,rfl,trivial⟩),Nat.lt_succ_self k⟩
    ·refine zAx ?_;cases h;exact⟨_,rfl,(Le.forget _ trivial)⟩
 ·subst hz;obtain _:=z;replace h:=ho1;refine zAi hle ?_;refine zYc ?_;refine zAd ?_;have hy:=osi h;subst hy;exact fin0 rfl rfl
def zO3 (xs:List AV) (r:Ret):Prop:=∃ (y0:List (List UInt8)),zDJ=some y0/\xs=[]/\r = .val (.s (.sl 1 ((List.map zBL) y0)))
def zG9:zAp:=zAn fun xs r=>zO3 xs r
theorem zIY:PSound Tryz.prog 153 zG9:=by
 have gok:=@gok0 Tryz.prog;refine zAo tokW Tryz.call153 Tryz.func153 rfl (fun xs r h=>by obtain⟨_,_,rfl,_⟩:=h; show 0<=2; decide) 2 rfl ?_;rintro xs r w0 G0 ⟨y0,h,rfl,rfl⟩ _;rw[zDJ]at h;refine zYc ?_;refine zXw [] [1] rfl ?_;intro r1 hr1
 obtain rfl:(List.map zBL) [[104,97,116],[98,97,114],[118,101,99],[100,111,116],[116,105,108,100,101],[99,104,101,99,107]]=r1:=(hr1.trans zXT).symm;refine zAd ?_;have hy:=osi h;subst hy;exact fin0 rfl rfl
def zQr (n:Nat) (xs:List AV) (r:Ret):Prop:=∃ (a0:List UInt8) (y0:Bool),zE7 n a0=some y0/\xs=[.s (.str a0)]/\r = .val (.s (.bool y0))
def zKX:zAp:=zAn fun xs r=>∃ n,zQr n xs r
theorem zPE:PSound Tryz.prog 150 zKX:=by
 have gok:∀ f s,look? f [(185,zHJ),(186,zHK),(187,zIQ),(152,zO7),(153,zG9)]=some s->PSound Tryz.prog f s:=zAl (by
  simp only[List.forall_mem_cons]
  exact⟨zLy,zJ3,zMQ,zRs,zIY,by simp⟩)
 refine zAo tokW Tryz.call150 Tryz.func150 rfl (fun xs r h=>by obtain⟨n,_,_,_,rfl,_⟩:=h; show 1<=41; decide) 41 rfl ?_;rintro xs r w0 G0 ⟨n,s1,y0,h,rfl,rfl⟩ _;rw[zE7]at h;refine zYc ?_;refine zAa ?_;refine zYc ?_;refine zAg rfl h (fun hb h=>?_) (fun hb h=>?_)
 ·refine zXw [] [8] rfl ?_;obtain⟨c2,hc2,h⟩:=zAc h;refine And.intro (zBB hc2).1 ?_;intro v3 hv3;obtain rfl:(c2.toNat:Int)=v3:=(hv3.trans (zBB hc2).2).symm;obtain⟨y4,hy4,h⟩:=zAc h;refine⟨_,⟨_,_,_,hy4,rfl,rfl⟩,?_⟩
  refine zAd ?_;have hy:=osi h;subst hy;exact fin0 rfl rfl
 ·refine zAe ?_;refine zAa ?_;refine zYc ?_;show Tri ..;obtain⟨fl,hl,ho1⟩:=zAc h;refine zBO (fl:=fl) (fun z=>match z with | _=>⟨ofL [(0,.s (.str s1))],fun _=>none,0⟩) ?_ (fun z σ' hz hle=>?_)
  ·refine zAj (zAt (X:=Nat×Int) (fun y=>match y with | (k,i5)=>⟨ofL [(0,.s (.str s1)),(3,.s (.int .i64 i5))],fun _=>none,0⟩) (fun y=>zBq s1 y.1 y.2=some fl) (fun y=>y.1) (n,0) hl ?_ ?_)
   ·exact(Le.forget _ ⟨rfl,rfl,trivial⟩)
   ·rintro⟨k,i5⟩ h;cases k with
    | zero=>cases h
    | succ k =>
     replace h:zBq s1 (k+1) i5=some fl:=h;rw[zBq]at h;refine zAa ?_;refine zYc ?_;refine zAg rfl h (fun hb h=>?_) (fun hb h=>?_)
     ·refine zAe ?_;refine zAa ?_;refine zAj ?_;refine zXw [] [18] rfl ?_;obtain⟨c6,hc6,h⟩:=zAc h;refine And.intro (zBB hc6).1 ?_;intro v7 hv7;obtain rfl:(c6.toNat:Int)=v7:=(hv7.trans (zBB hc6).2).symm;obtain⟨y8,hy8,h⟩:=zAc h;refine⟨_,⟨_,_,hy8,rfl,rfl⟩,?_⟩
      refine zAg rfl h (fun hb h=>?_) (fun hb h=>?_)
      ·refine zYc ?_;refine zAd ?_;cases h;replace h:some _=some _:=ho1;have hy:=osi h;subst hy;exact fin0 rfl rfl
      ·refine zAe ?_;refine zYb ?_;refine⟨(k,IntKind.i64.wrap (i5+1)),h,(Le.forget _ ⟨rfl,rfl,trivial⟩),Nat.lt_succ_self k⟩
     ·refine zAx ?_;cases h;exact⟨_,rfl,(Le.forget _ ⟨rfl,trivial⟩)⟩
  ·subst hz;obtain _:=z;replace h:=ho1;refine zAi hle ?_;refine zAa ?_;obtain⟨x9,hj,h⟩:=zAc h;refine zAk ⟨ofL [(2,.s (.bool x9))],fun _=>none,0⟩ ?_ (fun σ' hle=>?_)
   ·replace h:=hj;refine zAb [] [24,29,35] rfl ?_;intro b hb;cases b with
    | true =>
     replace h:=zAv hb.symm h;intro b hb;cases b with
     | true =>
      replace h:=zAv hb.symm h;obtain⟨y10,hy10,h⟩:=zAc h;refine⟨_,⟨_,hy10,rfl,rfl⟩,?_⟩
      obtain⟨y11,hy11,h⟩:=zAc h;refine⟨_,⟨_,_,_,_,hy11,rfl,rfl⟩,?_⟩
      intro b hb;cases b with
      | true =>
       replace h:=zAv hb.symm h;obtain⟨y12,hy12,h⟩:=zAc h;refine⟨_,⟨_,hy12,rfl,rfl⟩,?_⟩
       obtain⟨y13,hy13,h⟩:=zAc h;refine⟨_,⟨_,_,_,_,hy13,rfl,rfl⟩,?_⟩
       cases h;exact(Le.forget _ ⟨rfl,trivial⟩)
      | false =>
       replace h:=zAu hb.symm h;cases h;exact(Le.forget _ ⟨rfl,trivial⟩)
     | false =>
      replace h:=zAu hb.symm h;intro b hb;subst hb;cases h;exact(Le.forget _ ⟨rfl,trivial⟩)
    | false =>
     replace h:=zAu hb.symm h;intro b hb;subst hb;intro b hb;subst hb;cases h;exact(Le.forget _ ⟨rfl,trivial⟩)
   ·refine zAi hle ?_;refine zAd ?_;have hy:=osi h;subst hy;exact fin0 rfl rfl
def zSa (xs:List AV) (r:Ret):Prop:=∃ (a0:Int) (y0:Bool),zF1 a0=some y0/\xs=[.s (.int .u8 a0)]/\r = .val (.s (.bool y0))
def zL3:zAp:=zAn fun xs r=>zSa xs r
theorem zRq:PSound Tryz.prog 188 zL3:=by
 have gok:=@gok0 Tryz.prog;refine zAo tokW Tryz.call188 Tryz.func188 rfl (fun xs r h=>by obtain⟨_,_,_,rfl,_⟩:=h; show 1<=9; decide) 9 rfl ?_;rintro xs r w0 G0 ⟨c1,y0,h,rfl,rfl⟩ _;rw[zF1]at h;refine zYc ?_;refine zAa ?_;obtain⟨x2,hj,h⟩:=zAc h;refine zAk ⟨ofL [(2,.s (.bool x2))],fun _=>none,0⟩ ?_ (fun σ' hle=>?_)
 ·replace h:=hj;refine zAb [] [5] rfl ?_;intro b hb;cases b with
  | true =>
   replace h:=zAv hb.symm h;cases h;exact(Le.forget _ ⟨rfl,trivial⟩)
  | false =>
   replace h:=zAu hb.symm h;cases h;exact(Le.forget _ ⟨rfl,trivial⟩)
 ·refine zAi hle ?_;refine zAd ?_;have hy:=osi h;subst hy;exact fin0 rfl rfl
def zQq (n:Nat) (xs:List AV) (r:Ret):Prop:=∃ (a0:List UInt8) (y0:Bool),zE6 n a0=some y0/\xs=[.s (.str a0)]/\r = .val (.s (.bool y0))
def zKW:zAp:=zAn fun xs r=>∃ n,zQq n xs r
theorem zPD:PSound Tryz.prog 151 zKW:=by
 have gok:∀ f s,look? f [(188,zL3)]=some s->PSound Tryz.prog f s:=zAl (by
  simp only[List.forall_mem_cons]
  exact⟨zRq,by simp⟩)
 refine zAo tokW Tryz.call151 Tryz.func151 rfl (fun xs r h=>by obtain⟨n,_,_,_,rfl,_⟩:=h; show 1<=45; decide) 45 rfl ?_;rintro xs r w0 G0 ⟨n,s1,y0,h,rfl,rfl⟩ _;rw[zE6]at h;refine zYc ?_;refine zYc ?_;refine zAa ?_;refine zYc ?_;show Tri ..;obtain⟨fl,hl,ho1⟩:=zAc h;refine zBO (fl:=fl) (fun z=>match z with | points4=>⟨ofL [(0,.s (.str s1)),(3,.s (.int .i64 points4))],fun _=>none,0⟩) ?_ (fun points4 σ' hz hle=>?_)
 ·refine zAj (zAt (X:=Nat×Int×Int) (fun y=>match y with | (k,points2,i3)=>⟨ofL [(0,.s (.str s1)),(3,.s (.int .i64 points2)),(4,.s (.int .i64 i3))],fun _=>none,0⟩) (fun y=>zB8 s1 y.1 y.2.1 y.2.2=some fl) (fun y=>y.1) (n,0,0) hl ?_ ?_)
  ·exact(Le.forget _ ⟨rfl,rfl,rfl,trivial⟩)
  ·rintro⟨k,points2,i3⟩ h;cases k with
   | zero=>cases h
   | succ k =>
    replace h:zB8 s1 (k+1) points2 i3=some fl:=h;rw[zB8]at h;refine zAa ?_;refine zYc ?_;refine zAg rfl h (fun hb h=>?_) (fun hb h=>?_)
    ·refine zAe ?_;refine zAa ?_;obtain⟨fl,hj,ho2⟩:=zAc h;refine zBO (fl:=fl) (fun z=>match z with | points5=>⟨ofL [(0,.s (.str s1)),(3,.s (.int .i64 points5)),(4,.s (.int .i64 i3))],fun _=>none,0⟩) ?_ (fun points5 σ' hz hle=>?_)
     ·replace h:=hj;refine zAj ?_;refine zAa ?_;obtain⟨x6,hj,h⟩:=zAc h;refine zAk ⟨ofL [(0,.s (.str s1)),(3,.s (.int .i64 points2)),(4,.s (.int .i64 i3)),(25,.s (.bool x6))],fun _=>none,0⟩ ?_ (fun σ' hle=>?_)
      ·replace h:=hj;refine zAb [] [13,15,19] rfl ?_;obtain⟨c7,hc7,h⟩:=zAc h;refine And.intro (zBB hc7).1 ?_;intro v8 hv8;obtain rfl:(c7.toNat:Int)=v8:=(hv8.trans (zBB hc7).2).symm;intro b hb;cases b with
       | true =>
        replace h:=zAv hb.symm h;intro b hb;cases b with
        | true =>
         replace h:=zAv hb.symm h;cases h;exact(Le.forget _ ⟨rfl,rfl,rfl,rfl,trivial⟩)
        | false =>
         replace h:=zAu hb.symm h;cases h;exact(Le.forget _ ⟨rfl,rfl,rfl,rfl,trivial⟩)
       | false =>
        replace h:=zAu hb.symm h;intro b hb;subst hb;cases h;exact(Le.forget _ ⟨rfl,rfl,rfl,rfl,trivial⟩)
      ·refine zAi hle ?_;refine zAg rfl h (fun hb h=>?_) (fun hb h=>?_)
       ·refine zYb ?_;cases h;exact⟨_,rfl,(Le.forget _ ⟨rfl,rfl,rfl,trivial⟩)⟩
       ·refine zXw [] [30] rfl ?_;obtain⟨c9,hc9,h⟩:=zAc h;refine And.intro (zBB hc9).1 ?_;intro v10 hv10;obtain rfl:(c9.toNat:Int)=v10:=(hv10.trans (zBB hc9).2).symm;obtain⟨y11,hy11,h⟩:=zAc h;refine⟨_,⟨_,_,hy11,rfl,rfl⟩,?_⟩
        refine zAg rfl h (fun hb h=>?_) (fun hb h=>?_)
        ·refine zYc ?_;refine zAd ?_;cases h;replace h:some _=some _:=ho2;cases h;replace h:some _=some _:=ho1;have hy:=osi h;subst hy;exact fin0 rfl rfl
        ·refine zAe ?_;cases h;exact⟨_,rfl,(Le.forget _ ⟨rfl,rfl,rfl,trivial⟩)⟩
     ·subst hz;replace h:=ho2;refine zAi hle ?_;refine zYb ?_;refine⟨(k,points5,IntKind.i64.wrap (i3+1)),h,(Le.forget _ ⟨rfl,rfl,rfl,trivial⟩),Nat.lt_succ_self k⟩
    ·refine zAx ?_;cases h;exact⟨_,rfl,(Le.forget _ ⟨rfl,rfl,trivial⟩)⟩
 ·subst hz;replace h:=ho1;refine zAi hle ?_;refine zAa ?_;obtain⟨x12,hj,h⟩:=zAc h;refine zAk ⟨ofL [(2,.s (.bool x12))],fun _=>none,0⟩ ?_ (fun σ' hle=>?_)
  ·replace h:=hj;refine zAb [] [36,41] rfl ?_;intro b hb;cases b with
   | true =>
    replace h:=zAv hb.symm h;intro b hb;cases b with
    | true =>
     replace h:=zAv hb.symm h;cases h;exact(Le.forget _ ⟨rfl,trivial⟩)
    | false =>
     replace h:=zAu hb.symm h;cases h;exact(Le.forget _ ⟨rfl,trivial⟩)
   | false =>
    replace h:=zAu hb.symm h;intro b hb;subst hb;cases h;exact(Le.forget _ ⟨rfl,trivial⟩)
  ·refine zAi hle ?_;refine zAd ?_;have hy:=osi h;subst hy;exact fin0 rfl rfl
def zLU (n:Nat) (xs:List AV) (r:Ret):Prop:=∃ (a0:List UInt8) (y0:Bool),zCG n a0=some y0/\xs=[.s (.str a0)]/\r = .val (.s (.bool y0))
def zFM:zAp:=zAn fun xs r=>∃ n,zLU n xs r
theorem zHt:PSound Tryz.prog 34 zFM:=by
 have gok:=@gok0 Tryz.prog;refine zAo tokW Tryz.call34 Tryz.func34 rfl (fun xs r h=>by obtain⟨n,_,_,_,rfl,_⟩:=h; show 1<=20; decide) 20 rfl ?_;rintro xs r w0 G0 ⟨n,s1,y0,h,rfl,rfl⟩ _;rw[zCG]at h;refine zYc ?_;refine zAa ?_;refine zYc ?_;show Tri ..;obtain⟨fl,hl,ho1⟩:=zAc h;refine zBO (fl:=fl) (fun z=>match z with | _=>⟨ofL [],fun _=>none,0⟩) ?_ (fun z σ' hz hle=>?_)
 ·refine zAj (zAt (X:=Nat×Int) (fun y=>match y with | (k,i2)=>⟨ofL [(0,.s (.str s1)),(3,.s (.int .i64 i2))],fun _=>none,0⟩) (fun y=>zBa s1 y.1 y.2=some fl) (fun y=>y.1) (n,0) hl ?_ ?_)
  ·exact(Le.forget _ ⟨rfl,rfl,trivial⟩)
  ·rintro⟨k,i2⟩ h;cases k with
   | zero=>cases h
   | succ k =>
    replace h:zBa s1 (k+1) i2=some fl:=h;rw[zBa]at h;refine zAa ?_;refine zYc ?_;refine zAg rfl h (fun hb h=>?_) (fun hb h=>?_)
    ·refine zAe ?_;refine zAa ?_;refine zAj ?_;refine zAa ?_;obtain⟨x3,hj,h⟩:=zAc h;refine zAk ⟨ofL [(0,.s (.str s1)),(3,.s (.int .i64 i2)),(19,.s (.bool x3))],fun _=>none,0⟩ ?_ (fun σ' hle=>?_)
     ·replace h:=hj;refine zAb [] [12,14,17] rfl ?_;obtain⟨c4,hc4,h⟩:=zAc h;refine And.intro (zBB hc4).1 ?_;intro v5 hv5;obtain rfl:(c4.toNat:Int)=v5:=(hv5.trans (zBB hc4).2).symm;intro b hb;cases b with
      | true =>
       replace h:=zAv hb.symm h;cases h;exact(Le.forget _ ⟨rfl,rfl,rfl,trivial⟩)
      | false =>
       replace h:=zAu hb.symm h;obtain⟨c6,hc6,h⟩:=zAc h;refine And.intro (zBB hc6).1 ?_;intro v7 hv7;obtain rfl:(c6.toNat:Int)=v7:=(hv7.trans (zBB hc6).2).symm;cases h;exact(Le.forget _ ⟨rfl,rfl,rfl,trivial⟩)
     ·refine zAi hle ?_;refine zAg rfl h (fun hb h=>?_) (fun hb h=>?_)
      ·refine zYc ?_;refine zAd ?_;cases h;replace h:some _=some _:=ho1;have hy:=osi h;subst hy;exact fin0 rfl rfl
      ·refine zAe ?_;refine zYb ?_;refine⟨(k,IntKind.i64.wrap (i2+1)),h,(Le.forget _ ⟨rfl,rfl,trivial⟩),Nat.lt_succ_self k⟩
    ·refine zAx ?_;cases h;exact⟨_,rfl,(Le.forget _ trivial)⟩
 ·subst hz;obtain _:=z;replace h:=ho1;refine zAi hle ?_;refine zYc ?_;refine zAd ?_;have hy:=osi h;subst hy;exact fin0 rfl rfl
def zTL (n:Nat) (xs:List AV) (r:Ret):Prop:=∃ (a0:Nd) (y0:Bool),zG2 n a0=some y0/\xs=[.agg ((Nd.enc a0).map .s)]/\r = .val (.s (.bool y0))
def zOc:zAp:=zAn fun xs r=>∃ n,zTL n xs r
theorem zSJ:PSound Tryz.prog 113 zOc:=by
 have gok:∀ f s,look? f [(150,zKX),(151,zKW),(34,zFM),(153,zG9),(152,zO7),(154,zL6)]=some s->PSound Tryz.prog f s:=zAl (by
  simp only[List.forall_mem_cons]
  exact⟨zPE,zPD,zHt,zIY,zRs,zOx,by simp⟩)
 refine zAo tokW Tryz.call113 Tryz.func113 rfl (fun xs r h=>by obtain⟨n,_,_,_,rfl,_⟩:=h; show 1<=53; decide) 53 rfl ?_;rintro xs r w0 G0 ⟨n,⟨n1A,n1B,n1D,n1C⟩,y0,h,rfl,rfl⟩ _;rw[zG2]at h;refine zYc ?_;refine zAa ?_;refine zYc ?_;refine zAj ?_;refine zYc ?_;refine zAg rfl h (fun hb h=>?_) (fun hb h=>?_)
 ·refine zYc ?_;obtain⟨y2,hy2,h⟩:=zAc h;refine⟨_,⟨_,_,_,hy2,rfl,rfl⟩,?_⟩
  refine zAd ?_;have hy:=osi h;subst hy;exact fin0 rfl rfl
 ·refine zYc ?_;refine zAg rfl h (fun hb h=>?_) (fun hb h=>?_)
  ·refine zYc ?_;obtain⟨y3,hy3,h⟩:=zAc h;refine⟨_,⟨_,_,_,hy3,rfl,rfl⟩,?_⟩
   refine zAd ?_;have hy:=osi h;subst hy;exact fin0 rfl rfl
  ·refine zYc ?_;refine zAg rfl h (fun hb h=>?_) (fun hb h=>?_)
   ·refine zAa ?_;obtain⟨x4,hj,h⟩:=zAc h;refine zAk ⟨ofL [(2,.s (.bool x4))],fun _=>none,0⟩ ?_ (fun σ' hle=>?_)
    ·replace h:=hj;refine zAb [] [21] rfl ?_;intro b hb;cases b with
     | true =>
      replace h:=zAv hb.symm h;obtain⟨y5,hy5,h⟩:=zAc h;refine⟨_,⟨_,_,_,hy5,rfl,rfl⟩,?_⟩
      cases h;exact(Le.forget _ ⟨rfl,trivial⟩)
     | false =>
      replace h:=zAu hb.symm h;cases h;exact(Le.forget _ ⟨rfl,trivial⟩)
    ·refine zAi hle ?_;refine zAd ?_;have hy:=osi h;subst hy;exact fin0 rfl rfl
   ·refine zYc ?_;refine zAg rfl h (fun hb h=>?_) (fun hb h=>?_)
    ·refine zAa ?_;refine zAO [] [] [] rfl (by decide +kernel) ?_;obtain⟨y6,hy6,h⟩:=zAc h;refine⟨_,⟨_,hy6,rfl,rfl⟩,?_⟩
     obtain⟨y7,hy7,h⟩:=zAc h;refine⟨_,⟨_,_,_,_,hy7,rfl,rfl⟩,?_⟩
     refine zAd ?_;have hy:=osi h;subst hy;exact fin0 rfl rfl
    ·refine zYc ?_;refine zAg rfl h (fun hb h=>?_) (fun hb h=>?_)
     ·refine zAa ?_;obtain⟨x8,hj,h⟩:=zAc h;refine zAk ⟨ofL [(2,.s (.bool x8))],fun _=>none,0⟩ ?_ (fun σ' hle=>?_)
      ·replace h:=hj;refine zAb [] [38,41,44,47] rfl ?_;intro b hb;cases b with
       | true =>
        replace h:=zAv hb.symm h;obtain⟨c9,hc9,h⟩:=zAc h;refine And.intro (zBB hc9).1 ?_;intro v10 hv10;obtain rfl:(c9.toNat:Int)=v10:=(hv10.trans (zBB hc9).2).symm;obtain⟨y11,hy11,h⟩:=zAc h;refine⟨_,⟨_,_,_,_,hy11,rfl,rfl⟩,?_⟩
        intro b hb;cases b with
        | true =>
         replace h:=zAv hb.symm h;obtain⟨c12,hc12,h⟩:=zAc h;refine And.intro (zBB hc12).1 ?_;intro v13 hv13;obtain rfl:(c12.toNat:Int)=v13:=(hv13.trans (zBB hc12).2).symm;obtain⟨y14,hy14,h⟩:=zAc h;refine⟨_,⟨_,_,_,_,hy14,rfl,rfl⟩,?_⟩
         cases h;exact(Le.forget _ ⟨rfl,trivial⟩)
        | false =>
         replace h:=zAu hb.symm h;cases h;exact(Le.forget _ ⟨rfl,trivial⟩)
       | false =>
        replace h:=zAu hb.symm h;intro b hb;subst hb;cases h;exact(Le.forget _ ⟨rfl,trivial⟩)
      ·refine zAi hle ?_;refine zAd ?_;have hy:=osi h;subst hy;exact fin0 rfl rfl
     ·refine zAe ?_;refine zYc ?_;refine zAd ?_;have hy:=osi h;subst hy;exact fin0 rfl rfl
def zTK (xs:List AV) (r:Ret):Prop:=∃ (a0:Nd) (y0:Bool),zG1 a0=some y0/\xs=[.agg ((Nd.enc a0).map .s)]/\r = .val (.s (.bool y0))
def zOa:zAp:=zAn fun xs r=>zTK xs r
theorem zSH:PSound Tryz.prog 114 zOa:=by
 have gok:=@gok0 Tryz.prog;refine zAo tokW Tryz.call114 Tryz.func114 rfl (fun xs r h=>by obtain⟨_,_,_,rfl,_⟩:=h; show 1<=64; decide) 64 rfl ?_;rintro xs r w0 G0 ⟨⟨n1A,n1B,n1D,n1C⟩,y0,h,rfl,rfl⟩ _;rw[zG1]at h;refine zYc ?_;refine zXw [] [6] rfl ?_;intro n2 hn2;obtain rfl:(n1C.length:Int)=n2:=(hn2.trans (congrArg (fun m:Nat=>(m:Int)) (rlen Nd.encs_eq n1C))).symm;refine zAa ?_;refine zYc ?_;refine zAg rfl h (fun hb h=>?_) (fun hb h=>?_)
 ·refine zAa ?_;obtain⟨x3,hj,h⟩:=zAc h;refine zAk ⟨ofL [(2,.s (.bool x3))],fun _=>none,0⟩ ?_ (fun σ' hle=>?_)
  ·replace h:=hj;refine zAb [] [13,18,22,26] rfl ?_;intro b hb;cases b with
   | true =>
    replace h:=zAv hb.symm h;intro b hb;cases b with
    | true =>
     replace h:=zAv hb.symm h;intro b hb;cases b with
     | true =>
      replace h:=zAv hb.symm h;intro b hb;cases b with
      | true =>
       replace h:=zAv hb.symm h;obtain⟨hq,h⟩:=zAy h;refine And.intro hq ?_;cases h;exact(Le.forget _ ⟨rfl,trivial⟩)
      | false =>
       replace h:=zAu hb.symm h;cases h;exact(Le.forget _ ⟨rfl,trivial⟩)
     | false =>
      replace h:=zAu hb.symm h;intro b hb;subst hb;cases h;exact(Le.forget _ ⟨rfl,trivial⟩)
    | false =>
     replace h:=zAu hb.symm h;intro b hb;subst hb;intro b hb;subst hb;cases h;exact(Le.forget _ ⟨rfl,trivial⟩)
   | false =>
    replace h:=zAu hb.symm h;intro b hb;subst hb;intro b hb;subst hb;intro b hb;subst hb;cases h;exact(Le.forget _ ⟨rfl,trivial⟩)
  ·refine zAi hle ?_;refine zAd ?_;have hy:=osi h;subst hy;exact fin0 rfl rfl
 ·refine zAe ?_;refine zAa ?_;refine zYc ?_;refine zAg rfl h (fun hb h=>?_) (fun hb h=>?_)
  ·refine zYc ?_;refine zAd ?_;have hy:=osi h;subst hy;exact fin0 rfl rfl
  ·refine zAe ?_;refine zAa ?_;refine zYc ?_;show Tri ..;obtain⟨fl,hj,ho1⟩:=zAc h;refine zBO (fl:=fl) (fun z=>match z with | _=>⟨ofL [],fun _=>none,0⟩) ?_ (fun z σ' hz hle=>?_)
   ·replace h:=hj;refine zAj ?_;refine zYc ?_;refine zAg rfl h (fun hb h=>?_) (fun hb h=>?_)
    ·refine zYc ?_;refine zAd ?_;cases h;replace h:some _=some _:=ho1;have hy:=osi h;subst hy;exact fin0 rfl rfl
    ·refine zAa ?_;refine zYc ?_;show Tri ..;obtain⟨x4,hj,h⟩:=zAc h;refine zAk ⟨ofL [(3,.s (.int .i64 (n1C.length:Int))),(37,.s (.int .i64 n1A)),(42,.s (.bool x4))],fun _=>none,0⟩ ?_ (fun σ' hle=>?_)
     ·replace h:=hj;refine zAg rfl h (fun hb h=>?_) (fun hb h=>?_)
      ·refine zAe ?_;cases h;exact(Le.forget _ ⟨rfl,rfl,rfl,trivial⟩)
      ·refine zYc ?_;refine zAg rfl h (fun hb h=>?_) (fun hb h=>?_)
       ·refine zAe ?_;cases h;exact(Le.forget _ ⟨rfl,rfl,rfl,trivial⟩)
       ·refine zYb ?_;cases h;exact(Le.forget _ ⟨rfl,rfl,rfl,trivial⟩)
     ·refine zAi hle ?_;refine zAg rfl h (fun hb h=>?_) (fun hb h=>?_)
      ·refine zYc ?_;refine zAd ?_;cases h;replace h:some _=some _:=ho1;have hy:=osi h;subst hy;exact fin0 rfl rfl
      ·refine zAa ?_;refine zYc ?_;show Tri ..;obtain⟨x5,hj,h⟩:=zAc h;refine zAk ⟨ofL [(3,.s (.int .i64 (n1C.length:Int))),(37,.s (.int .i64 n1A)),(48,.s (.bool x5))],fun _=>none,0⟩ ?_ (fun σ' hle=>?_)
       ·replace h:=hj;refine zAg rfl h (fun hb h=>?_) (fun hb h=>?_)
        ·refine zAe ?_;cases h;exact(Le.forget _ ⟨rfl,rfl,rfl,trivial⟩)
        ·refine zYc ?_;refine zAg rfl h (fun hb h=>?_) (fun hb h=>?_)
         ·refine zAe ?_;cases h;exact(Le.forget _ ⟨rfl,rfl,rfl,trivial⟩)
         ·refine zYc ?_;refine zAg rfl h (fun hb h=>?_) (fun hb h=>?_)
          ·refine zAe ?_;cases h;exact(Le.forget _ ⟨rfl,rfl,rfl,trivial⟩)
          ·refine zYb ?_;cases h;exact(Le.forget _ ⟨rfl,rfl,rfl,trivial⟩)
       ·refine zAi hle ?_;refine zAg rfl h (fun hb h=>?_) (fun hb h=>?_)
        ·refine zYc ?_;refine zAd ?_;cases h;replace h:some _=some _:=ho1;have hy:=osi h;subst hy;exact fin0 rfl rfl
        ·refine zYc ?_;refine zAg rfl h (fun hb h=>?_) (fun hb h=>?_)
         ·refine zYc ?_;refine zAd ?_;cases h;replace h:some _=some _:=ho1;have hy:=osi h;subst hy;exact fin0 rfl rfl
         ·refine zAa ?_;refine zYc ?_;show Tri ..;obtain⟨x6,hj,h⟩:=zAc h;refine zAk ⟨ofL [(3,.s (.int .i64 (n1C.length:Int))),(59,.s (.bool x6))],fun _=>none,0⟩ ?_ (fun σ' hle=>?_)
          ·replace h:=hj;refine zAg rfl h (fun hb h=>?_) (fun hb h=>?_)
           ·refine zAe ?_;cases h;exact(Le.forget _ ⟨rfl,rfl,trivial⟩)
           ·refine zYb ?_;cases h;exact(Le.forget _ ⟨rfl,rfl,trivial⟩)
          ·refine zAi hle ?_;refine zAg rfl h (fun hb h=>?_) (fun hb h=>?_)
           ·refine zYc ?_;refine zAd ?_;cases h;replace h:some _=some _:=ho1;have hy:=osi h;subst hy;exact fin0 rfl rfl
           ·refine zAe ?_;cases h;exact⟨_,rfl,(Le.forget _ trivial)⟩
   ·subst hz;obtain _:=z;replace h:=ho1;refine zAi hle ?_;refine zYc ?_;refine zAd ?_;have hy:=osi h;subst hy;exact fin0 rfl rfl
def zGI (n:Nat) (xs:List AV) (r:Ret):Prop:=∃ (a0:Nd) (y0:Bool),zDK n a0=some y0/\xs=[.agg ((Nd.enc a0).map .s)]/\r = .val (.s (.bool y0))
theorem zP1 (n:Nat) (ih:PSound Tryz.prog 76 (zAn (zGI n))):PSound Tryz.prog 76 (zAn (zGI (n+1))):=by
 have gok:∀ f s,look? f [(113,zOc),(114,zOa),(76,zAn (zGI n))]=some s->PSound Tryz.prog f s:=zAl (by
  simp only[List.forall_mem_cons]
  exact⟨zSJ,zSH,ih,by simp⟩)
 refine zAo tokW Tryz.call76 Tryz.func76 rfl (fun xs r h=>by obtain⟨_,_,_,rfl,_⟩:=h; show 1<=39; decide) 39 rfl ?_;rintro xs r w0 G0 ⟨⟨n1A,n1B,n1D,n1C⟩,y0,h,rfl,rfl⟩ _;rw[zDK]at h;refine zYc ?_;refine zAa ?_;refine zAa ?_;obtain⟨x2,hj,h⟩:=zAc h;refine zAk ⟨ofL [(1,.s (.pt [.int .i64 n1A,.str n1B,.int .i64 n1D,.sl 4 (Nd.encs n1C)])),(11,.s (.bool x2))],fun _=>none,0⟩ ?_ (fun σ' hle=>?_)
 ·replace h:=hj;refine zAb [] [7] rfl ?_;obtain⟨y3,hy3,h⟩:=zAc h;refine⟨_,⟨_,_,_,hy3,rfl,rfl⟩,?_⟩
  intro b hb;cases b with
  | true =>
   replace h:=zAv hb.symm h;cases h;exact(Le.forget _ ⟨rfl,rfl,trivial⟩)
  | false =>
   replace h:=zAu hb.symm h;obtain⟨y4,hy4,h⟩:=zAc h;refine⟨_,⟨_,_,hy4,rfl,rfl⟩,?_⟩
   cases h;exact(Le.forget _ ⟨rfl,rfl,trivial⟩)
 ·refine zAi hle ?_;refine zAg rfl h (fun hb h=>?_) (fun hb h=>?_)
  ·refine zYc ?_;refine zAd ?_;have hy:=osi h;subst hy;exact fin0 rfl rfl
  ·refine zAe ?_;refine zAa ?_;refine zYc ?_;show Tri ..;obtain⟨fl,hl,ho1⟩:=zAc h;refine zBO (fl:=fl) (fun z=>match z with | _=>⟨ofL [],fun _=>none,0⟩) ?_ (fun z σ' hz hle=>?_)
   ·refine zAj (zAt (X:=Nat×Int) (fun y=>match y with | (k,i5)=>⟨ofL [(1,.s (.pt [.int .i64 n1A,.str n1B,.int .i64 n1D,.sl 4 (Nd.encs n1C)])),(3,.s (.int .i64 i5))],fun _=>none,0⟩) (fun y=>zCV (zDK n) n1A n1C y.1 y.2=some fl) (fun y=>y.1) (n,0) hl ?_ ?_)
    ·exact(Le.forget _ ⟨rfl,rfl,trivial⟩)
    ·rintro⟨k,i5⟩ h;cases k with
     | zero=>cases h
     | succ k =>
      replace h:zCV (zDK n) n1A n1C (k+1) i5=some fl:=h;rw[zCV]at h;refine zAa ?_;refine zXw [] [15] rfl ?_;intro n6 hn6;obtain rfl:(n1C.length:Int)=n6:=(hn6.trans (congrArg (fun m:Nat=>(m:Int)) (rlen Nd.encs_eq n1C))).symm;refine zAg rfl h (fun hb h=>?_) (fun hb h=>?_)
      ·refine zAe ?_;refine zAa ?_;refine zAj ?_;refine zAa ?_;obtain⟨x7,hj,h⟩:=zAc h;refine zAk ⟨ofL [(1,.s (.pt [.int .i64 n1A,.str n1B,.int .i64 n1D,.sl 4 (Nd.encs n1C)])),(3,.s (.int .i64 i5)),(38,.s (.bool x7))],fun _=>none,0⟩ ?_ (fun σ' hle=>?_)
       ·replace h:=hj;refine zAO [] [22,30,34] [] rfl (by decide +kernel) ?_;obtain⟨⟨e8A,e8B,e8D,e8C⟩,he8,h⟩:=zAc h;refine And.intro (zAr Nd.encs_eq he8).1 ?_;intro r9 hr9;obtain rfl:[.int .i64 e8A,.str e8B,.int .i64 e8D,.sl 4 (Nd.encs e8C)]=r9:=(hr9.trans (zAr Nd.encs_eq he8).2.1).symm;intro b hb;cases b with
        | true =>
         replace h:=zAv hb.symm h;cases h;exact(Le.forget _ ⟨rfl,rfl,rfl,trivial⟩)
        | false =>
         replace h:=zAu hb.symm h;obtain⟨⟨e10A,e10B,e10D,e10C⟩,he10,h⟩:=zAc h;refine And.intro (zAr Nd.encs_eq he10).1 ?_;intro r11 hr11;obtain rfl:[.int .i64 e10A,.str e10B,.int .i64 e10D,.sl 4 (Nd.encs e10C)]=r11:=(hr11.trans (zAr Nd.encs_eq he10).2.1).symm;obtain⟨y12,hy12,h⟩:=zAc h;refine⟨_,⟨_,_,hy12,rfl,rfl⟩,?_⟩
         cases h;exact(Le.forget _ ⟨rfl,rfl,rfl,trivial⟩)
       ·refine zAi hle ?_;refine zAg rfl h (fun hb h=>?_) (fun hb h=>?_)
        ·refine zYc ?_;refine zAd ?_;cases h;replace h:some _=some _:=ho1;have hy:=osi h;subst hy;exact fin0 rfl rfl
        ·refine zAe ?_;refine zYb ?_;refine⟨(k,IntKind.i64.wrap (i5+1)),h,(Le.forget _ ⟨rfl,rfl,trivial⟩),Nat.lt_succ_self k⟩
      ·refine zAx ?_;cases h;exact⟨_,rfl,(Le.forget _ trivial)⟩
   ·subst hz;obtain _:=z;replace h:=ho1;refine zAi hle ?_;refine zYc ?_;refine zAd ?_;have hy:=osi h;subst hy;exact fin0 rfl rfl
theorem zQI:∀ n,PSound Tryz.prog 76 (zAn (zGI n)):=by
 intro n
 induction n with
 | zero=>exact zA7 Tryz.call76 (fun xs r h=>by obtain⟨_,_,h,_⟩:=h; cases h)
 | succ n ih=>exact zP1 n ih
def zN9:zAp:=zAn fun xs r=>∃ n,zGI n xs r
theorem zSG:PSound Tryz.prog 76 zN9:=zBr zQI
def zFG (n:Nat) (xs:List AV) (r:Ret):Prop:=∃ (a0:Nd) (y0:Int),zCS n a0=some y0/\xs=[.agg ((Nd.enc a0).map .s)]/\r = .val (.s (.int .i64 y0))
theorem zN2 (n:Nat) (ih:PSound Tryz.prog 77 (zAn (zFG n))):PSound Tryz.prog 77 (zAn (zFG (n+1))):=by
 have gok:∀ f s,look? f [(77,zAn (zFG n))]=some s->PSound Tryz.prog f s:=zAl (by
  simp only[List.forall_mem_cons]
  exact⟨ih,by simp⟩)
 refine zAo tokW Tryz.call77 Tryz.func77 rfl (fun xs r h=>by obtain⟨_,_,_,rfl,_⟩:=h; show 1<=21; decide) 21 rfl ?_;rintro xs r w0 G0 ⟨⟨n1A,n1B,n1D,n1C⟩,y0,h,rfl,rfl⟩ _;rw[zCS]at h;refine zYc ?_;refine zYc ?_;refine zAa ?_;refine zYc ?_;show Tri ..;obtain⟨out4,hl,h⟩:=zAc h;refine zAk ⟨ofL [(3,.s (.int .i64 out4))],fun _=>none,0⟩ ?_ (fun σ' hle=>?_)
 ·refine zAj (zAt (X:=Nat×Int×Int) (fun y=>match y with | (k,out2,i3)=>⟨ofL [(1,.s (.pt [.int .i64 n1A,.str n1B,.int .i64 n1D,.sl 4 (Nd.encs n1C)])),(3,.s (.int .i64 out2)),(4,.s (.int .i64 i3))],fun _=>none,0⟩) (fun y=>zCw (zCS n) n1C y.1 y.2.1 y.2.2=some out4) (fun y=>y.1) (n,1,0) hl ?_ ?_)
  ·exact(Le.forget _ ⟨rfl,rfl,rfl,trivial⟩)
  ·rintro⟨k,out2,i3⟩ h;cases k with
   | zero=>cases h
   | succ k =>
    replace h:zCw (zCS n) n1C (k+1) out2 i3=some out4:=h;rw[zCw]at h;refine zAa ?_;refine zXw [] [8] rfl ?_;intro n5 hn5;obtain rfl:(n1C.length:Int)=n5:=(hn5.trans (congrArg (fun m:Nat=>(m:Int)) (rlen Nd.encs_eq n1C))).symm;refine zAg rfl h (fun hb h=>?_) (fun hb h=>?_)
    ·refine zAe ?_;refine zAa ?_;refine zAj ?_;refine zAb [] [16] rfl ?_;obtain⟨⟨e6A,e6B,e6D,e6C⟩,he6,h⟩:=zAc h;refine And.intro (zAr Nd.encs_eq he6).1 ?_;intro r7 hr7;obtain rfl:[.int .i64 e6A,.str e6B,.int .i64 e6D,.sl 4 (Nd.encs e6C)]=r7:=(hr7.trans (zAr Nd.encs_eq he6).2.1).symm;obtain⟨y8,hy8,h⟩:=zAc h;refine⟨_,⟨_,_,hy8,rfl,rfl⟩,?_⟩
     refine zYb ?_;refine⟨(k,IntKind.i64.wrap (out2+y8),IntKind.i64.wrap (i3+1)),h,(Le.forget _ ⟨rfl,rfl,rfl,trivial⟩),Nat.lt_succ_self k⟩
    ·refine zAx ?_;cases h;exact(Le.forget _ ⟨rfl,trivial⟩)
 ·refine zAi hle ?_;refine zYc ?_;refine zAd ?_;have hy:=osi h;subst hy;exact fin0 rfl rfl
theorem zO9:∀ n,PSound Tryz.prog 77 (zAn (zFG n)):=by
 intro n
 induction n with
 | zero=>exact zA7 Tryz.call77 (fun xs r h=>by obtain⟨_,_,h,_⟩:=h; cases h)
 | succ n ih=>exact zN2 n ih
def zL1:zAp:=zAn fun xs r=>∃ n,zFG n xs r
theorem zRo:PSound Tryz.prog 77 zL1:=zBr zO9
def zFH (n:Nat) (xs:List AV) (r:Ret):Prop:=∃ (a0:Nd) (y0:Int),zCT n a0=some y0/\xs=[.agg ((Nd.enc a0).map .s)]/\r = .val (.s (.int .i64 y0))
theorem zN3 (n:Nat) (ih:PSound Tryz.prog 78 (zAn (zFH n))):PSound Tryz.prog 78 (zAn (zFH (n+1))):=by
 have gok:∀ f s,look? f [(78,zAn (zFH n))]=some s->PSound Tryz.prog f s:=zAl (by
  simp only[List.forall_mem_cons]
  exact⟨ih,by simp⟩)
 refine zAo tokW Tryz.call78 Tryz.func78 rfl (fun xs r h=>by obtain⟨_,_,_,rfl,_⟩:=h; show 1<=22; decide) 22 rfl ?_;rintro xs r w0 G0 ⟨⟨n1A,n1B,n1D,n1C⟩,y0,h,rfl,rfl⟩ _;rw[zCT]at h;refine zYc ?_;refine zYc ?_;refine zAa ?_;refine zYc ?_;show Tri ..;obtain⟨out4,hl,h⟩:=zAc h;refine zAk ⟨ofL [(3,.s (.int .i64 out4))],fun _=>none,0⟩ ?_ (fun σ' hle=>?_)
 ·refine zAj (zAt (X:=Nat×Int×Int) (fun y=>match y with | (k,out2,i3)=>⟨ofL [(1,.s (.pt [.int .i64 n1A,.str n1B,.int .i64 n1D,.sl 4 (Nd.encs n1C)])),(3,.s (.int .i64 out2)),(4,.s (.int .i64 i3))],fun _=>none,0⟩) (fun y=>zCx (zCT n) n1C y.1 y.2.1 y.2.2=some out4) (fun y=>y.1) (n,0,0) hl ?_ ?_)
  ·exact(Le.forget _ ⟨rfl,rfl,rfl,trivial⟩)
  ·rintro⟨k,out2,i3⟩ h;cases k with
   | zero=>cases h
   | succ k =>
    replace h:zCx (zCT n) n1C (k+1) out2 i3=some out4:=h;rw[zCx]at h;refine zAa ?_;refine zXw [] [8] rfl ?_;intro n5 hn5;obtain rfl:(n1C.length:Int)=n5:=(hn5.trans (congrArg (fun m:Nat=>(m:Int)) (rlen Nd.encs_eq n1C))).symm;refine zAg rfl h (fun hb h=>?_) (fun hb h=>?_)
    ·refine zAe ?_;refine zAa ?_;refine zAj ?_;refine zAb [] [16] rfl ?_;obtain⟨⟨e6A,e6B,e6D,e6C⟩,he6,h⟩:=zAc h;refine And.intro (zAr Nd.encs_eq he6).1 ?_;intro r7 hr7;obtain rfl:[.int .i64 e6A,.str e6B,.int .i64 e6D,.sl 4 (Nd.encs e6C)]=r7:=(hr7.trans (zAr Nd.encs_eq he6).2.1).symm;obtain⟨y8,hy8,h⟩:=zAc h;refine⟨_,⟨_,_,hy8,rfl,rfl⟩,?_⟩
     refine zYb ?_;refine⟨(k,(if out2<y8 then y8 else out2),IntKind.i64.wrap (i3+1)),h,(Le.forget _ ⟨rfl,rfl,rfl,trivial⟩),Nat.lt_succ_self k⟩
    ·refine zAx ?_;cases h;exact(Le.forget _ ⟨rfl,trivial⟩)
 ·refine zAi hle ?_;refine zYc ?_;refine zAd ?_;have hy:=osi h;subst hy;exact fin0 rfl rfl
theorem zPa:∀ n,PSound Tryz.prog 78 (zAn (zFH n)):=by
 intro n
 induction n with
 | zero=>exact zA7 Tryz.call78 (fun xs r h=>by obtain⟨_,_,h,_⟩:=h; cases h)
 | succ n ih=>exact zN3 n ih
def zL2:zAp:=zAn fun xs r=>∃ n,zFH n xs r
theorem zRp:PSound Tryz.prog 78 zL2:=zBr zPa
def zSc (n:Nat) (xs:List AV) (r:Ret):Prop:=∃ (a0:Nd) (y0:Bool),zA6 n a0=some y0/\xs=[.agg ((Nd.enc a0).map .s)]/\r = .val (.s (.bool y0))
def zD3:zAp:=zAn fun xs r=>∃ n,zSc n xs r
theorem zEh:PSound Tryz.prog 35 zD3:=by
 have gok:∀ f s,look? f [(76,zN9),(77,zL1),(78,zL2)]=some s->PSound Tryz.prog f s:=zAl (by
  simp only[List.forall_mem_cons]
  exact⟨zSG,zRo,zRp,by simp⟩)
 refine zAo tokW Tryz.call35 Tryz.func35 rfl (fun xs r h=>by obtain⟨n,_,_,_,rfl,_⟩:=h; show 1<=20; decide) 20 rfl ?_;rintro xs r w0 G0 ⟨n,⟨n1A,n1B,n1D,n1C⟩,y0,h,rfl,rfl⟩ _;rw[zA6]at h;refine zYc ?_;refine zAa ?_;obtain⟨x2,hj,h⟩:=zAc h;refine zAk ⟨ofL [(2,.s (.bool x2))],fun _=>none,0⟩ ?_ (fun σ' hle=>?_)
 ·replace h:=hj;refine zAb [] [6,10,15] rfl ?_;intro b hb;cases b with
  | true =>
   replace h:=zAv hb.symm h;obtain⟨y3,hy3,h⟩:=zAc h;refine⟨_,⟨_,_,_,hy3,rfl,rfl⟩,?_⟩
   intro b hb;cases b with
   | true =>
    replace h:=zAv hb.symm h;obtain⟨y4,hy4,h⟩:=zAc h;refine⟨_,⟨_,_,_,hy4,rfl,rfl⟩,?_⟩
    intro b hb;cases b with
    | true =>
     replace h:=zAv hb.symm h;obtain⟨y5,hy5,h⟩:=zAc h;refine⟨_,⟨_,_,_,hy5,rfl,rfl⟩,?_⟩
     cases h;exact(Le.forget _ ⟨rfl,trivial⟩)
    | false =>
     replace h:=zAu hb.symm h;cases h;exact(Le.forget _ ⟨rfl,trivial⟩)
   | false =>
    replace h:=zAu hb.symm h;intro b hb;subst hb;cases h;exact(Le.forget _ ⟨rfl,trivial⟩)
  | false =>
   replace h:=zAu hb.symm h;intro b hb;subst hb;intro b hb;subst hb;cases h;exact(Le.forget _ ⟨rfl,trivial⟩)
 ·refine zAi hle ?_;refine zAd ?_;have hy:=osi h;subst hy;exact fin0 rfl rfl
def zEA (n:Nat) (xs:List AV) (r:Ret):Prop:=∃ (a0:Nd) (a1:Nd) (y0:Bool),zB7 n a0 a1=some y0/\xs=[.agg ((Nd.enc a0).map .s),.agg ((Nd.enc a1).map .s)]/\r = .val (.s (.bool y0))
def zCE (n:Nat) (xs:List AV) (r:Ret):Prop:=∃ (a0:List Nd) (a1:List Nd) (y0:Bool),zB9 n a0 a1=some y0/\xs=[.s (.sl 4 (Nd.encs a0)),.s (.sl 4 (Nd.encs a1))]/\r = .val (.s (.bool y0))
theorem zN4 (n:Nat) (ih_r09_Equal:PSound Tryz.prog 16 (zAn (zEA n))) (ih_r09_SameItems:PSound Tryz.prog 38 (zAn (zCE n))):PSound Tryz.prog 16 (zAn (zEA (n+1))):=by
 have gok:∀ f s,look? f [(38,zAn (zCE n))]=some s->PSound Tryz.prog f s:=zAl (by
  simp only[List.forall_mem_cons]
  exact⟨ih_r09_SameItems,by simp⟩)
 refine zAo tokW Tryz.call16 Tryz.func16 rfl (fun xs r h=>by obtain⟨_,_,_,_,rfl,_⟩:=h; show 2<=31; decide) 31 rfl ?_;rintro xs r w0 G0 ⟨⟨a1A,a1B,a1D,a1C⟩,⟨b2A,b2B,b2D,b2C⟩,y0,h,rfl,rfl⟩ _;rw[zB7]at h;refine zYc ?_;refine zAa ?_;obtain⟨x3,hj,h⟩:=zAc h;refine zAk ⟨ofL [(4,.s (.bool x3))],fun _=>none,0⟩ ?_ (fun σ' hle=>?_)
 ·replace h:=hj;refine zAb [] [10,17,24] rfl ?_;intro b hb;cases b with
  | true =>
   replace h:=zAv hb.symm h;intro b hb;cases b with
   | true =>
    replace h:=zAv hb.symm h;intro b hb;cases b with
    | true =>
     replace h:=zAv hb.symm h;obtain⟨y4,hy4,h⟩:=zAc h;refine⟨_,⟨_,_,_,hy4,rfl,rfl⟩,?_⟩
     cases h;exact(Le.forget _ ⟨rfl,trivial⟩)
    | false =>
     replace h:=zAu hb.symm h;cases h;exact(Le.forget _ ⟨rfl,trivial⟩)
   | false =>
    replace h:=zAu hb.symm h;intro b hb;subst hb;cases h;exact(Le.forget _ ⟨rfl,trivial⟩)
  | false =>
   replace h:=zAu hb.symm h;intro b hb;subst hb;intro b hb;subst hb;cases h;exact(Le.forget _ ⟨rfl,trivial⟩)
 ·refine zAi hle ?_;refine zAd ?_;have hy:=osi h;subst hy;exact fin0 rfl rfl
theorem zKc (n:Nat) (ih_r09_Equal:PSound Tryz.prog 16 (zAn (zEA n))) (ih_r09_SameItems:PSound Tryz.prog 38 (zAn (zCE n))):PSound Tryz.prog 38 (zAn (zCE (n+1))):=by
 have gok:∀ f s,look? f [(16,zAn (zEA n))]=some s->PSound Tryz.prog f s:=zAl (by
  simp only[List.forall_mem_cons]
  exact⟨ih_r09_Equal,by simp⟩)
 refine zAo tokW Tryz.call38 Tryz.func38 rfl (fun xs r h=>by obtain⟨_,_,_,_,rfl,_⟩:=h; show 2<=27; decide) 27 rfl ?_;rintro xs r w0 G0 ⟨a1,b2,y0,h,rfl,rfl⟩ _;rw[zB9]at h;refine zYc ?_;refine zAa ?_;refine zXw [] [7,9] rfl ?_;intro n3 hn3;obtain rfl:(a1.length:Int)=n3:=(hn3.trans (congrArg (fun m:Nat=>(m:Int)) (rlen Nd.encs_eq a1))).symm;intro n4 hn4;obtain rfl:(b2.length:Int)=n4:=(hn4.trans (congrArg (fun m:Nat=>(m:Int)) (rlen Nd.encs_eq b2))).symm;refine zAg rfl h (fun hb h=>?_) (fun hb h=>?_)
 ·refine zYc ?_;refine zAd ?_;have hy:=osi h;subst hy;exact fin0 rfl rfl
 ·refine zAe ?_;refine zAa ?_;refine zYc ?_;show Tri ..;obtain⟨fl,hl,ho1⟩:=zAc h;refine zBO (fl:=fl) (fun z=>match z with | _=>⟨ofL [],fun _=>none,0⟩) ?_ (fun z σ' hz hle=>?_)
  ·refine zAj (zAt (X:=Nat×Int) (fun y=>match y with | (k,i5)=>⟨ofL [(0,.s (.sl 4 (Nd.encs a1))),(1,.s (.sl 4 (Nd.encs b2))),(5,.s (.int .i64 i5))],fun _=>none,0⟩) (fun y=>zBp (zB7 n) a1 b2 y.1 y.2=some fl) (fun y=>y.1) (n,0) hl ?_ ?_)
   ·exact(Le.forget _ ⟨rfl,rfl,rfl,trivial⟩)
   ·rintro⟨k,i5⟩ h;cases k with
    | zero=>cases h
    | succ k =>
     replace h:zBp (zB7 n) a1 b2 (k+1) i5=some fl:=h;rw[zBp]at h;refine zAa ?_;refine zXw [] [13] rfl ?_;intro n6 hn6;obtain rfl:(a1.length:Int)=n6:=(hn6.trans (congrArg (fun m:Nat=>(m:Int)) (rlen Nd.encs_eq a1))).symm;refine zAg rfl h (fun hb h=>?_) (fun hb h=>?_)
     ·refine zAe ?_;refine zAa ?_;refine zAj ?_;refine zAa ?_;refine zAO [] [19,23] [] rfl (by decide +kernel) ?_;obtain⟨⟨e7A,e7B,e7D,e7C⟩,he7,h⟩:=zAc h;refine And.intro (zAr Nd.encs_eq he7).1 ?_;intro r8 hr8;obtain rfl:[.int .i64 e7A,.str e7B,.int .i64 e7D,.sl 4 (Nd.encs e7C)]=r8:=(hr8.trans (zAr Nd.encs_eq he7).2.1).symm;obtain⟨⟨e9A,e9B,e9D,e9C⟩,he9,h⟩:=zAc h;refine And.intro (zAr Nd.encs_eq he9).1 ?_;intro r10 hr10
      obtain rfl:[.int .i64 e9A,.str e9B,.int .i64 e9D,.sl 4 (Nd.encs e9C)]=r10:=(hr10.trans (zAr Nd.encs_eq he9).2.1).symm;obtain⟨y11,hy11,h⟩:=zAc h;refine⟨_,⟨_,_,_,hy11,rfl,rfl⟩,?_⟩
      refine zAg rfl h (fun hb h=>?_) (fun hb h=>?_)
      ·refine zYc ?_;refine zAd ?_;cases h;replace h:some _=some _:=ho1;have hy:=osi h;subst hy;exact fin0 rfl rfl
      ·refine zAe ?_;refine zYb ?_;refine⟨(k,IntKind.i64.wrap (i5+1)),h,(Le.forget _ ⟨rfl,rfl,rfl,trivial⟩),Nat.lt_succ_self k⟩
     ·refine zAx ?_;cases h;exact⟨_,rfl,(Le.forget _ trivial)⟩
  ·subst hz;obtain _:=z;replace h:=ho1;refine zAi hle ?_;refine zYc ?_;refine zAd ?_;have hy:=osi h;subst hy;exact fin0 rfl rfl
theorem zIT:∀ n,PSound Tryz.prog 16 (zAn (zEA n))/\PSound Tryz.prog 38 (zAn (zCE n)):=by
 intro n
 induction n with
 | zero =>
  refine⟨?_,?_⟩
  ·exact zA7 Tryz.call16 (fun xs r h=>by obtain⟨_,_,_,h,_⟩:=h; rw[zB7]at h; cases h)
  ·exact zA7 Tryz.call38 (fun xs r h=>by obtain⟨_,_,_,h,_⟩:=h; rw[zB9]at h; cases h)
 | succ n ih =>
  obtain⟨ih_r09_Equal,ih_r09_SameItems⟩:=ih;exact⟨zN4 n ih_r09_Equal ih_r09_SameItems,zKc n ih_r09_Equal ih_r09_SameItems⟩
def zL4:zAp:=zAn fun xs r=>∃ n,zEA n xs r
theorem zRr:PSound Tryz.prog 16 zL4:=zBr (fun n=>(zIT n).1)
def zHL:zAp:=zAn fun xs r=>∃ n,zCE n xs r
theorem zLz:PSound Tryz.prog 38 zHL:=zBr (fun n=>(zIT n).2)
def zTH (n:Nat) (xs:List AV) (r:Ret):Prop:=∃ (a0:Nd) (a1:List Int) (y0:Nd) (y1:Int),zGX n a0 a1=some (y0,y1)/\xs=[.agg ((Nd.enc a0).map .s),.s (.sl 1 (a1.map (irow .i64)))]/\r = .val (.tup [.agg ((Nd.enc y0).map .s),.s (.int .i64 y1)])
def zN6:zAp:=zAn fun xs r=>∃ n,zTH n xs r
theorem zSD:PSound Tryz.prog 146 zN6:=by
 have gok:∀ f s,look? f [(73,zCK),(178,zLY),(53,zFI)]=some s->PSound Tryz.prog f s:=zAl (by
  simp only[List.forall_mem_cons]
  exact⟨zCY,zRl,zGp,by simp⟩)
 refine zAo tokW Tryz.call146 Tryz.func146 rfl (fun xs r h=>by obtain⟨n,_,_,_,_,_,rfl,_⟩:=h; show 2<=_; decide) _ rfl ?_;rintro xs r w0 G0 ⟨f,⟨k,t,c,ks⟩,p,y0,y1,h,rfl,rfl⟩ _;rw[zGX]at h;obtain⟨b,hb,h⟩:=zAc h;refine zXw [4] [] rfl ?_;refine zAa ?_;refine zYc ?_;refine⟨_,⟨f,_,_,hb,rfl,rfl⟩,?_⟩
 show Tri ..;cases b with
 | false =>
  refine zAI rfl (fun _=>?_) (fun h=>by cases h)
  refine zYc ?_;refine zAd ?_;obtain⟨rfl,rfl⟩:=Prod.mk.inj (Option.some.inj h)
  unfold zCJ;exact⟨_,Le.refl _ _,rfl,rfl⟩
 | true =>
  refine zAI rfl (fun h=>by cases h) (fun _=>?_)
  refine zAe ?_;show Tri ..;replace h:(match zBx (.mk k t c ks) p with | some r=>(zBy r).bind fun r=>some (r,0) | none=>some (zDj,8))=some (y0,y1):=h;refine zYc ?_;cases hf:zBx (.mk k t c ks) p with
  | none =>
   rw[hf]at h;refine⟨.val (.tup [.junk,.s (.bool false)]),⟨.mk k t c ks,p,rfl,by rw[hf]; rfl⟩,?_⟩
   refine zAa ?_;refine zYc ?_;refine zAI rfl (fun _=>?_) (fun h=>by cases h)
   refine zYc ?_;refine zAd ?_;obtain⟨rfl,rfl⟩:=Prod.mk.inj (Option.some.inj h)
   unfold zCJ;exact⟨_,Le.refl _ _,rfl,rfl⟩
  | some z =>
   obtain⟨k2,t2,c2,ks2⟩:=z;rw[hf]at h;refine⟨.val (.tup [.s (.pt (Nd.enc (.mk k2 t2 c2 ks2))),.s (.bool true)]),⟨.mk k t c ks,p,rfl,by rw[hf]; rfl⟩,?_⟩
   refine zAa ?_;refine zYc ?_;refine zAI rfl (fun h=>by cases h) (fun _=>?_)
   refine zAe ?_;show Tri ..;obtain⟨⟨k3,t3,c3,ks3⟩,hd,h⟩:=zAc h;obtain⟨rfl,rfl⟩:=Prod.mk.inj (Option.some.inj h)
   refine zYc ?_;refine⟨_,⟨_,_,hd,rfl,rfl⟩,?_⟩
   refine zAd ?_;unfold zCJ;exact⟨_,Le.refl _ _,rfl,rfl⟩
theorem zVv {T:Nat->Option TI}{own:Bool}{o:Oper}{σ:St}{e t e0:Nat}{args:Array Operand}{ts:Array Nat}{y:Operand}{v:AV}{ks:List Nd}{keys:List Nat} (hv:VAt σ.hp e v ks keys) (ho:o.op = .call { callee:=.builtin .len,args:=args,argTypes:=ts }) (ha:args.toList=[y]) (hts:ts.toList=[t]) (ht:tk T t = .slice e0)
  (hy:opd T σ.env t y=v):step1 T own o σ=some (none,.s (.int .i64 (ks.length:Int)),σ):=by
 rcases hv with ⟨rfl,rfl,_⟩ | ⟨q,rows,keys',w,rfl,hq,hlen,_,_⟩
 ·have e1:zCI T own o σ.env=some (none,.s (.int .i64 0)) :=(by simp only[zCI,ho,ha,hts,pLen,ht,hy]; rfl);simp only[step1,e1]; rfl
 ·rw[zNa ho ha hts ht hy hq,hlen]
theorem zVg {k c:Int}{tx:List UInt8}{ks:List Nd}{k2 c2:Int}{tx2:List UInt8}{ks2:List Nd}{z r:Nd}{i s:Int}{p:List Int} (hx:ks[i.toNat]? = some (.mk k2 tx2 c2 ks2)) (hz:ks2[s.toNat]? = some z) :
  putL (.mk k tx c ks) (i::s::p) r = .mk k tx c (ks.set i.toNat (.mk k2 tx2 c2 (ks2.set s.toNat (putL z p r)))):=by
 rw[putL,hx]
 simp only[hz]
theorem Hole.here {hp:Nat->Option Ob}{e:Nat}{p p1:AV}{y:Nd}{keys:List Nat}{F:Nd->Nd} (hn:(zBh p::keys).Nodup) (h:Hole hp e p keys p1 y F):∃ keys0 w0,At hp e p1 y keys0 [] w0/\isL 4 p1/\(zBh p1::keys0).Nodup:=by
 obtain⟨keys0,rest,w0,a1,a2,a3,a4,_⟩:=h;obtain⟨hb,hnk⟩:=List.nodup_cons.1 hn;obtain⟨n0,n1,n01⟩:=List.nodup_append.1 (a1.nodup_iff.1 hnk)
 refine⟨keys0,w0,a2,a3,List.nodup_cons.2 ⟨fun hm=>?_,n0⟩⟩
 rcases a4 with rfl | a4
 ·exact hb (a1.mem_iff.2 (List.mem_append_left _ hm))
 ·exact n01 _ hm _ a4 rfl
theorem Hole.step {hp:Nat->Option Ob}{e q i:Nat}{p p1:AV}{k c:Int}{tx:List UInt8}{ks:List Nd}{x:Nd}{keys:List Nat}{F:Nd->Nd} (hn:(zBh p::keys).Nodup) (h:Hole hp e p keys p1 (.mk k tx c ks) F) (hx:ks[i]? = some x) (hc:zAG hp p1=some (zA4 k tx c (.orow q))) :
  Hole hp e p keys (.rp q 4 i 0) x (fun r=>F (.mk k tx c (ks.set i r))) :=
 Hole.trans hn h fun keys0 w0 ha hl hn0=>by
  obtain⟨b,rows,h1,_,_,h4⟩:=Hole.kid ha hl hn0 hx;rw[hc]at h1;have:q=b :=(by simpa [zA4] using h1);rw[this]; exact h4
theorem zWj {t r:Nd}:putL t [] r=r:=by cases t; rfl
def zQd (xs:List AV) (hp:Nat->Option Ob) (n:Nat) (Φ:AV->(Nat->Option Ob)->Nat->Prop):Prop :=
 ∃ (p:AV) (t:Nd) (path:List Int) (keys:List Nat) (w:Nat),xs=[p,.s (.sl 1 (path.map (irow .i64)))]/\isL 4 p/\At hp 24 p t keys [] w/\(zBh p::keys).Nodup /\
  (zBx t path=none->Φ (.tup [.junk,.s (.bool false)]) hp n)/\∀ p1 y F,zBx t path=some y->Hole hp 24 p keys p1 y F->(∀ r,putL t path r=F r)->Φ (.tup [p1,.s (.bool true)]) hp n
def zLL:zAp:=zQ4 zQd
set_option maxHeartbeats 600000 in
theorem zPi:PSound Tryz.prog 178 zLL:=by
 have gok:=@gok0 Tryz.prog;refine zOo tokW Tryz.call178 Tryz.func178 rfl (fun xs hp n Φ h=>by obtain⟨_,_,_,_,_,rfl,_⟩:=h; show 2<=_; decide) _ rfl ?_;rintro xs hp n Φ w0 G0 B0 ⟨p0,t0,path0,keys,w,rfl,hl0,hat,hnd,hΦ1,hΦ2⟩ _ hhp;refine zYc ?_;refine zAa ?_;refine zAj (zAt (X:=AV×Nd×List Int×(Nd->Nd)) (fun x=>match x with | (p,y,q,F)=>⟨ofL [(0,p),(1,.s (.sl 1 (q.map (irow .i64)))),(4,.s .np),(5,.s (.bool false))],hp,n⟩)
  (fun x=>match x with | (p,y,q,F)=>zBx t0 path0=zBx y q/\Hole hp 24 p0 keys p y F/\∀ r,putL t0 path0 r=F (putL y q r)) (fun x=>match x with | (p,y,q,F)=>q.length) (p0,t0,path0,id) ⟨rfl,Hole.refl hat hl0,fun _=>rfl⟩ (Le.forget [(0,p0),(1,.s (.sl 1 (path0.map (irow .i64)))),(4,.s .np),(5,.s (.bool false))] ⟨rfl,rfl,rfl,rfl,trivial⟩) ?_)
 rintro⟨p,⟨k,t,c,ks⟩,q,F⟩ hI;have hI:zBx t0 path0=zBx (.mk k t c ks) q/\Hole hp 24 p0 keys p (.mk k t c ks) F/\∀ r,putL t0 path0 r=F (putL (.mk k t c ks) q r):=hI
 obtain⟨hI1,hI2,hI3⟩:=hI;have hlp:isL 4 p :=(by obtain⟨_,_,_,_,_,h,_⟩:=hI2; exact h);refine zAa ?_;refine zYc ?_;refine zAI rfl (fun hb=>?_) (fun hb=>?_)
 ·refine zAe ?_;show Tri ..
  match q,hI1,hI3,hb with
  | [],_,_,hb=>cases hb
  | [_],_,_,hb=>cases hb
  | i::s::q,hI1,hI3,hb =>
   refine zAi (Le.forgetH [(0,p),(1,.s (.sl 1 ((i::s::q).map (irow .i64)))),(4,.s .np),(5,.s (.bool false))] hp n ⟨rfl,rfl,rfl,rfl,trivial⟩ (fun _=>rfl) rfl) ?_;refine zAa ?_;refine zAj ?_;refine zAa ?_;refine zNk (by exact tokW) (by exact gok) (by exact mixed) [] [] [1,2,4,5] rfl (by decide +kernel) ?_;refine And.intro (show(0:Int)<=0/\(0:Int)<((((i::s::q).map (irow .i64)).length:Nat):Int) by simp only[List.map_cons,List.length_cons]; omega) ?_;refine And.intro (show(0:Int)<=1/\(1:Int)<((((i::s::q).map (irow .i64)).length:Nat):Int) by simp only[List.map_cons,List.length_cons]; omega) ?_;show Tri ..
   refine zAi (Le.forgetH [(0,p),(1,.s (.sl 1 ((i::s::q).map (irow .i64)))),(4,.s .np),(5,.s (.bool false)),(6,.s (.int .i64 i)),(7,.s (.int .i64 s))] hp n ⟨rfl,rfl,rfl,rfl,rfl,rfl,trivial⟩ (fun _=>rfl) rfl) ?_;refine zAa ?_;refine zAa ?_
   by_cases hi:i<0
   ·refine zAb [] [21] rfl ?_;intro b hb;obtain rfl:true=b:=(hb.trans (decide_eq_true hi)).symm;refine zAI rfl (fun _=>?_) (fun h=>by cases h)
    refine zYc ?_;refine zAd ?_;unfold zIF;exact⟨_,Le.forget [(5,.s (.bool false))] ⟨rfl,trivial⟩,_,rfl,hΦ1 (hI1.trans (zHb (fun h=>by omega)))⟩
   obtain⟨keys1,w1,hat1,_,hnd1⟩:=hI2.here hnd;obtain⟨v,hcv,hv⟩:=hat1.full;refine zYb ?_;refine zAf rfl rfl rfl rfl rfl rfl trivial ?_;refine zAf rfl rfl rfl rfl rfl rfl trivial ?_;rw[show decide (i<0)=false from decide_eq_false hi]
   refine zAf rfl rfl rfl rfl rfl rfl trivial ?_;refine zDg (g:=22) rfl rfl rfl ?_;refine zAf rfl rfl rfl rfl rfl rfl trivial ?_;refine zDg (g:=22) rfl rfl rfl ?_;refine zAf rfl rfl rfl rfl rfl (zDe hlp (.inr rfl) rfl rfl) trivial ?_;refine zDg (g:=22) rfl rfl rfl ?_;refine zAf rfl rfl rfl rfl rfl (zEQ hlp rfl rfl) trivial ?_;refine zDg (g:=22) rfl rfl rfl ?_;refine zAf rfl rfl rfl rfl rfl (zFg hlp rfl rfl rfl rfl rfl rfl rfl) trivial ?_;refine zDg (g:=22) rfl rfl rfl ?_;refine zDX (off:=3) (sz:=4) rfl rfl rfl rfl rfl rfl rfl hlp rfl hcv rfl ?_;refine zDg (g:=22) rfl rfl rfl ?_
   refine zAf rfl rfl rfl rfl rfl (zVv hv rfl rfl rfl rfl rfl) trivial ?_;refine zDg (g:=22) rfl rfl rfl ?_;refine zAf rfl rfl rfl rfl rfl rfl trivial ?_
   by_cases hi2:(ks.length:Int)<=i
   ·rw[show decide ((ks.length:Int)<=i)=true from decide_eq_true hi2]
    refine zAf rfl rfl rfl rfl rfl rfl trivial ?_;refine zAI rfl (fun _=>?_) (fun h=>by cases h)
    refine zYc ?_;refine zAd ?_;unfold zIF;exact⟨_,Le.forget [(5,.s (.bool false))] ⟨rfl,trivial⟩,_,rfl,hΦ1 (hI1.trans (zHb (n:=.mk k t c ks) (fun h=>by have:i<(ks.length:Int):=h.2; omega)))⟩
   rw[show decide ((ks.length:Int)<=i)=false from decide_eq_false hi2]
   refine zAf rfl rfl rfl rfl rfl rfl trivial ?_;refine zAI rfl (fun h=>by cases h) (fun _=>?_)
   refine zAe ?_;show Tri ..;have hi0:i.toNat<ks.length :=(by omega);obtain⟨⟨k2,t2,c2,ks2⟩,hx⟩:∃ x,ks[i.toNat]? = some x:=⟨_,List.getElem?_eq_getElem hi0⟩
   obtain⟨b1,rows1,hc1,hr1,hlen1,hole1⟩:=Hole.kid hat1 hlp hnd1 hx;refine zAi (Le.forgetH [(0,p),(1,.s (.sl 1 ((i::s::q).map (irow .i64)))),(4,.s .np),(5,.s (.bool false)),(6,.s (.int .i64 i)),(7,.s (.int .i64 s))] hp n ⟨rfl,rfl,rfl,rfl,rfl,rfl,trivial⟩ (fun _=>rfl) rfl) ?_;refine zYc ?_;refine zAf rfl rfl rfl rfl rfl (zDe hlp (.inr rfl) rfl rfl) trivial ?_;refine zAf rfl rfl rfl rfl rfl (zEQ hlp rfl rfl) trivial ?_;refine zAf rfl rfl rfl rfl rfl (zFg hlp rfl rfl rfl rfl rfl rfl rfl) trivial ?_;refine zDX (off:=3) (sz:=4) rfl rfl rfl rfl rfl rfl rfl hlp rfl hc1 rfl ?_
   refine zAf rfl rfl rfl rfl rfl rfl trivial ?_;refine zAf rfl rfl rfl rfl rfl (zPY rfl rfl rfl rfl rfl rfl hr1 rfl) ⟨by omega,by rw[hlen1]; omega⟩ ?_;refine zAf rfl rfl rfl rfl rfl rfl trivial ?_;refine zAi (Le.forgetH [(0,p),(1,.s (.sl 1 ((i::s::q).map (irow .i64)))),(4,.s .np),(5,.s (.bool false)),(6,.s (.int .i64 i)),(7,.s (.int .i64 s)),(8,.rp b1 4 i.toNat 0)] hp n ⟨rfl,rfl,rfl,rfl,rfl,rfl,rfl,trivial⟩ (fun _=>rfl) rfl) ?_;refine zAa ?_;refine zAa ?_
   by_cases hs:s<0
   ·refine zAb [] [38] rfl ?_;intro b hb;obtain rfl:true=b:=(hb.trans (decide_eq_true hs)).symm;refine zAI rfl (fun _=>?_) (fun h=>by cases h)
    refine zYc ?_;refine zAd ?_;unfold zIF;exact⟨_,Le.forget [(5,.s (.bool false))] ⟨rfl,trivial⟩,_,rfl,hΦ1 (hI1.trans (zHc (n:=.mk k t c ks) (by omega) hx (fun h=>by omega)))⟩
   have hl2:isL 4 (.rp b1 4 i.toNat 0):=.inl ⟨b1,i.toNat,rfl⟩
   have hI4:=Hole.step hnd hI2 hx hc1;obtain⟨keys2,w2,hat2,_,hnd2⟩:=hI4.here hnd;obtain⟨v2,hcv2,hv2⟩:=hat2.full;refine zYb ?_;refine zAf rfl rfl rfl rfl rfl rfl trivial ?_;refine zAf rfl rfl rfl rfl rfl rfl trivial ?_;rw[show decide (s<0)=false from decide_eq_false hs]
   refine zAf rfl rfl rfl rfl rfl rfl trivial ?_;refine zDg (g:=39) rfl rfl rfl ?_;refine zAf rfl rfl rfl rfl rfl rfl trivial ?_;refine zDg (g:=39) rfl rfl rfl ?_;refine zAf rfl rfl rfl rfl rfl (zDe hl2 (.inr rfl) rfl rfl) trivial ?_;refine zDg (g:=39) rfl rfl rfl ?_;refine zAf rfl rfl rfl rfl rfl (zEQ hl2 rfl rfl) trivial ?_;refine zDg (g:=39) rfl rfl rfl ?_;refine zAf rfl rfl rfl rfl rfl (zFg hl2 rfl rfl rfl rfl rfl rfl rfl) trivial ?_;refine zDg (g:=39) rfl rfl rfl ?_;refine zDX (off:=3) (sz:=4) rfl rfl rfl rfl rfl rfl rfl hl2 rfl hcv2 rfl ?_;refine zDg (g:=39) rfl rfl rfl ?_
   refine zAf rfl rfl rfl rfl rfl (zVv hv2 rfl rfl rfl rfl rfl) trivial ?_;refine zDg (g:=39) rfl rfl rfl ?_;refine zAf rfl rfl rfl rfl rfl rfl trivial ?_
   by_cases hs2:(ks2.length:Int)<=s
   ·rw[show decide ((ks2.length:Int)<=s)=true from decide_eq_true hs2]
    refine zAf rfl rfl rfl rfl rfl rfl trivial ?_;refine zAI rfl (fun _=>?_) (fun h=>by cases h)
    refine zYc ?_;refine zAd ?_;unfold zIF;exact⟨_,Le.forget [(5,.s (.bool false))] ⟨rfl,trivial⟩,_,rfl,hΦ1 (hI1.trans (zHc (n:=.mk k t c ks) (by omega) hx (fun h=>by have:s<(ks2.length:Int):=h.2; omega)))⟩
   rw[show decide ((ks2.length:Int)<=s)=false from decide_eq_false hs2]
   refine zAf rfl rfl rfl rfl rfl rfl trivial ?_;refine zAI rfl (fun h=>by cases h) (fun _=>?_)
   refine zAe ?_;show Tri ..;have hs0:s.toNat<ks2.length :=(by omega);obtain⟨z,hz⟩:∃ z,ks2[s.toNat]? = some z:=⟨_,List.getElem?_eq_getElem hs0⟩
   obtain⟨b2,rows2,hc2,hr2,hlen2,hole2⟩:=Hole.kid hat2 hl2 hnd2 hz;refine zAi (Le.forgetH [(0,p),(1,.s (.sl 1 ((i::s::q).map (irow .i64)))),(4,.s .np),(5,.s (.bool false)),(6,.s (.int .i64 i)),(7,.s (.int .i64 s)),(8,.rp b1 4 i.toNat 0)] hp n ⟨rfl,rfl,rfl,rfl,rfl,rfl,rfl,trivial⟩ (fun _=>rfl) rfl) ?_;refine zYb ?_;refine zAf rfl rfl rfl rfl rfl (zDe hl2 (.inr rfl) rfl rfl) trivial ?_;refine zAf rfl rfl rfl rfl rfl (zEQ hl2 rfl rfl) trivial ?_;refine zAf rfl rfl rfl rfl rfl (zFg hl2 rfl rfl rfl rfl rfl rfl rfl) trivial ?_;refine zDX (off:=3) (sz:=4) rfl rfl rfl rfl rfl rfl rfl hl2 rfl hc2 rfl ?_
   refine zAf rfl rfl rfl rfl rfl rfl trivial ?_;refine zAf rfl rfl rfl rfl rfl (zPY rfl rfl rfl rfl rfl rfl hr2 rfl) ⟨by omega,by rw[hlen2]; omega⟩ ?_;refine zAf rfl rfl rfl rfl rfl rfl trivial ?_;refine zAi (Le.forgetH [(0,.rp b2 4 s.toNat 0),(1,.s (.sl 1 ((i::s::q).map (irow .i64)))),(4,.s .np),(5,.s (.bool false))] hp n ⟨rfl,rfl,rfl,rfl,trivial⟩ (fun _=>rfl) rfl) ?_;refine zYb ?_;have h2l:(2:Int)<=((((i::s::q).map (irow .i64)).length:Nat):Int) :=(by simp only[List.map_cons,List.length_cons]; omega);refine zAf rfl rfl rfl rfl rfl rfl trivial ?_
   refine zAf rfl rfl rfl rfl rfl rfl ⟨by decide,h2l,Int.le_refl _⟩ ?_;refine zAf rfl rfl rfl rfl rfl rfl trivial ?_;have hI5:=Hole.step hnd hI4 hz hc2;refine⟨(.rp b2 4 s.toNat 0,z,q,fun r=>F (.mk k t c (ks.set i.toNat (.mk k2 t2 c2 (ks2.set s.toNat r))))),⟨?_,hI5,?_⟩,Le.forgetH [(0,.rp b2 4 s.toNat 0),(1,.s (.sl 1 (q.map (irow .i64)))),(4,.s .np),(5,.s (.bool false))] hp n ⟨rfl,congrArg (fun z=>AV.s (.sl 1 z)) ?_,rfl,rfl,trivial⟩ (fun _=>rfl) rfl,?_⟩
   ·exact hI1.trans (zOl (n:=.mk k t c ks) (by omega) hx (by omega) hz)
   ·intro r;exact(hI3 r).trans (congrArg F (zVg hx hz))
   ·show List.drop 2 (List.take ((((i::s::q).map (irow .i64)).length:Nat):Int).toNat ((i::s::q).map (irow .i64)))=_;rw[Int.toNat_natCast,List.take_length]; rfl
   ·show q.length<q.length+1+1
    omega
 ·refine zAx ?_;refine zAi (Le.forgetH [(0,p),(1,.s (.sl 1 (q.map (irow .i64)))),(4,.s .np),(5,.s (.bool false))] hp n ⟨rfl,rfl,rfl,rfl,trivial⟩ (fun _=>rfl) rfl) ?_;refine zYc ?_;refine zAf rfl rfl rfl rfl rfl (zDe hlp (.inr rfl) rfl rfl) trivial ?_
  match q,hI1,hI3,hb with
  | [],hI1,hI3,_ =>
   refine zAf rfl rfl rfl rfl rfl rfl trivial ?_;refine zAf rfl rfl rfl rfl rfl rfl trivial ?_;refine zAf rfl rfl rfl rfl rfl rfl trivial ?_;refine zAf rfl rfl rfl rfl rfl (zDe hlp (.inl rfl) rfl rfl) trivial ?_;refine zAf rfl rfl rfl rfl rfl rfl trivial ?_;refine zAd ?_;have hd:AV.deep p=p:=by rcases hlp with ⟨_,_,rfl⟩ | ⟨_,rfl⟩ <;> rfl
   unfold zIF;refine⟨_,Le.forget [(4,p),(5,.s (.bool true))] ⟨rfl,rfl,trivial⟩,.tup [p,.s (.bool true)],?_,hΦ2 p (.mk k t c ks) F (hI1.trans rfl) hI2 fun r=>(hI3 r).trans (by rw[zWj])⟩
   show some (AV.tup [AV.deep p,.s (.bool true)])=_;rw[hd]
  | [i],hI1,_,_ =>
   refine zAf rfl rfl rfl rfl rfl rfl trivial ?_;refine zAf rfl rfl rfl rfl rfl rfl trivial ?_;refine zAf rfl rfl rfl rfl rfl rfl trivial ?_;refine zAf rfl rfl rfl rfl rfl (zDe hlp (.inl rfl) rfl rfl) trivial ?_;refine zAf rfl rfl rfl rfl rfl rfl trivial ?_;refine zAd ?_;unfold zIF;exact⟨_,Le.forget [(5,.s (.bool false))] ⟨rfl,trivial⟩,_,rfl,hΦ1 (hI1.trans rfl)⟩
  | i::s::p,_,_,hb=>exact absurd (of_decide_eq_false hb) (by simp only[List.map_cons,List.length_cons]; omega)
theorem zIq {T:Nat->Option TI}{σ:St}{t ty q bt u:Nat}{i:TI}{cells:List AV} (h1:σ.env t = .op q 0) (h2:σ.hp q=some (.box bt cells)) (h3:T ty=some i) (ha:i.k.agg=true) (hz:i.size=cells.length):zKF T σ [.cell t ty,.tmp u]=some (.tup [AV.deep (.agg cells),(σ.env u).deep]):=by
 have hb:Nat.ble i.size cells.length=true :=(by rw[hz]; exact Nat.ble_eq_true_of_le (Nat.le_refl _));simp only[zKF,zIf,zRL,h1,h2,h3,ha,hb]
 rw[hz,List.take_length]
theorem Hole.base {hp:Nat->Option Ob}{e:Nat}{p p1:AV}{y:Nd}{keys:List Nat}{F:Nd->Nd} (h:Hole hp e p keys p1 y F):zBh p1=zBh p∨zBh p1∈keys:=by
 obtain⟨keys0,rest,w0,a1,a2,a3,a4,_⟩:=h;rcases a4 with rfl | a4
 ·exact .inl rfl
 ·exact .inr (a1.mem_iff.2 (List.mem_append_right _ a4))
theorem At.ofV {hp:Nat->Option Ob}{e:Nat}{p v:AV}{k c:Int}{t:List UInt8}{ks:List Nd}{keys:List Nat} (hc:zAG hp p=some (zA4 k t c v)) (h:VAt hp e v ks keys):∃ w,At hp e p (.mk k t c ks) keys [] w:=by
 rcases h with ⟨rfl,rfl,rfl⟩ | ⟨q,rows,keys',w,rfl,h1,h2,rfl,h3⟩
 ·exact⟨0,by simp only[At]; exact⟨_,hc,.inr (.inl (by simp))⟩⟩
 ·exact⟨w,by simp only[At]; exact⟨_,hc,.inr (.inr ⟨q,rows,keys',rfl,h1,h2,rfl,h3⟩)⟩⟩
def zR6 (n:Nat) (xs:List AV) (r:Ret):Prop:=∃ (a0:Nd) (a1:List Int) (a2:Nd) (y0:Nd) (y1:Int),zEI n a0 a1 a2=some (y0,y1)/\xs=[.agg ((Nd.enc a0).map .s),.s (.sl 1 (a1.map (irow .i64))),.agg ((Nd.enc a2).map .s)]/\r = .val (.tup [.agg ((Nd.enc y0).map .s),.s (.int .i64 y1)])
def zLX:zAp:=zAn fun xs r=>∃ n,zR6 n xs r
set_option maxHeartbeats 600000 in
theorem zRk:PSound Tryz.prog 148 zLX:=by
 have gok:∀ f s,look? f [(73,zCK),(178,zLL),(53,zLK)]=some s->PSound Tryz.prog f s:=zAl (by
  simp only[List.forall_mem_cons]
  exact⟨zCY,zPi,zHd,by simp⟩)
 refine zAo tokW Tryz.call148 Tryz.func148 rfl (fun xs r h=>by obtain⟨n,_,_,_,_,_,_,rfl,_⟩:=h; show 3<=_; decide) _ rfl ?_;rintro xs r w0 G0 ⟨f,⟨k,t,c,ks⟩,path,⟨rk,rt,rc,rks⟩,y0,y1,h,rfl,rfl⟩ _;rw[zEI]at h;obtain⟨b,hb,h⟩:=zAc h;refine zXw [6] [] rfl ?_;refine zAa ?_;refine zYc ?_;refine⟨_,⟨f,_,_,hb,rfl,rfl⟩,?_⟩
 show Tri ..;cases b with
 | false =>
  refine zAI rfl (fun _=>?_) (fun h=>by cases h)
  refine zYc ?_;refine zAd ?_;obtain⟨rfl,rfl⟩:=Prod.mk.inj (Option.some.inj h)
  unfold zCJ;exact⟨_,Le.refl _ _,rfl,rfl⟩
 | true =>
  refine zAI rfl (fun h=>by cases h) (fun _=>?_)
  refine zAe ?_;show Tri ..;rw[if_pos rfl]at h;obtain⟨n1,hn1,h⟩:=zAc h;obtain⟨hcnt,hn1⟩:=zAy hn1;obtain rfl:=Option.some.inj hn1;refine zXw [8] [] rfl ?_;refine⟨_,⟨k,c,t,ks,hcnt,rfl,fun v hp' n' keys h1 h2 h3 h4 h5=>?_⟩,fun _ _ _ h=>h⟩
  have hv1:v.one=true/\∀ m,n'<m->v.lt m=true:=by
   rcases h3 with ⟨_,rfl,_⟩ | ⟨q,_,_,_,rfl,_,_,hk,_⟩
   ·exact⟨rfl,fun _ _=>rfl⟩
   ·exact⟨rfl,fun m hm=>decide_eq_true (Nat.lt_trans (h5 q (by rw[hk]; exact List.mem_cons_self)).2 hm)⟩
  refine zQ9 (d:=16) ?_;refine zAf rfl rfl rfl rfl rfl rfl trivial ?_;refine zGR (sz:=4) (cs:=[.s (.int .i64 0),.s (.str []),.s (.int .i64 0),.nl 4]) (cs':=zA4 k t c v) (p:=.op n' 0) rfl rfl rfl rfl rfl (.inr ⟨n',rfl⟩) rfl (zEd (bt:=24) (by show(bif Nat.beq n' n' then _ else hp' n')=_; rw[Nat.beq_refl]; rfl)) rfl rfl rfl (by simp only[zA4,List.all_cons,List.all_nil,hv1.1]; rfl) (by have h0:v.lt (n'+1)=true:=hv1.2 _ (Nat.lt_succ_self _); show AV.ltAll (n'+1) (zA4 k t c v)=true; simp only[zA4,AV.ltAll,h0]; rfl) ?_;show Tri ..
  refine zIj [(1,.s (.sl 1 (path.map (irow .i64)))),(5,.s (.pt (Nd.enc (.mk rk rt rc rks)))),(6,.op 0 0),(8,.op n' 0)] (n'+1) ⟨rfl,rfl,rfl,rfl,trivial⟩ rfl fun H hH=>?_
  have g1:H n'=some (.box 24 (zA4 k t c v)):=(hH n').trans (by
   show putC (fun m=>bif Nat.beq m n' then some (Ob.box 24 [.s (.int .i64 0),.s (.str []),.s (.int .i64 0),.nl 4]) else hp' m) (.op n' 0) (zA4 k t c v) n'=_;rw[zF6 (bt:=24) (cs:=[.s (.int .i64 0),.s (.str []),.s (.int .i64 0),.nl 4]) (by simp only[Nat.beq_refl,cond_true])]
   simp only[Nat.beq_refl,cond_true])
  have g2:∀ m,m<n'->H m=hp' m:=fun m hm=>(hH m).trans (by
   show putC (fun m=>bif Nat.beq m n' then some (Ob.box 24 [.s (.int .i64 0),.s (.str []),.s (.int .i64 0),.nl 4]) else hp' m) (.op n' 0) (zA4 k t c v) m=_;rw[zBN (show m ≠ n' by omega),zEb (show m ≠ n' by omega)]; rfl)
  clear hH
  have g0:H 0=some (.box 24 [.s (.int .i64 0),.s (.str []),.s (.int .i64 0),.nl 4]):=(g2 0 h1).trans (h2 0 (Nat.lt_succ_self 0))
  obtain⟨w,hat⟩:=At.ofV (zEd g1) (h3.frame fun m hm=>g2 m (h5 m hm).2)
  have hnd:(zBh (.op n' 0)::keys).Nodup:=List.nodup_cons.2 ⟨fun hm=>Nat.lt_irrefl _ (h5 n' hm).2,h4⟩
  refine zYc ?_;refine⟨_,⟨.op n' 0,.mk k t c ks,path,keys,w,rfl,.inr ⟨n',rfl⟩,hat,hnd,fun hf=>?_,fun p1 y F hf hole hF=>?_⟩,fun _ _ _ h=>h⟩
  ·rw[hf]at h;refine zAa ?_;refine zYc ?_;refine zAI rfl (fun _=>?_) (fun h=>by cases h)
   obtain⟨rfl,rfl⟩:=Prod.mk.inj (Option.some.inj h)
   refine zAi (Le.forgetH [(6,.op 0 0)] H (n'+1) ⟨rfl,trivial⟩ (fun _=>rfl) rfl) ?_;refine zYc ?_;refine zAf rfl rfl rfl rfl rfl rfl trivial ?_;refine zGR (sz:=4) (cs:=[.s (.int .i64 0),.s (.str []),.s (.int .i64 0),.nl 4]) (cs':=[.s (.int .i64 0),.s (.str []),.s (.int .i64 0),.nl 4]) (p:=.op 0 0) rfl rfl rfl rfl rfl (.inr ⟨0,rfl⟩) rfl (zEd (bt:=24) g0) rfl rfl rfl rfl rfl ?_;refine zAf rfl rfl rfl rfl rfl rfl trivial ?_;refine zAd ?_;unfold zCJ
   refine⟨_,Le.refl _ _,(zIq (bt:=24) (cells:=[.s (.int .i64 0),.s (.str []),.s (.int .i64 0),.nl 4]) rfl ?_ rfl rfl rfl).trans rfl,rfl⟩
   show putC H (.op 0 0) _ 0=_;rw[zF6 (bt:=24) (cs:=[.s (.int .i64 0),.s (.str []),.s (.int .i64 0),.nl 4]) g0]; rfl
  ·rw[hf]at h;obtain⟨keys1,w1,hat1,hl1,hnd1⟩:=hole.here hnd;refine zQ9 (d:=19) ?_;refine zAf rfl rfl rfl rfl rfl rfl trivial ?_;refine zAf rfl rfl rfl rfl rfl rfl trivial ?_;refine zAf rfl rfl rfl rfl rfl rfl trivial ?_;refine zAf rfl rfl rfl rfl rfl (zDe hl1 (.inl rfl) rfl rfl) trivial ?_;refine zAf rfl rfl rfl rfl rfl rfl trivial ?_;refine zAi (Le.forgetH [(5,.s (.pt (Nd.enc (.mk rk rt rc rks)))),(6,.op 0 0),(8,.op n' 0),(9,p1),(10,.s (.bool true))] H (n'+1) ⟨rfl,rfl,rfl,rfl,rfl,trivial⟩ (fun _=>rfl) rfl) ?_;refine zAa ?_;refine zYc ?_;show Tri ..
   refine zAI rfl (fun h=>by cases h) (fun _=>?_)
   refine zAe ?_;show Tri ..;obtain⟨b2,hb2,h⟩:=zAc h;refine zAa ?_;refine zYc ?_;refine⟨_,⟨f,_,_,hb2,rfl,rfl⟩,?_⟩
   show Tri ..;cases b2 with
   | false =>
    refine zAI rfl (fun _=>?_) (fun h=>by cases h)
    obtain⟨rfl,rfl⟩:=Prod.mk.inj (Option.some.inj h)
    refine zAi (Le.forgetH [(6,.op 0 0)] H (n'+1) ⟨rfl,trivial⟩ (fun _=>rfl) rfl) ?_;refine zYc ?_;refine zAf rfl rfl rfl rfl rfl rfl trivial ?_;refine zGR (sz:=4) (cs:=[.s (.int .i64 0),.s (.str []),.s (.int .i64 0),.nl 4]) (cs':=[.s (.int .i64 0),.s (.str []),.s (.int .i64 0),.nl 4]) (p:=.op 0 0) rfl rfl rfl rfl rfl (.inr ⟨0,rfl⟩) rfl (zEd (bt:=24) g0) rfl rfl rfl rfl rfl ?_;refine zAf rfl rfl rfl rfl rfl rfl trivial ?_;refine zAd ?_;unfold zCJ
    refine⟨_,Le.refl _ _,(zIq (bt:=24) (cells:=[.s (.int .i64 0),.s (.str []),.s (.int .i64 0),.nl 4]) rfl ?_ rfl rfl rfl).trans rfl,rfl⟩
    show putC H (.op 0 0) _ 0=_;rw[zF6 (bt:=24) (cs:=[.s (.int .i64 0),.s (.str []),.s (.int .i64 0),.nl 4]) g0]; rfl
   | true =>
    refine zAI rfl (fun h=>by cases h) (fun _=>?_)
    refine zAe ?_;show Tri ..;rw[if_pos rfl]at h;obtain⟨n2,hn2,h⟩:=zAc h;obtain⟨hcnt2,hn2⟩:=zAy hn2;obtain rfl:=Option.some.inj hn2;refine zAi (Le.forgetH [(5,.s (.pt (Nd.enc (.mk rk rt rc rks)))),(6,.op 0 0),(8,.op n' 0),(9,p1)] H (n'+1) ⟨rfl,rfl,rfl,rfl,trivial⟩ (fun _=>rfl) rfl) ?_;refine zYc ?_;refine zAf rfl rfl rfl rfl rfl (zDe hl1 (.inr rfl) rfl rfl) trivial ?_;refine zAf rfl rfl rfl rfl rfl rfl trivial ?_;refine⟨_,⟨rk,rc,rt,rks,hcnt2,rfl,fun v2 hp2 n2 keys2 q1 q2 q3 q4 q5=>?_⟩,fun _ _ _ h=>h⟩
    refine zQ9 (d:=31) ?_;refine zAf rfl rfl rfl rfl rfl (zEQ hl1 rfl rfl) trivial ?_;have hb1:zBh p1<n'+1:=by
     rcases hole.base with h | h
     ·have:zBh p1=n':=h
      omega
     ·have:=(h5 _ h).2; omega
    obtain⟨yk,yt,yc,yks⟩:=y;obtain⟨vy,hcy,_⟩:=hat1.full;have hcy2:zAG hp2 p1=some (zA4 yk yt yc vy):=(zCf hl1 (q2 _ hb1)).trans hcy;have hv2:v2.one=true/\v2.lt n2=true:=by
     rcases q3 with ⟨_,rfl,_⟩ | ⟨q,_,_,_,rfl,_,_,hk,_⟩
     ·exact⟨rfl,rfl⟩
     ·exact⟨rfl,decide_eq_true (q5 q (by rw[hk]; exact List.mem_cons_self)).2⟩
    refine zGR (sz:=4) (cs':=zA4 rk rt rc v2) rfl rfl rfl rfl rfl hl1 rfl hcy2 rfl rfl rfl (by simp only[zA4,List.all_cons,List.all_nil,hv2.1]; rfl) (by show AV.ltAll n2 (zA4 rk rt rc v2)=true; simp only[zA4,AV.ltAll,hv2.2]; rfl) ?_;show Tri ..;refine zIj [(6,.op 0 0),(8,.op n' 0)] n2 ⟨rfl,rfl,trivial⟩ rfl fun H2 hH2=>?_
    have hH2:∀ m,H2 m=putC hp2 p1 (zA4 rk rt rc v2) m:=hH2
    have hcp:zAG H2 p1=some (zA4 rk rt rc v2):=(zCf hl1 (hH2 _)).trans (zJa hl1 hcy2)
    have hb2k:∀ m∈keys2,H2 m=hp2 m:=fun m hm=>(hH2 m).trans (zBN (by have hm1:n'+1<=m:=(q5 m hm).1; omega))
    obtain⟨w3,hat3⟩:=At.ofV hcp (q3.frame hb2k)
    obtain⟨keys0,rest,w0',a1,a2,a3,a4,a5⟩:=hole;have hrest:∀ m,m=n'∨m∈rest->m<n'+1:=fun m hm=>by
     rcases hm with rfl | hm
     ·omega
     ·have:=(h5 m (a1.mem_iff.2 (List.mem_append_right _ hm))).2; omega
    obtain⟨keys3,w4,hperm,hfin⟩:=a5 H2 (.mk rk rt rc rks) keys2 w3 (Sim.put (c:=zA4 rk rt rc v2) hl1 hcy fun m hm=>(hH2 m).trans (zIp hl1 (q2 m (hrest m hm)) (q2 _ hb1))) hat3;have hput:F (.mk rk rt rc rks)=putL (.mk k t c ks) path (.mk rk rt rc rks):=(hF _).symm;rw[hput]at hfin;have hn0:∀ m,m=n'∨m∈keys3->m ≠ 0:=fun m hm=>by
     have e1:1<=n':=h1;rcases hm with rfl | hm
     ·omega
     ·rcases List.mem_append.1 (hperm.mem_iff.1 hm) with hm | hm
      ·have e2:1<=m:=(h5 m (a1.mem_iff.2 (List.mem_append_right _ hm))).1
       omega
      ·have e2:n'+1<=m:=(q5 m hm).1
       omega
    have hatD:At (fun m=>bif Nat.beq m 0 then none else H2 m) 24 (.op n' 0) (putL (.mk k t c ks) path (.mk rk rt rc rks)) keys3 [] w4:=hfin.frame (.inr ⟨n',rfl⟩) fun m hm=>by rw[zEb (hn0 m hm)]; rfl
    obtain⟨cs,hcs,hrd⟩:=hatD.rd;rcases zCO (sz:=4) (.inr ⟨n',rfl⟩) hcs with ⟨q,i,e,rows,h1,_⟩ | ⟨q,bt,h1,hbt⟩
    ·cases h1
    cases h1;refine zAi (Le.givePart [(6,.op 0 0),(8,.s (.pt (Nd.enc (putL (.mk k t c ks) path (.mk rk rt rc rks)))))] (fun m=>bif Nat.beq m 0 then none else H2 m) (fun m=>bif Nat.beq m 0 then H2 m else none) (fun m ob hm=>by
     cases e:Nat.beq m 0 with
     | true=>rw[e]at hm; cases hm
     | false=>rw[e]at hm; exact hm) (fun m ob hm=>by
     cases e:Nat.beq m 0 with
     | true=>rw[e]at hm; exact hm
     | false=>rw[e]at hm; cases hm) (fun m ob ob' h1 h2=>by
     cases e:Nat.beq m 0 with
     | true=>rw[e]at h1; cases h1
     | false=>rw[e]at h2; cases h2) ⟨.inl rfl,.inr (Rd.box (off:=0) hbt hrd.1 hrd.2),trivial⟩) ?_
    have hb0:0 ≠ zBh p1:=by
     rcases a4 with rfl | a4
     ·exact Ne.symm (hn0 n' (.inl rfl))
     ·exact Ne.symm (hn0 _ (.inr (hperm.mem_iff.2 (List.mem_append_left _ a4))))
    have g3:H2 0=some (.box 24 [.s (.int .i64 0),.s (.str []),.s (.int .i64 0),.nl 4]):=(hH2 0).trans ((zBN hb0).trans ((q2 0 (Nat.succ_pos n')).trans g0))
    clear hrd hcs hatD hfin hput
    generalize putL (.mk k t c ks) path (.mk rk rt rc rks)=T1 at *;obtain⟨k9,t9,c9,ks9⟩:=T1;obtain⟨b3,hb3,h⟩:=zAc h;refine zIj [(6,.op 0 0),(8,.s (.pt (Nd.enc (.mk k9 t9 c9 ks9))))] n2 ⟨rfl,rfl,trivial⟩ rfl fun H3 hH3=>?_
    have g4:H3 0=some (.box 24 [.s (.int .i64 0),.s (.str []),.s (.int .i64 0),.nl 4]):=(hH3 0).trans g3;refine zAa ?_;refine zYc ?_;refine⟨_,⟨f,_,_,hb3,rfl,rfl⟩,?_⟩
    show Tri ..;cases b3 with
    | false =>
     refine zAI rfl (fun _=>?_) (fun h=>by cases h)
     obtain⟨rfl,rfl⟩:=Prod.mk.inj (Option.some.inj h)
     refine zAi (Le.forgetH [(6,.op 0 0)] H3 n2 ⟨rfl,trivial⟩ (fun _=>rfl) rfl) ?_;refine zYc ?_;refine zAf rfl rfl rfl rfl rfl rfl trivial ?_;refine zGR (sz:=4) (cs:=[.s (.int .i64 0),.s (.str []),.s (.int .i64 0),.nl 4]) (cs':=[.s (.int .i64 0),.s (.str []),.s (.int .i64 0),.nl 4]) (p:=.op 0 0) rfl rfl rfl rfl rfl (.inr ⟨0,rfl⟩) rfl (zEd (bt:=24) g4) rfl rfl rfl rfl rfl ?_;refine zAf rfl rfl rfl rfl rfl rfl trivial ?_;refine zAd ?_;unfold zCJ
     refine⟨_,Le.refl _ _,(zIq (bt:=24) (cells:=[.s (.int .i64 0),.s (.str []),.s (.int .i64 0),.nl 4]) rfl ?_ rfl rfl rfl).trans rfl,rfl⟩
     show putC H3 (.op 0 0) _ 0=_;rw[zF6 (bt:=24) (cs:=[.s (.int .i64 0),.s (.str []),.s (.int .i64 0),.nl 4]) g4]; rfl
    | true =>
     refine zAI rfl (fun h=>by cases h) (fun _=>?_)
     obtain⟨rfl,rfl⟩:=Prod.mk.inj (Option.some.inj h)
     refine zAe ?_;refine zAi (Le.forgetH [(6,.op 0 0),(8,.s (.pt (Nd.enc (.mk k9 t9 c9 ks9))))] H3 n2 ⟨rfl,rfl,trivial⟩ (fun _=>rfl) rfl) ?_;refine zYc ?_;refine zAf rfl rfl rfl rfl rfl rfl trivial ?_;refine zGR (sz:=4) (cs:=[.s (.int .i64 0),.s (.str []),.s (.int .i64 0),.nl 4]) (cs':=zA4 k9 t9 c9 (.s (.sl 4 (Nd.encs ks9)))) (p:=.op 0 0) rfl rfl rfl rfl rfl (.inr ⟨0,rfl⟩) rfl (zEd (bt:=24) g4) rfl rfl rfl rfl rfl ?_;refine zAf rfl rfl rfl rfl rfl rfl trivial ?_;refine zAd ?_;unfold zCJ
     refine⟨_,Le.refl _ _,(zIq (bt:=24) (cells:=zA4 k9 t9 c9 (.s (.sl 4 (Nd.encs ks9)))) rfl ?_ rfl rfl rfl).trans rfl,rfl⟩
     show putC H3 (.op 0 0) _ 0=_;rw[zF6 (bt:=24) (cs:=[.s (.int .i64 0),.s (.str []),.s (.int .i64 0),.nl 4]) g4]; rfl
end Go.Proofs.YtgplhldfbkmmgaaGreat
namespace Go.Abs
theorem PSound.giveTop {P:Program}{f e sz:Nat}{R:List AV->(Nat->Option Ob)->Nat->(AV->(Nat->Option Ob)->Nat->Prop)->Prop}{S:List AV->List S->List (List S)->Prop} (h:PSound P f (zQ4 R))
  (hS:∀ xs cs rs,S xs cs rs->R xs (fun _=>none) 0 fun x hp n=>∃ q rows hpD,x = .agg (cs.map .s++[.orow q])/\hp q=some (.arow e sz rows)/\rows.length=rs.length/\(∀ r∈rs,r.length=sz)/\(∀ k ob,hpD k=some ob->hp k=some ob/\k ≠ q) /\
   ∀ (i:Nat) x s,rows.flatten[i]? = some x->rs.flatten[i]? = some s->Rd hpD x s) :
  PSound P f (zEO fun xs os x os'=>∃ cs rs,os=[]/\x = .agg (cs.map .s++[.orow 0])/\os'=[some (.row e sz rs)]/\S xs cs rs):=by
 refine PSound.ofOwn h.1 fun G w β xs vs os x os' hlt hgl hv hxl hob ⟨cs,rs,ho,hx,ho',hs⟩=>?_
 subst ho; subst hx; subst ho'
 refine(h.2.2.2 R rfl G w β xs vs (fun _=>none) 0 _ hlt hgl hv hxl ⟨fun k ob hk=>(by cases hk),fun k ob hk=>(by cases hk),fun k k' ob ob' hk=>(by cases hk)⟩ (hS xs cs rs hs)).mono ?_;rintro e' w' ⟨v,G',β',x,hp',n',rfl,⟨q,rows,hpD,rfl,hq,hlen,hsz,hD,hrd⟩,hn,hfr,hsub,hnew,hlt',hx,hxl,hob,hst⟩
 let c:Cx:=zE2 P w β (fun _=>none) 0 G 0
 have hk:Keep G G' w w':=⟨hsub,fun b hb=>hfr.old b (hlt b hb) (by rintro⟨k,ob,h,_⟩; cases h)⟩
 have hc:Conc c G' β' ⟨fun _=>.junk,hpD,n'⟩ { tmps:=#[],defers:=[] } w':={
  defers:=rfl
  size:=rfl
  env:=fun t=>by simp only[AVal]
  envlt:=fun t=>rfl
  hp:=fun k ob hk=>hob.obs k ob (hD k ob hk).1
  hplt:=fun k ob hk=>hob.lts k ob (hD k ob hk).1
  inj:=fun k k' ob ob' hk hk'=>hob.inj k k' ob ob' (hD k ob hk).1 (hD k' ob' hk').1
  lt:=hlt'
  sub:=hsub
  new:=hnew
  fr:=hfr
  stay:=⟨hn,hst⟩
  glob:=hgl.keep hk }
 have hmine:∀ b,c.mine b->w.heap.size<=b:=fun b hb=>by
  rcases hb with ⟨k,ob,h,_⟩ | h
  ·cases h
  ·exact h
 have hk':Keep G' (allG G' β' hpD) w' w':=⟨fun _ h=>.inl h,fun _ _=>rfl⟩
 refine⟨v,allG G' β' hpD,fun _=>β' q,rfl,⟨hfr.os,hfr.tape,hfr.output,hfr.size,fun b hb _=>hfr.old b hb (by rintro⟨k,ob,h,_⟩; cases h)⟩,fun b hb=>.inl (hsub b hb),fun b hb=>?_,fun b hb=>?_,?_,?_,Nat.zero_le _,⟨fun i ob hi=>?_,fun i j ob ob' hi hj hne=>?_⟩,fun i ob hi=>absurd hi (Nat.not_lt_zero _)⟩
 ·rcases hb with hb | ⟨k,ob,h1,h2⟩
  ·exact(hnew b hb).imp id fun h=>.inr (hmine b h)
  ·exact .inr (.inr (hmine b (row_block (hc.hp k ob h1) b h2).2))
 ·rcases hb with hb | ⟨k,ob,h1,h2⟩
  ·exact hlt' b hb
  ·exact hc.blk_lt h1 h2
 ·simp only[AVal]at hx ⊢;obtain⟨us,rfl,hus⟩:=hx;refine⟨us,rfl,AVals.mk (by rw[hus.length]; simp) fun i y u hy hu=>?_⟩
  rw[List.getElem?_append]at hy
  by_cases hi:i<(cs.map AV.s).length
  ·rw[if_pos hi]at hy;obtain⟨u',hu',hr⟩:=hus.get (i:=i) (x:=y) (by rw[List.getElem?_append,if_pos hi]; exact hy)
   rw[hu]at hu'; cases hu'
   rw[List.getElem?_map]at hy;obtain⟨s,_,rfl⟩:=Option.map_eq_some_iff.1 hy;simp only[AVal]at hr ⊢;exact hr.keep hk'
  ·rw[if_neg hi]at hy;have h0:i - (cs.map AV.s).length=0 :=(by have:=(List.getElem?_eq_some_iff.1 hy).1; simpa using this);rw[h0]at hy;cases hy;obtain⟨u',hu',hr⟩:=hus.get (i:=i) (x:=.orow q) (by rw[List.getElem?_append,if_neg hi,h0]; rfl)
   rw[hu]at hu'; cases hu'
   simp only[AVal]at hr ⊢;exact hr
 ·simp only[AV.lt]
  refine zEo fun i y hy=>?_
  rw[List.getElem?_append]at hy;split at hy
  ·rw[List.getElem?_map]at hy;obtain⟨s,_,rfl⟩:=Option.map_eq_some_iff.1 hy
   rfl
  ·rename_i hi
   have h0:i - (cs.map AV.s).length=0 :=(by have:=(List.getElem?_eq_some_iff.1 hy).1; simpa using this);rw[h0]at hy;cases hy
   rfl
 ·match i,hi with
  | 0,hi =>
   cases hi;refine⟨?_,rfl⟩
   obtain⟨hl,hz,ho⟩:=hob.obs q _ hq;refine⟨hsz,hz,?_⟩
   rcases ho with ⟨h1,rfl⟩ | ⟨b,cap,cur,h1,h2,h3,h4,h5,h6,h7⟩
   ·exact .inl ⟨h1,List.length_eq_zero_iff.1 (by simpa using hlen.symm)⟩
   ·refine .inr ⟨b,cap,cur,by rw[← hlen]; exact h1,by rw[← hlen]; exact h2,h3,h4,?_,.inr (hmine b h6),fun i s hi=>?_⟩
    ·rintro(hb | ⟨k,ob,g1,g2⟩)
     ·exact h5 hb
     ·exact hob.inj k q ob _ (hD k ob g1).1 hq (hD k ob g1).2 b g2 (by rw[h1]; rfl)
    ·have hfl:=zAK hl;have hfs:=zAK hsz;have hil:i<rows.flatten.length :=(by rw[hfl,hlen,← hfs]; exact(List.getElem?_eq_some_iff.1 hi).1);obtain⟨u,hu,hr',_⟩:=h7 i _ (List.getElem?_eq_getElem hil)
     exact⟨u,hu,(hrd i _ s (List.getElem?_eq_getElem hil) hi).rep hc hr'⟩
  | i+1,hi=>simp at hi
 ·match i,j,hi,hj with
  | 0,0,_,_=>exact absurd rfl hne
  | 0,j+1,_,hj=>simp at hj
  | i+1,_,hi,_=>simp at hi
end Go.Abs
namespace Go.Proofs.YtgplhldfbkmmgaaGreat
open Go.Abs
theorem VAt.rd {hp:Nat->Option Ob}{e:Nat}{v:AV}{ks:List Nd}{keys:List Nat} (h:VAt hp e v ks keys):Rd hp v (.sl 4 (Nd.encs ks)):=by
 rcases h with ⟨rfl,rfl,_⟩ | ⟨q,rows,keys',w,rfl,hq,hlen,rfl,h⟩
 ·exact .s _
 ·exact Rd.rows hq hlen fun j x hj=>(by have:=LAt.rd h j x hj; rwa [Nat.zero_add]at this)
def zTP (xs:List AV) (cs:List S) (rs:List (List S)):Prop:=∃ (a0:Nd) (k c:Int) (t:List UInt8) (ks:List Nd),zCF a0=some (.mk k t c ks)/\xs=[.agg ((Nd.enc a0).map .s)]/\cs=[.int .i64 k,.str t,.int .i64 c]/\rs=Nd.encs ks
theorem zMI:PSound Tryz.prog 53 (zEO fun xs os x os'=>∃ cs rs,os=[]/\x = .agg (cs.map .s++[.orow 0])/\os'=[some (.row 24 4 rs)]/\zTP xs cs rs):=by
 refine PSound.giveTop zHd fun xs cs rs ⟨⟨k0,t0,c0,ks0⟩,k,c,t,ks,hm,hx,hcs,hrs⟩=>?_
 subst hx; subst hcs; subst hrs
 obtain⟨⟨hq,hne⟩,hm⟩:=zAy hm;cases hm;refine⟨k0,c0,t0,ks0,hq,rfl,fun v hp' n' keys _ _ hv hnd _=>?_⟩
 rcases hv with ⟨rfl,_⟩ | ⟨q,rows,keys',w,rfl,hq,hlen,rfl,hl⟩
 ·exact absurd rfl hne
 refine⟨q,rows,fun k=>if k∈keys' then hp' k else none,rfl,hq,by rw[Nd.encs_eq,List.length_map]; exact hlen,fun r hr=>?_,fun k ob hk=>?_,zSV fun j r s hr hs=>?_⟩
 ·rw[Nd.encs_eq]at hr;obtain⟨x,_,rfl⟩:=List.mem_map.1 hr;cases x; rfl
 ·dsimp only at hk;split at hk
  ·rename_i hm
   exact⟨hk,fun e=>(List.nodup_cons.1 hnd).1 (by rw[← e]; exact hm)⟩
  ·cases hk
 ·rw[Nd.encs_eq,List.getElem?_map]at hs;cases hx:ks0[j]? with
  | none=>rw[hx]at hs; cases hs
  | some x =>
   rw[hx]at hs; cases hs
   obtain⟨keys0,rest,w0,hperm,hat,_⟩:=LAt.hole (i:=0) hl hnd hx;rw[Nat.zero_add]at hat;obtain⟨k2,t2,c2,ks2⟩:=x;obtain⟨v,hc,hv⟩:=hat.full;rw[zFz hq,hr]at hc;cases hc;exact RdC.node (VAt.rd (hv.frame fun k hk=>by
    show(if k∈keys' then hp' k else none)=hp' k;rw[if_pos (hperm.mem_iff.2 (List.mem_append_left _ hk))]))
def zLN (xs:List AV) (os:List Ob) (x:AV) (os':List (Option Ob)):Prop:=∃ (a0:Nd) (y0:Nd),zCF a0=some y0/\xs=[.agg ((Nd.enc a0).map .s)]/\os=[]/\x = .agg (match y0 with | .mk k t c _=>[.s (.int .i64 k),.s (.str t),.s (.int .i64 c),.orow 0])/\os'=[some (.row 24 4 (match y0 with | .mk _ _ _ ks=>Nd.encs ks))]
def zFJ:zAp:=zEO (fun xs os x os'=>zLN xs os x os')
theorem zHs:PSound Tryz.prog 53 zFJ :=
 PSound.ofOwn zMI.1 fun G w β xs vs os x os' h1 h2 h3 h4 h5 ⟨a0,⟨k,t,c,ks⟩,hm,hx,ho,hr,ho'⟩ =>
  zMI.2.2.1 _ rfl G w β xs vs os x os' h1 h2 h3 h4 h5 ⟨[.int .i64 k,.str t,.int .i64 c],Nd.encs ks,ho,hr,ho',a0,k,c,t,ks,hm,hx,rfl,rfl⟩
end Go.Proofs.YtgplhldfbkmmgaaGreat
namespace Go.Proofs
open Go.RowKit Go.Lib
theorem Tryz.Grow_nil_sNode (w:World) :
  Calls Tryz.prog 206 #[.slice none 0 0,.int .i64 0] w fun e w'=>e = .returned (.slice none 0 0)/\w'=w:=by
 have h2:wrap64 0=0:=by unfold wrap64; omega
 go_enter Tryz.func206,Tryz.ntmps206
 go_wp2
 go_ret
 exact⟨rfl,rfl⟩
set_option maxHeartbeats 4000000 in
theorem Tryz.Grow_new_sNode (i0:TypeInfo) (z:Value) (hi0:Tryz.prog.info? 24=some i0) (hz0:i0.zero=some z) (hs0:0<i0.size)
  (n:Nat) (w:World) (hroom:0<n) (hbig:n * i0.bytes<=140737488355328) (h63:n<=4611686018427387904) :
  Calls Tryz.prog 206 #[.slice none 0 0,.int .i64 n] w fun e w' =>
   e = .returned (.slice (some ⟨w.heap.size,0,none⟩) 0 (grownCap w n 0 24)) /\
   w'=w.drew.alloc (.cells (#[]++Builtin.zeroCells z.cells n++Builtin.zeroCells z.cells (grownCap w n 0 24 - n)) 24):=by
 have h1:¬ ((n:Int)<0) :=(by omega);have h2:wrap64 0=0 :=(by unfold wrap64; omega);have h3:wrap64 (n:Int)=(n:Int) :=(by unfold wrap64; omega);have h4:(n:Int) > 0 :=(by omega);have hold:(Builtin.firstCells i0.size 0 (.slice none 0 0)).run Tryz.prog w.drew = .ok ([]:List Value).toArray w.drew:=run_firstCells_none w.drew i0.size 0 0 0;have hrz:∀ ty,(Builtin.append_ #[22,3] ty #[.slice none 0 0,.int .i64 (n:Int)]).run Tryz.prog w =
   .ok (.slice (some ⟨w.heap.size,0,none⟩) n (grownCap w n 0 24)) (w.drew.alloc (.cells (#[]++Builtin.zeroCells z.cells n++Builtin.zeroCells z.cells (grownCap w n 0 24 - n)) 24)):=fun ty=>by
  have h:=Lib.run_append_grow_zeros w 22 3 ty 24 i0 z .i64 .i64 Tryz.underlying22 Tryz.underlying3 hi0 hz0 none 0 0 [] hold n (by omega) hs0 (by omega) (by omega) (by omega)
   (by rw[Nat.zero_add]; exact growslice_fits hroom hbig)
  rw[Nat.zero_add]at h;exact h
 have hGn:n<=grownCap w n 0 24:=grownCap_ge w _ _ _;obtain⟨G,hG⟩:∃ G,G=grownCap w n 0 24:=⟨_,rfl⟩
 rw[← hG]at hrz hGn ⊢;have hG63:G<=9223372036854775807:=by
  have:=grownCap_le_maxLen w n 0 24 (by unfold maxLen; omega)
  rw[← hG]at this;unfold maxLen at this
  omega
 clear hold hG
 go_enter Tryz.func206,Tryz.ntmps206
 go_wp2_with (at_builtin; refine Lib.wpList_append_run _ rfl _ _ _ _ rfl _ _ rfl rfl _ _ (hrz _) ?_)
 all_goals (go_ret; exact⟨rfl,rfl⟩)
end Go.Proofs
namespace Go.Proofs.YtgplhldfbkmmgaaGreat
open Go.Abs
theorem zXB (z:Array Value) (n:Nat):(Builtin.zeroCells z n).size=n * z.size:=by simp[Builtin.zeroCells]
def zI3 (xs:List AV) (r:Ret):Prop:=∃ (a0:Int) (y0:List Nd),zD6 a0=some y0/\xs=[.nl 4,.s (.int .i64 a0)]/\r = .row 24 4 (Nd.encs y0)
def zFO:zAp:=zX8 fun xs r=>zI3 xs r
theorem zIC:PSound Tryz.prog 206 zFO :=
 ⟨Tryz.call206,fun G w xs vs r hl hg _ hv ⟨a0,y0,hm,hx,hr⟩=>by
  subst hx; subst hr
  obtain⟨⟨q1,q2⟩,hm⟩:=zAy hm;obtain rfl:=Option.some.inj hm;obtain⟨n,rfl⟩:=Int.eq_ofNat_of_zero_le q1;simp only[AVals,AVal,Rep]at hv;obtain⟨_,_,rfl,rfl,_,_,rfl,rfl,rfl⟩:=hv
  by_cases h0:n=0
  ·subst h0;exact(Tryz.Grow_nil_sNode w).mono fun e w' ⟨h1,h2⟩=>by
    subst h2;exact⟨_,G,h1,Ext.refl hl,fun r hr=>(by cases hr),by decide,.inl ⟨rfl,rfl⟩⟩
  obtain⟨d,info,z,b1,b2,b3,b4,b5,b6,b7,b8,b9,b10⟩:=tokW 24 _ rfl;have i1:info.size=4:=b4;have i2:info.bytes=56:=b5;have hzs:z.cells.size=4:=zKj b7 b8 b9;refine(Tryz.Grow_new_sNode info z b3 b6 (by omega) n w (by omega) (by rw[i2]; omega) (by omega)).mono fun e w' ⟨h1,h2⟩=>?_
  have hge:n<=grownCap w n 0 24 :=(by unfold grownCap Question.cut; simp);generalize grownCap w n 0 24=g at *;refine⟨_,G,h1,?_,fun r hr=>(by cases hr),by decide,.inr ⟨w.heap.size,g,#[]++Builtin.zeroCells z.cells n++Builtin.zeroCells z.cells (g - n),rfl,Nat.zero_le _,?_,by rw[h2]; exact RowBlk.laid (zDE w.drew _),fun h=>Nat.lt_irrefl _ (hl _ h),Nat.le_refl _,fun i s hi=>by cases hi⟩⟩
  ·rw[h2]
   exact(Ext.drew hl).trans (Ext.own (w:=w.drew) hl _)
  ·simp only[Array.size_append,Array.size_empty,zXB,hzs]
   omega,
 fun R hR=>(by cases hR),fun R hR=>(by cases hR)⟩
def zIx (xs:List AV) (r:Ret):Prop:=∃ (a0:List Nd) (y0:List Nd),zDT a0=some y0/\xs=[.s (.sl 4 (Nd.encs a0))]/\r = .val (.s (.sl 4 (Nd.encs y0)))
def zFo:zAp:=zAn fun xs r=>zIx xs r
theorem zH8:PSound Tryz.prog 199 zFo:=by
 have gok:=@gok0 Tryz.prog;refine zAo tokW Tryz.call199 Tryz.func199 rfl (fun xs r h=>by obtain⟨_,_,_,rfl,_⟩:=h; show 1<=_; decide) _ rfl ?_;rintro xs r w0 G0 ⟨l,y,h,rfl,rfl⟩ _;obtain⟨hq,h⟩:=zAy h;obtain rfl:=Option.some.inj h;have hlen:(Nd.encs l).length=l.length:=rlen Nd.encs_eq l;refine zYc ?_;refine zAa ?_;refine zYc ?_;intro b hb;show Tri ..;cases b with
 | true =>
  have hl:=hb rfl;refine zAI rfl (fun _=>?_) (fun h=>by cases h)
  refine zYc ?_;refine zAd ?_;unfold zCJ;exact⟨_,Le.refl _ _,congrArg (fun z=>some (AV.s (.sl 4 z))) hl.symm,rfl⟩
 | false =>
  refine zAI rfl (fun h=>by cases h) (fun _=>?_)
  refine zAe ?_;refine zXw [5,7] [] rfl ?_;refine And.intro (show(([]:List (List S)).length+(Nd.encs l).length) * 56<=140737488355328/\([]:List (List S)).length+(Nd.encs l).length<=9223372036854775807 from by rw[hlen]; simp only[List.length_nil]; omega) ?_;refine zAd ?_;unfold zCJ;exact⟨_,Le.giveRow 1 (e:=24) (sz:=4) (rows:=Nd.encs l) rfl,rfl,rfl⟩
def zAF (p:List Nd):List S:=[.sl 4 (Nd.encs p)]
def zHD (n:Nat) (xs:List AV) (r:Ret):Prop:=∃ (a0:List (List Nd)) (y0:List Nd),zBJ n a0=some y0/\xs=[.s (.sl 1 ((List.map zAF) a0))]/\r = .row 24 4 (Nd.encs y0)
def zEZ:zAp:=zAn fun xs r=>∃ n,zHD n xs r
theorem zXU {α:Type}{a b:α} (h:a=b:=by simp[List.map_append,List.map_take,List.map_drop,irow,brow,zEm,List.map_cons,List.map_nil,zDV,Nd.encs_eq,Nd.enc,CV.encs_eq,CV.enc,zBi,zAJ,zBL,zAF]):a=b :=
 h
theorem zHy:PSound Tryz.prog 202 zEZ:=by
 have gok:∀ f s,look? f [(206,zFO)]=some s->PSound Tryz.prog f s:=zAl (by
  simp only[List.forall_mem_cons]
  exact⟨zIC,by simp⟩)
 refine zAo tokW Tryz.call202 Tryz.func202 rfl (fun xs r h=>by obtain⟨n,_,_,_,rfl,_⟩:=h; show 1<=36; decide) 36 rfl ?_;rintro xs r w0 G0 ⟨n,slices1,y0,h,rfl,rfl⟩ _;rw[zBJ]at h;refine zXw [2] [] rfl ?_;refine zAi (Le.rnm [] [(0,.s (.sl 1 ((List.map zAF) slices1)))] [] 0 ⟨rfl,trivial⟩ trivial) ?_;refine zYc ?_;refine zAa ?_;refine zXw [] [10] rfl ?_;intro n2 hn2;obtain rfl:(slices1.length:Int)=n2:=(hn2.trans (congrArg (fun m:Nat=>(m:Int)) (rlen (fun _=>rfl) slices1))).symm;show Tri ..
 obtain⟨size5,hl,h⟩:=zAc h;refine zAk ⟨ofL [(0,.s (.sl 1 ((List.map zAF) slices1))),(3,.s (.int .i64 size5))],fun _=>none,0⟩ ?_ (fun σ' hle=>?_)
 ·refine zAj (zAt (X:=Nat×Int×Int) (fun y=>match y with | (k,x3,size4)=>⟨ofL [(0,.s (.sl 1 ((List.map zAF) slices1))),(3,.s (.int .i64 size4)),(9,.s (.sl 1 ((List.map zAF) slices1))),(10,.s (.int .i64 (slices1.length:Int))),(11,.s (.int .i64 x3))],fun _=>none,0⟩) (fun y=>zAL slices1 y.1 y.2.1 y.2.2=some size5) (fun y=>y.1) (n,0,0) hl ?_ ?_)
  ·exact(Le.forget _ ⟨rfl,rfl,rfl,rfl,rfl,trivial⟩)
  ·rintro⟨k,x3,size4⟩ h;cases k with
   | zero=>cases h
   | succ k =>
    replace h:zAL slices1 (k+1) x3 size4=some size5:=h;rw[zAL]at h;refine zYc ?_;refine zAa ?_;refine zAg rfl h (fun hb h=>?_) (fun hb h=>?_)
    ·refine zAe ?_;refine zAa ?_;refine zAj ?_;refine zXw [] [13] rfl ?_;obtain⟨e6,he6,h⟩:=zAc h;refine And.intro (zAr (fun _=>rfl) he6).1 ?_;intro r7 hr7;obtain rfl:[.sl 4 (Nd.encs e6)]=r7:=(hr7.trans (zAr (fun _=>rfl) he6).2.1).symm;refine zXw [] [17] rfl ?_;intro n8 hn8;obtain rfl:(e6.length:Int)=n8:=(hn8.trans (congrArg (fun m:Nat=>(m:Int)) (rlen Nd.encs_eq e6))).symm;refine zYc ?_;refine zAg rfl h (fun hb h=>?_) (fun hb h=>?_)
     ·cases h
     ·refine zAe ?_;refine zYb ?_;refine⟨(k,IntKind.i64.wrap (x3+1),IntKind.i64.wrap (size4+(e6.length:Int))),h,(Le.forget _ ⟨rfl,rfl,rfl,rfl,rfl,trivial⟩),Nat.lt_succ_self k⟩
    ·refine zAx ?_;cases h;exact(Le.forget _ ⟨rfl,rfl,trivial⟩)
 ·refine zAi hle ?_;refine zXw [24] [] rfl ?_;obtain⟨y9,hy9,h⟩:=zAc h;refine⟨_,⟨_,_,hy9,rfl,rfl⟩,?_⟩
  refine zAa ?_;refine zXw [] [26] rfl ?_;intro n10 hn10;obtain rfl:(slices1.length:Int)=n10:=(hn10.trans (congrArg (fun m:Nat=>(m:Int)) (rlen (fun _=>rfl) slices1))).symm;show Tri ..;obtain⟨l14,hl,h⟩:=zAc h;refine zAk ⟨ofL [(6,.orow 0)],ofH [(0,.row 24 4 (Nd.encs l14))],1⟩ ?_ (fun σ' hle=>?_)
  ·refine zAj (zAt (X:=Nat×Int×(List Nd)) (fun y=>match y with | (k,x11,l13)=>⟨ofL [(6,.orow 0),(25,.s (.sl 1 ((List.map zAF) slices1))),(26,.s (.int .i64 (slices1.length:Int))),(27,.s (.int .i64 x11))],ofH [(0,.row 24 4 (Nd.encs l13))],1⟩) (fun y=>zAM slices1 y.1 y.2.1 y.2.2=some l14) (fun y=>y.1) (n,0,y9) hl ?_ ?_)
   ·exact(Le.rnm [(0,0)] _ _ _ ⟨rfl,rfl,rfl,rfl,trivial⟩ ⟨rfl,⟨_,rfl,rfl⟩,trivial⟩)
   ·rintro⟨k,x11,l13⟩ h;cases k with
    | zero=>cases h
    | succ k =>
     replace h:zAM slices1 (k+1) x11 l13=some l14:=h;rw[zAM]at h;refine zYc ?_;refine zAa ?_;refine zAg rfl h (fun hb h=>?_) (fun hb h=>?_)
     ·refine zAe ?_;refine zAa ?_;refine zAj ?_;refine zXw [] [29] rfl ?_;obtain⟨e15,he15,h⟩:=zAc h;refine And.intro (zAr (fun _=>rfl) he15).1 ?_;intro r16 hr16;obtain rfl:[.sl 4 (Nd.encs e15)]=r16:=(hr16.trans (zAr (fun _=>rfl) he15).2.1).symm;refine zAb [33] [] rfl ?_;obtain⟨hq,h⟩:=zAy h;refine And.intro (show((Nd.encs l13).length+(Nd.encs e15).length) * 56<=140737488355328/\(Nd.encs l13).length+(Nd.encs e15).length<=9223372036854775807 from by simp only[List.length_append,List.length_cons,List.length_nil,List.length_map,rlen Nd.encs_eq]at hq ⊢; omega) ?_
      refine zAi (Le.rnm [(1,0)] [(6,.orow 0),(25,.s (.sl 1 ((List.map zAF) slices1))),(26,.s (.int .i64 (slices1.length:Int))),(27,.s (.int .i64 x11))] [(0,.row 24 4 (Nd.encs (l13++e15)))] 1 ⟨rfl,rfl,rfl,rfl,trivial⟩ ⟨rfl,⟨_,rfl,congrArg (Ob.row 24 4) zXU⟩,trivial⟩) ?_;refine zYb ?_
      refine⟨(k,IntKind.i64.wrap (x11+1),l13++e15),h,(Le.rnm [(0,0)] _ _ _ ⟨rfl,rfl,rfl,rfl,trivial⟩ ⟨rfl,⟨_,rfl,rfl⟩,trivial⟩),Nat.lt_succ_self k⟩
     ·refine zAx ?_;cases h;exact(Le.rnm [(0,0)] _ _ _ ⟨rfl,trivial⟩ ⟨rfl,⟨_,rfl,rfl⟩,trivial⟩)
  ·refine zAi hle ?_;refine zYc ?_;refine zAd ?_;have hy:=osi h;subst hy;unfold zCJ;exact⟨_,Le.refl _ _,0,rfl,rfl⟩
def zAC (p:(zO8×List Nd)):List S:=[.int .i64 p.1.1,.sl 1 ((List.map (irow .i64)) p.1.2.1),.int .i64 p.1.2.2.1,.int .i64 p.1.2.2.2.1,.sl 4 (Nd.encs p.1.2.2.2.2.1),.int .i64 p.1.2.2.2.2.2.1,.str p.1.2.2.2.2.2.2.1,.str p.1.2.2.2.2.2.2.2,.sl 4 (Nd.encs p.2)]
def zJx (n:Nat) (xs:List AV) (r:Ret):Prop:=∃ (a0:(zO8×List Nd)) (a1:Int) (a2:List Nd) (y0:List Nd),zAP n a0 a1 a2=some y0/\xs=[.agg ((zAC a0).map .s),.s (.int .i64 a1),.s (.sl 4 (Nd.encs a2))]/\r = .val (.s (.sl 4 (Nd.encs y0)))
def zBK:zAp:=zAn fun xs r=>∃ n,zJx n xs r
theorem zCa:PSound Tryz.prog 196 zBK:=by
 have gok:∀ f s,look? f [(202,zEZ)]=some s->PSound Tryz.prog f s:=zAl (by
  simp only[List.forall_mem_cons]
  exact⟨zHy,by simp⟩)
 refine zAo tokW Tryz.call196 Tryz.func196 rfl (fun xs r h=>by obtain⟨n,_,_,_,_,_,rfl,_⟩:=h; show 3<=24; decide) 24 rfl ?_;rintro xs r w0 G0 ⟨n,⟨⟨c1Y,c1Ag,c1J,c1Z,c1U,c1X,c1Af,c1Aa⟩,c1K⟩,n2,nodes3,y0,h,rfl,rfl⟩ _;rw[zAP]at h;refine zYc ?_;refine zAa ?_;refine zAO [] [12,21,22] [] rfl (by decide +kernel) ?_;obtain⟨hq,h⟩:=zAy h;refine And.intro ⟨hq.1,hq.2.1,Int.le_trans hq.2.2 (Int.ofNat_le.2 (Nat.le_of_eq (rlen Nd.encs_eq _).symm))⟩ ?_;intro r4 hr4
 obtain rfl:Nd.encs ((c1K.take c1J.toNat).drop (0:Int).toNat)=r4:=(hr4.trans (rcut Nd.encs_eq _ _ _)).symm;obtain⟨hq,h⟩:=zAy h;refine And.intro ⟨hq.1,Int.le_trans hq.2.1 (Int.ofNat_le.2 (Nat.le_of_eq (rlen Nd.encs_eq _).symm)),Int.le_refl _⟩ ?_;intro r5 hr5;obtain rfl:Nd.encs ((c1K.take (c1K.length:Int).toNat).drop (IntKind.i64.wrap (c1J+n2)).toNat)=r5:=(hr5.trans ((congrArg (fun m:Nat=>((Nd.encs c1K).take m).drop (IntKind.i64.wrap (c1J+n2)).toNat) (rlen Nd.encs_eq _)).trans (rcut Nd.encs_eq _ _ _))).symm;intro r6 hr6
 obtain rfl:(List.map zAF) [(c1K.take c1J.toNat).drop (0:Int).toNat,nodes3,(c1K.take (c1K.length:Int).toNat).drop (IntKind.i64.wrap (c1J+n2)).toNat]=r6:=(hr6.trans zXU).symm;obtain⟨y7,hy7,h⟩:=zAc h;refine⟨_,⟨_,_,_,hy7,rfl,rfl⟩,?_⟩
 refine zAd ?_;have hy:=osi h;subst hy;exact fin0 rfl rfl
def zD9 (n:Nat) (xs:List AV) (r:Ret):Prop:=∃ (a0:Nd) (a1:Nd) (y0:Bool),zBY n a0 a1=some y0/\xs=[.agg ((Nd.enc a0).map .s),.agg ((Nd.enc a1).map .s)]/\r = .val (.s (.bool y0))
def zAZ (n:Nat) (xs:List AV) (r:Ret):Prop:=∃ (a0:List Nd) (a1:List Nd) (y0:Bool),zAN n a0 a1=some y0/\xs=[.s (.sl 4 (Nd.encs a0)),.s (.sl 4 (Nd.encs a1)),.s (.fn 198)]/\r = .val (.s (.bool y0))
theorem zNe (n:Nat) (ih_node_Equal:PSound Tryz.prog 198 (zAn (zD9 n))) (ih_slices_EqualFunc_sNode:PSound Tryz.prog 197 (zAn (zAZ n))):PSound Tryz.prog 198 (zAn (zD9 (n+1))):=by
 have gok:∀ f s,look? f [(197,zAn (zAZ n))]=some s->PSound Tryz.prog f s:=zAl (by
  simp only[List.forall_mem_cons]
  exact⟨ih_slices_EqualFunc_sNode,by simp⟩)
 refine zAo tokW Tryz.call198 Tryz.func198 rfl (fun xs r h=>by obtain⟨_,_,_,_,rfl,_⟩:=h; show 2<=31; decide) 31 rfl ?_;rintro xs r w0 G0 ⟨⟨a1A,a1B,a1D,a1C⟩,⟨b2A,b2B,b2D,b2C⟩,y0,h,rfl,rfl⟩ _;rw[zBY]at h;refine zYc ?_;refine zAa ?_;obtain⟨x3,hj,h⟩:=zAc h;refine zAk ⟨ofL [(4,.s (.bool x3))],fun _=>none,0⟩ ?_ (fun σ' hle=>?_)
 ·replace h:=hj;refine zAb [] [10,17,24] rfl ?_;intro b hb;cases b with
  | true =>
   replace h:=zAv hb.symm h;intro b hb;cases b with
   | true =>
    replace h:=zAv hb.symm h;intro b hb;cases b with
    | true =>
     replace h:=zAv hb.symm h;obtain⟨y4,hy4,h⟩:=zAc h;refine⟨_,⟨_,_,_,hy4,rfl,rfl⟩,?_⟩
     cases h;exact(Le.forget _ ⟨rfl,trivial⟩)
    | false =>
     replace h:=zAu hb.symm h;cases h;exact(Le.forget _ ⟨rfl,trivial⟩)
   | false =>
    replace h:=zAu hb.symm h;intro b hb;subst hb;cases h;exact(Le.forget _ ⟨rfl,trivial⟩)
  | false =>
   replace h:=zAu hb.symm h;intro b hb;subst hb;intro b hb;subst hb;cases h;exact(Le.forget _ ⟨rfl,trivial⟩)
 ·refine zAi hle ?_;refine zAd ?_;have hy:=osi h;subst hy;exact fin0 rfl rfl
theorem zF7 (n:Nat) (ih_node_Equal:PSound Tryz.prog 198 (zAn (zD9 n))) (ih_slices_EqualFunc_sNode:PSound Tryz.prog 197 (zAn (zAZ n))):PSound Tryz.prog 197 (zAn (zAZ (n+1))):=by
 have gok:∀ f s,look? f [(198,zAn (zD9 n))]=some s->PSound Tryz.prog f s:=zAl (by
  simp only[List.forall_mem_cons]
  exact⟨ih_node_Equal,by simp⟩)
 refine zAo tokW Tryz.call197 Tryz.func197 rfl (fun xs r h=>by obtain⟨_,_,_,_,rfl,_⟩:=h; show 3<=32; decide) 32 rfl ?_;rintro xs r w0 G0 ⟨s11,s22,y0,h,rfl,rfl⟩ _;rw[zAN]at h;refine zYc ?_;refine zAa ?_;refine zXw [] [11,13] rfl ?_;intro n3 hn3;obtain rfl:(s11.length:Int)=n3:=(hn3.trans (congrArg (fun m:Nat=>(m:Int)) (rlen Nd.encs_eq s11))).symm;intro n4 hn4;obtain rfl:(s22.length:Int)=n4:=(hn4.trans (congrArg (fun m:Nat=>(m:Int)) (rlen Nd.encs_eq s22))).symm;refine zAg rfl h (fun hb h=>?_) (fun hb h=>?_)
 ·refine zYc ?_;refine zAd ?_;have hy:=osi h;subst hy;exact fin0 rfl rfl
 ·refine zAe ?_;refine zAa ?_;refine zXw [] [16] rfl ?_;intro n5 hn5;obtain rfl:(s11.length:Int)=n5:=(hn5.trans (congrArg (fun m:Nat=>(m:Int)) (rlen Nd.encs_eq s11))).symm;show Tri ..;obtain⟨fl,hl,ho1⟩:=zAc h;refine zBO (fl:=fl) (fun z=>match z with | _=>⟨ofL [],fun _=>none,0⟩) ?_ (fun z σ' hz hle=>?_)
  ·refine zAj (zAt (X:=Nat×Int) (fun y=>match y with | (k,x6)=>⟨ofL [(1,.s (.sl 4 (Nd.encs s22))),(2,.s (.fn 198)),(15,.s (.sl 4 (Nd.encs s11))),(16,.s (.int .i64 (s11.length:Int))),(17,.s (.int .i64 x6))],fun _=>none,0⟩) (fun y=>zAD (zBY n) s11 s22 y.1 y.2=some fl) (fun y=>y.1) (n,0) hl ?_ ?_)
   ·exact(Le.forget _ ⟨rfl,rfl,rfl,rfl,rfl,trivial⟩)
   ·rintro⟨k,x6⟩ h;cases k with
    | zero=>cases h
    | succ k =>
     replace h:zAD (zBY n) s11 s22 (k+1) x6=some fl:=h;rw[zAD]at h;refine zYc ?_;refine zAa ?_;refine zAg rfl h (fun hb h=>?_) (fun hb h=>?_)
     ·refine zAe ?_;refine zAa ?_;refine zAj ?_;refine zXw [8] [20] rfl ?_;obtain⟨⟨e7A,e7B,e7D,e7C⟩,he7,h⟩:=zAc h;refine And.intro (zAr Nd.encs_eq he7).1 ?_;intro r8 hr8;obtain rfl:[.int .i64 e7A,.str e7B,.int .i64 e7D,.sl 4 (Nd.encs e7C)]=r8:=(hr8.trans (zAr Nd.encs_eq he7).2.1).symm;refine zAi (Le.giveBox 0 [.int .i64 e7A,.str e7B,.int .i64 e7D,.sl 4 (Nd.encs e7C)] rfl rfl) ?_;refine zXw [9] [24] rfl ?_;obtain⟨⟨e9A,e9B,e9D,e9C⟩,he9,h⟩:=zAc h;refine And.intro (zAr Nd.encs_eq he9).1 ?_
      intro r10 hr10;obtain rfl:[.int .i64 e9A,.str e9B,.int .i64 e9D,.sl 4 (Nd.encs e9C)]=r10:=(hr10.trans (zAr Nd.encs_eq he9).2.1).symm;refine zAi (Le.giveBox 1 [.int .i64 e9A,.str e9B,.int .i64 e9D,.sl 4 (Nd.encs e9C)] rfl rfl) ?_;refine zYc ?_;obtain⟨y11,hy11,h⟩:=zAc h;refine⟨_,⟨_,_,_,hy11,rfl,rfl⟩,?_⟩
      refine zAg rfl h (fun hb h=>?_) (fun hb h=>?_)
      ·refine zYc ?_;refine zAd ?_;cases h;replace h:some _=some _:=ho1;have hy:=osi h;subst hy;exact fin0 rfl rfl
      ·refine zAe ?_;refine zYb ?_;refine⟨(k,IntKind.i64.wrap (x6+1)),h,(Le.rnm [] _ [] 0 ⟨rfl,rfl,rfl,rfl,rfl,trivial⟩ trivial),Nat.lt_succ_self k⟩
     ·refine zAx ?_;cases h;exact⟨_,rfl,(Le.forget _ trivial)⟩
  ·subst hz;obtain _:=z;replace h:=ho1;refine zAi hle ?_;refine zYc ?_;refine zAd ?_;have hy:=osi h;subst hy;exact fin0 rfl rfl
theorem zHN:∀ n,PSound Tryz.prog 198 (zAn (zD9 n))/\PSound Tryz.prog 197 (zAn (zAZ n)):=by
 intro n
 induction n with
 | zero =>
  refine⟨?_,?_⟩
  ·exact zA7 Tryz.call198 (fun xs r h=>by obtain⟨_,_,_,h,_⟩:=h; rw[zBY]at h; cases h)
  ·exact zA7 Tryz.call197 (fun xs r h=>by obtain⟨_,_,_,h,_⟩:=h; rw[zAN]at h; cases h)
 | succ n ih =>
  obtain⟨ih_node_Equal,ih_slices_EqualFunc_sNode⟩:=ih;exact⟨zNe n ih_node_Equal ih_slices_EqualFunc_sNode,zF7 n ih_node_Equal ih_slices_EqualFunc_sNode⟩
def zKO:zAp:=zAn fun xs r=>∃ n,zD9 n xs r
theorem zPv:PSound Tryz.prog 198 zKO:=zBr (fun n=>(zHN n).1)
def zEa:zAp:=zAn fun xs r=>∃ n,zAZ n xs r
theorem zGE:PSound Tryz.prog 197 zEa:=zBr (fun n=>(zHN n).2)
def zGv (n:Nat) (xs:List AV) (r:Ret):Prop:=∃ (a0:(zO8×List Nd)) (y0:List Nd) (y1:Int),zBe n a0=some (y0,y1)/\xs=[.agg ((zAC a0).map .s)]/\r = .val (.tup [.s (.sl 4 (Nd.encs y0)),.s (.int .i64 y1)])
def zGx:zAp:=zAn fun xs r=>∃ n,zGv n xs r
theorem zGb:PSound Tryz.prog 183 zGx:=by
 have gok:∀ f s,look? f [(53,zFJ),(195,zGh),(198,zKO),(196,zBK)]=some s->PSound Tryz.prog f s:=zAl (by
  simp only[List.forall_mem_cons]
  exact⟨zHs,zHi,zPv,zCa,by simp⟩)
 refine zAo tokW Tryz.call183 Tryz.func183 rfl (fun xs r h=>by obtain⟨n,_,_,_,_,rfl,_⟩:=h; show 1<=54; decide) 54 rfl ?_;rintro xs r w0 G0 ⟨n,⟨⟨c1Y,c1Ag,c1J,c1Z,c1U,c1X,c1Af,c1Aa⟩,c1K⟩,y0,y1,h,rfl,rfl⟩ _;rw[zBe]at h;refine zYc ?_;refine zXw [4] [11] rfl ?_;obtain⟨⟨e2A,e2B,e2D,e2C⟩,he2,h⟩:=zAc h;refine And.intro (zAr Nd.encs_eq he2).1 ?_;intro r3 hr3
 obtain rfl:[.int .i64 e2A,.str e2B,.int .i64 e2D,.sl 4 (Nd.encs e2C)]=r3:=(hr3.trans (zAr Nd.encs_eq he2).2.1).symm;obtain⟨⟨y4A,y4B,y4D,y4C⟩,hy4,h⟩:=zAc h;refine⟨_,_,⟨_,_,hy4,rfl,rfl,rfl,rfl⟩,?_⟩
 refine zAa ?_;refine zAa ?_;refine zAO [] [] [3,4] rfl (by decide +kernel) ?_;obtain⟨y5,hy5,h⟩:=zAc h;refine⟨_,⟨_,_,hy5,rfl,rfl⟩,?_⟩
 refine zAg rfl h (fun hb h=>?_) (fun hb h=>?_)
 ·refine zYc ?_;refine zAd ?_;obtain⟨hj1,hk1⟩:=pij h;subst hj1 hk1;exact fin0 rfl rfl
 ·refine zAe ?_;refine zYc ?_;obtain⟨⟨e6A,e6B,e6D,e6C⟩,he6,h⟩:=zAc h;refine And.intro (zAr Nd.encs_eq he6).1 ?_;refine And.intro (zAr Nd.encs_eq he6).2.2 ?_;refine⟨_,(zAr Nd.encs_eq he6).2.1,?_⟩
  refine zYc ?_;obtain⟨⟨e7A,e7B,e7D,e7C⟩,he7,h⟩:=zAc h;refine And.intro (zAr Nd.encs_eq he7).1 ?_;have hset8:=(rset (R:=Nd.encs) (f:=Nd.enc) Nd.encs_eq he7 (Nd.mk e7A e7B e7D []) 3 4 [.sl 4 (Nd.encs [])] rfl)
  have hat8:=at_set he7 (Nd.mk e7A e7B e7D [])
  refine And.intro (zAr Nd.encs_eq he7).2.2 ?_;refine zAi (Le.rnm [(1,0),(0,1)] [(1,.s (.pt [.int .i64 c1Y,.sl 1 ((List.map (irow .i64)) c1Ag),.int .i64 c1J,.int .i64 c1Z,.sl 4 (Nd.encs c1U),.int .i64 c1X,.str c1Af,.str c1Aa,.sl 4 (Nd.encs c1K)])),(4,.op 0 0),(5,.s (.sl 4 (Nd.encs e6C)))] [(0,.box 24 [.s (.int .i64 y4A),.s (.str y4B),.s (.int .i64 y4D),.orow 1]),(1,.row 24 4 (Nd.encs (y4C.set c1X.toNat (Nd.mk e7A e7B e7D []))))] 2 ⟨rfl,rfl,rfl,trivial⟩ ⟨rfl,⟨_,rfl,rfl⟩,rfl,⟨_,rfl,congrArg (Ob.row 24 4) hset8⟩,trivial⟩) ?_;refine zAa ?_
  refine zAa ?_;obtain⟨x9,hj,h⟩:=zAc h;refine zAk ⟨ofL [(1,.s (.pt [.int .i64 c1Y,.sl 1 ((List.map (irow .i64)) c1Ag),.int .i64 c1J,.int .i64 c1Z,.sl 4 (Nd.encs c1U),.int .i64 c1X,.str c1Af,.str c1Aa,.sl 4 (Nd.encs c1K)])),(5,.s (.sl 4 (Nd.encs e6C))),(50,.s (.bool x9))],fun _=>none,0⟩ ?_ (fun σ' hle=>?_)
  ·replace h:=hj;refine zAO [] [36,41,46] [7,13] rfl (by decide +kernel) ?_;intro n10 hn10;obtain rfl:(e6C.length:Int)=n10:=(hn10.trans (congrArg (fun m:Nat=>(m:Int)) (rlen Nd.encs_eq e6C))).symm;intro b hb;cases b with
   | true =>
    replace h:=zAv hb.symm h;cases h;exact(Le.rnm [] _ [] 0 ⟨rfl,rfl,rfl,trivial⟩ trivial)
   | false =>
    replace h:=zAu hb.symm h;obtain⟨⟨e11A,e11B,e11D,e11C⟩,he11,h⟩:=zAc h;refine And.intro (zAr Nd.encs_eq he11).1 ?_;intro r12 hr12;obtain rfl:[.int .i64 e11A,.str e11B,.int .i64 e11D,.sl 4 (Nd.encs e11C)]=r12:=(hr12.trans (zAr Nd.encs_eq he11).2.1).symm;obtain⟨y13,hy13,h⟩:=zAc h;refine⟨_,⟨_,_,_,_,hy13,rfl,rfl⟩,?_⟩
    cases h;exact(Le.rnm [] _ [] 0 ⟨rfl,rfl,rfl,trivial⟩ trivial)
  ·refine zAi hle ?_;refine zAg rfl h (fun hb h=>?_) (fun hb h=>?_)
   ·refine zYc ?_;refine zAd ?_;obtain⟨hj1,hk1⟩:=pij h;subst hj1 hk1;exact fin0 rfl rfl
   ·refine zAe ?_;refine zYc ?_;obtain⟨y14,hy14,h⟩:=zAc h;refine⟨_,⟨_,_,_,_,_,hy14,rfl,rfl⟩,?_⟩
    refine zAd ?_;obtain⟨hj1,hk1⟩:=pij h;subst hj1 hk1;exact fin0 rfl rfl
def zGw (xs:List AV) (r:Ret):Prop:=∃ (a0:(zO8×List Nd)) (y0:List Nd) (y1:Int),zBf a0=some (y0,y1)/\xs=[.agg ((zAC a0).map .s)]/\r = .val (.tup [.s (.sl 4 (Nd.encs y0)),.s (.int .i64 y1)])
def zGy:zAp:=zAn fun xs r=>zGw xs r
theorem zGc:PSound Tryz.prog 183 zGy:=by
 have gok:∀ f s,look? f [(53,zFI),(195,zGh)]=some s->PSound Tryz.prog f s:=zAl (by
  simp only[List.forall_mem_cons]
  exact⟨zGp,zHi,by simp⟩)
 refine zAo tokW Tryz.call183 Tryz.func183 rfl (fun xs r h=>by obtain⟨_,_,_,_,rfl,_⟩:=h; show 1<=54; decide) 54 rfl ?_;rintro xs r w0 G0 ⟨⟨⟨c1Y,c1Ag,c1J,c1Z,c1U,c1X,c1Af,c1Aa⟩,c1K⟩,y0,y1,h,rfl,rfl⟩ _;rw[zBf]at h;refine zYc ?_;refine zXw [4] [11] rfl ?_;obtain⟨⟨e2A,e2B,e2D,e2C⟩,he2,h⟩:=zAc h;refine And.intro (zAr Nd.encs_eq he2).1 ?_;intro r3 hr3;obtain rfl:[.int .i64 e2A,.str e2B,.int .i64 e2D,.sl 4 (Nd.encs e2C)]=r3:=(hr3.trans (zAr Nd.encs_eq he2).2.1).symm
 obtain⟨⟨y4A,y4B,y4D,y4C⟩,hy4,h⟩:=zAc h;refine⟨_,⟨_,_,hy4,rfl,rfl⟩,?_⟩
 refine zAa ?_;refine zAa ?_;refine zAO [] [] [3] rfl (by decide +kernel) ?_;obtain⟨y5,hy5,h⟩:=zAc h;refine⟨_,⟨_,_,hy5,rfl,rfl⟩,?_⟩
 refine zAg rfl h (fun hb h=>?_) (fun hb h=>?_)
 ·refine zYc ?_;refine zAd ?_;obtain⟨hj1,hk1⟩:=pij h;subst hj1 hk1;exact fin0 rfl rfl
 ·refine zAe ?_;refine zAa ?_;cases h
def zJy (n:Nat) (xs:List AV) (r:Ret):Prop:=∃ (a0:(zO8×List Nd)) (y0:List Nd) (y1:Int),zDh n a0=some (y0,y1)/\xs=[.agg ((zAC a0).map .s)]/\r = .val (.tup [.s (.sl 4 (Nd.encs y0)),.s (.int .i64 y1)])
def zGd:zAp:=zAn fun xs r=>∃ n,zJy n xs r
theorem zXV {α:Type}{a b:α} (h:a=b:=by simp[List.map_append,List.map_take,List.map_drop,irow,brow,zEm,List.map_cons,List.map_nil,zDV,Nd.encs_eq,Nd.enc,CV.encs_eq,CV.enc,zBi,zAJ,zBL,zAF,zAC]):a=b :=
 h
theorem zJi:PSound Tryz.prog 182 zGd:=by
 have gok:∀ f s,look? f [(53,zFJ),(199,zFo),(196,zBK)]=some s->PSound Tryz.prog f s:=zAl (by
  simp only[List.forall_mem_cons]
  exact⟨zHs,zH8,zCa,by simp⟩)
 refine zAo tokW Tryz.call182 Tryz.func182 rfl (fun xs r h=>by obtain⟨n,_,_,_,_,rfl,_⟩:=h; show 1<=39; decide) 39 rfl ?_;rintro xs r w0 G0 ⟨n,⟨⟨c1Y,c1Ag,c1J,c1Z,c1U,c1X,c1Af,c1Aa⟩,c1K⟩,y0,y1,h,rfl,rfl⟩ _;rw[zDh]at h;refine zYc ?_;refine zXw [4] [8] rfl ?_;obtain⟨⟨e2A,e2B,e2D,e2C⟩,he2,h⟩:=zAc h;refine And.intro (zAr Nd.encs_eq he2).1 ?_;intro r3 hr3;obtain rfl:[.int .i64 e2A,.str e2B,.int .i64 e2D,.sl 4 (Nd.encs e2C)]=r3:=(hr3.trans (zAr Nd.encs_eq he2).2.1).symm
 obtain⟨⟨y4A,y4B,y4D,y4C⟩,hy4,h⟩:=zAc h;refine⟨_,_,⟨_,_,hy4,rfl,rfl,rfl,rfl⟩,?_⟩
 refine zAa ?_;refine zAO [] [28] [1,19,21] rfl (by decide +kernel) ?_;obtain⟨hq,h⟩:=zAy h;refine And.intro ⟨hq.1,hq.2.1,Int.le_trans hq.2.2 (Int.ofNat_le.2 (Nat.le_of_eq (rlen Nd.encs_eq _).symm))⟩ ?_;intro r5 hr5;obtain rfl:Nd.encs ((c1K.take (IntKind.i64.wrap (c1J+c1Z)).toNat).drop c1J.toNat)=r5:=(hr5.trans (rcut Nd.encs_eq _ _ _)).symm;obtain⟨y6,hy6,h⟩:=zAc h;refine⟨_,⟨_,_,hy6,rfl,rfl⟩,?_⟩
 obtain⟨⟨e7A,e7B,e7D,e7C⟩,he7,h⟩:=zAc h;refine And.intro (zAr Nd.encs_eq he7).1 ?_;have hset8:=(rset (R:=Nd.encs) (f:=Nd.enc) Nd.encs_eq he7 (Nd.mk e7A e7B e7D y6) 3 4 [.sl 4 (Nd.encs y6)] rfl)
 have hat8:=at_set he7 (Nd.mk e7A e7B e7D y6)
 refine And.intro (zAr Nd.encs_eq he7).2.2 ?_;show Tri ..
 refine zAi (Le.trans (Le.trans (Le.trans (Le.rnm [(1,0),(0,1)] [(1,.s (.pt [.int .i64 c1Y,.sl 1 ((List.map (irow .i64)) c1Ag),.int .i64 c1J,.int .i64 c1Z,.sl 4 (Nd.encs c1U),.int .i64 c1X,.str c1Af,.str c1Aa,.sl 4 (Nd.encs c1K)])),(4,.op 0 0)] [(0,.box 24 [.s (.int .i64 y4A),.s (.str y4B),.s (.int .i64 y4D),.orow 1]),(1,.row 24 4 (Nd.encs (y4C.set c1X.toNat (Nd.mk e7A e7B e7D y6))))] 2 ⟨rfl,rfl,trivial⟩ ⟨rfl,⟨_,rfl,rfl⟩,rfl,⟨_,rfl,congrArg (Ob.row 24 4) hset8⟩,trivial⟩) (Le.giveRow 1 rfl)) (Le.rnm [(0,0)] [(1,.s (.pt [.int .i64 c1Y,.sl 1 ((List.map (irow .i64)) c1Ag),.int .i64 c1J,.int .i64 c1Z,.sl 4 (Nd.encs c1U),.int .i64 c1X,.str c1Af,.str c1Aa,.sl 4 (Nd.encs c1K)])),(4,.op 0 0)] [(0,.box 24 [.s (.int .i64 y4A),.s (.str y4B),.s (.int .i64 y4D),.s (.sl 4 (Nd.encs (y4C.set c1X.toNat (Nd.mk e7A e7B e7D y6))))])] 1 ⟨rfl,rfl,trivial⟩ ⟨rfl,⟨_,rfl,rfl⟩,trivial⟩)) (Le.giveBox 0 [.int .i64 y4A,.str y4B,.int .i64 y4D,.sl 4 (Nd.encs (y4C.set c1X.toNat (Nd.mk e7A e7B e7D y6)))] rfl rfl)) ?_
 refine zXw [] [37] rfl ?_;intro r9 hr9;obtain rfl:Nd.encs [Nd.mk y4A y4B y4D (y4C.set c1X.toNat (Nd.mk e7A e7B e7D y6))]=r9:=(hr9.trans zXV).symm;obtain⟨y10,hy10,h⟩:=zAc h;refine⟨_,⟨_,_,_,_,_,hy10,rfl,rfl⟩,?_⟩
 refine zAd ?_;obtain⟨hj1,hk1⟩:=pij h;subst hj1 hk1;exact fin0 rfl rfl
def zIt (n:Nat) (xs:List AV) (r:Ret):Prop:=∃ (a0:(zO8×List Nd)) (y0:List Nd) (y1:Int),zCC n a0=some (y0,y1)/\xs=[.agg ((zAC a0).map .s)]/\r = .val (.tup [.s (.sl 4 (Nd.encs y0)),.s (.int .i64 y1)])
def zFk:zAp:=zAn fun xs r=>∃ n,zIt n xs r
theorem zH1:PSound Tryz.prog 180 zFk:=by
 have gok:∀ f s,look? f [(196,zBK)]=some s->PSound Tryz.prog f s:=zAl (by
  simp only[List.forall_mem_cons]
  exact⟨zCa,by simp⟩)
 refine zAo tokW Tryz.call180 Tryz.func180 rfl (fun xs r h=>by obtain⟨n,_,_,_,_,rfl,_⟩:=h; show 1<=9; decide) 9 rfl ?_;rintro xs r w0 G0 ⟨n,⟨⟨c1Y,c1Ag,c1J,c1Z,c1U,c1X,c1Af,c1Aa⟩,c1K⟩,y0,y1,h,rfl,rfl⟩ _;rw[zCC]at h;refine zYc ?_;refine zYc ?_;obtain⟨y2,hy2,h⟩:=zAc h;refine⟨_,⟨_,_,_,_,_,hy2,rfl,rfl⟩,?_⟩
 refine zAd ?_;obtain⟨hj1,hk1⟩:=pij h;subst hj1 hk1;exact fin0 rfl rfl
def zIu (n:Nat) (xs:List AV) (r:Ret):Prop:=∃ (a0:(zO8×List Nd)) (y0:List Nd) (y1:Int),zCD n a0=some (y0,y1)/\xs=[.agg ((zAC a0).map .s)]/\r = .val (.tup [.s (.sl 4 (Nd.encs y0)),.s (.int .i64 y1)])
def zFl:zAp:=zAn fun xs r=>∃ n,zIu n xs r
theorem zH2:PSound Tryz.prog 181 zFl:=by
 have gok:∀ f s,look? f [(197,zEa),(196,zBK)]=some s->PSound Tryz.prog f s:=zAl (by
  simp only[List.forall_mem_cons]
  exact⟨zGE,zCa,by simp⟩)
 refine zAo tokW Tryz.call181 Tryz.func181 rfl (fun xs r h=>by obtain⟨n,_,_,_,_,rfl,_⟩:=h; show 1<=28; decide) 28 rfl ?_;rintro xs r w0 G0 ⟨n,⟨⟨c1Y,c1Ag,c1J,c1Z,c1U,c1X,c1Af,c1Aa⟩,c1K⟩,y0,y1,h,rfl,rfl⟩ _;rw[zCD]at h;refine zYc ?_;refine zXw [] [8] rfl ?_;intro n2 hn2;obtain rfl:(c1U.length:Int)=n2:=(hn2.trans (congrArg (fun m:Nat=>(m:Int)) (rlen Nd.encs_eq c1U))).symm;refine zAa ?_;refine zAa ?_;refine zAO [] [19] [] rfl (by decide +kernel) ?_
 obtain⟨hq,h⟩:=zAy h;refine And.intro ⟨hq.1,hq.2.1,Int.le_trans hq.2.2 (Int.ofNat_le.2 (Nat.le_of_eq (rlen Nd.encs_eq _).symm))⟩ ?_;intro r3 hr3;obtain rfl:Nd.encs ((c1K.take (IntKind.i64.wrap (c1J+(c1U.length:Int))).toNat).drop c1J.toNat)=r3:=(hr3.trans (rcut Nd.encs_eq _ _ _)).symm;obtain⟨y4,hy4,h⟩:=zAc h;refine⟨_,⟨_,_,_,_,hy4,rfl,rfl⟩,?_⟩
 refine zAg rfl h (fun hb h=>?_) (fun hb h=>?_)
 ·refine zYc ?_;refine zAd ?_;obtain⟨hj1,hk1⟩:=pij h;subst hj1 hk1;exact fin0 rfl rfl
 ·refine zAe ?_;refine zYc ?_;obtain⟨y5,hy5,h⟩:=zAc h;refine⟨_,⟨_,_,_,_,_,hy5,rfl,rfl⟩,?_⟩
  refine zAd ?_;obtain⟨hj1,hk1⟩:=pij h;subst hj1 hk1;exact fin0 rfl rfl
def zKk (n:Nat) (xs:List AV) (r:Ret):Prop:=∃ (a0:(zO8×List Nd)) (y0:List Nd) (y1:Int),zDF n a0=some (y0,y1)/\xs=[.agg ((zAC a0).map .s)]/\r = .val (.tup [.s (.sl 4 (Nd.encs y0)),.s (.int .i64 y1)])
def zGK:zAp:=zAn fun xs r=>∃ n,zKk n xs r
theorem zJ1:PSound Tryz.prog 184 zGK:=by
 have gok:∀ f s,look? f [(196,zBK)]=some s->PSound Tryz.prog f s:=zAl (by
  simp only[List.forall_mem_cons]
  exact⟨zCa,by simp⟩)
 refine zAo tokW Tryz.call184 Tryz.func184 rfl (fun xs r h=>by obtain⟨n,_,_,_,_,rfl,_⟩:=h; show 1<=34; decide) 34 rfl ?_;rintro xs r w0 G0 ⟨n,⟨⟨c1Y,c1Ag,c1J,c1Z,c1U,c1X,c1Af,c1Aa⟩,c1K⟩,y0,y1,h,rfl,rfl⟩ _;rw[zDF]at h;refine zYc ?_;refine zXw [4] [10] rfl ?_;obtain⟨⟨e2A,e2B,e2D,e2C⟩,he2,h⟩:=zAc h;refine And.intro (zAr Nd.encs_eq he2).1 ?_;intro r3 hr3;obtain rfl:[.int .i64 e2A,.str e2B,.int .i64 e2D,.sl 4 (Nd.encs e2C)]=r3:=(hr3.trans (zAr Nd.encs_eq he2).2.1).symm
 refine zAa ?_;refine zYc ?_;show Tri ..;obtain⟨fl,hj,ho1⟩:=zAc h;refine zBO (fl:=fl) (fun z=>match z with | _=>⟨ofL [(1,.s (.pt [.int .i64 c1Y,.sl 1 ((List.map (irow .i64)) c1Ag),.int .i64 c1J,.int .i64 c1Z,.sl 4 (Nd.encs c1U),.int .i64 c1X,.str c1Af,.str c1Aa,.sl 4 (Nd.encs c1K)])),(4,.op 0 0)],ofH [(0,.box 24 [.s (.int .i64 e2A),.s (.str e2B),.s (.int .i64 e2D),.s (.sl 4 (Nd.encs e2C))])],1⟩) ?_ (fun z σ' hz hle=>?_)
 ·replace h:=hj;refine zAj ?_;refine zAa ?_;refine zYc ?_;show Tri ..;obtain⟨x4,hj,h⟩:=zAc h;refine zAk ⟨ofL [(1,.s (.pt [.int .i64 c1Y,.sl 1 ((List.map (irow .i64)) c1Ag),.int .i64 c1J,.int .i64 c1Z,.sl 4 (Nd.encs c1U),.int .i64 c1X,.str c1Af,.str c1Aa,.sl 4 (Nd.encs c1K)])),(4,.op 0 0),(14,.s (.bool x4))],ofH [(0,.box 24 [.s (.int .i64 e2A),.s (.str e2B),.s (.int .i64 e2D),.s (.sl 4 (Nd.encs e2C))])],1⟩ ?_ (fun σ' hle=>?_)
  ·replace h:=hj;refine zAg rfl h (fun hb h=>?_) (fun hb h=>?_)
   ·refine zAe ?_;cases h;exact(Le.rnm [(0,0)] _ _ _ ⟨rfl,rfl,rfl,trivial⟩ ⟨rfl,⟨_,rfl,rfl⟩,trivial⟩)
   ·refine zYc ?_;refine zAg rfl h (fun hb h=>?_) (fun hb h=>?_)
    ·refine zAe ?_;cases h;exact(Le.rnm [(0,0)] _ _ _ ⟨rfl,rfl,rfl,trivial⟩ ⟨rfl,⟨_,rfl,rfl⟩,trivial⟩)
    ·refine zYc ?_;refine zAg rfl h (fun hb h=>?_) (fun hb h=>?_)
     ·refine zAe ?_;cases h;exact(Le.rnm [(0,0)] _ _ _ ⟨rfl,rfl,rfl,trivial⟩ ⟨rfl,⟨_,rfl,rfl⟩,trivial⟩)
     ·refine zYc ?_;refine zAg rfl h (fun hb h=>?_) (fun hb h=>?_)
      ·refine zAe ?_;cases h;exact(Le.rnm [(0,0)] _ _ _ ⟨rfl,rfl,rfl,trivial⟩ ⟨rfl,⟨_,rfl,rfl⟩,trivial⟩)
      ·refine zYb ?_;cases h;exact(Le.rnm [(0,0)] _ _ _ ⟨rfl,rfl,rfl,trivial⟩ ⟨rfl,⟨_,rfl,rfl⟩,trivial⟩)
  ·refine zAi hle ?_;refine zAg rfl h (fun hb h=>?_) (fun hb h=>?_)
   ·refine zAe ?_;cases h;exact⟨_,rfl,(Le.rnm [(0,0)] _ _ _ ⟨rfl,rfl,trivial⟩ ⟨rfl,⟨_,rfl,rfl⟩,trivial⟩)⟩
   ·refine zYc ?_;refine zAd ?_;cases h;replace h:some _=some _:=ho1;obtain⟨hj1,hk1⟩:=pij h;subst hj1 hk1;exact fin0 rfl rfl
 ·subst hz;obtain _:=z;replace h:=ho1;refine zAi hle ?_;refine zAa ?_;refine zYc ?_;refine zAg rfl h (fun hb h=>?_) (fun hb h=>?_)
  ·refine zYc ?_;refine zAd ?_;obtain⟨hj1,hk1⟩:=pij h;subst hj1 hk1;exact fin0 rfl rfl
  ·refine zAe ?_;refine zYc ?_;refine zXw [] [32] rfl ?_;intro r5 hr5;obtain rfl:Nd.encs [Nd.mk e2A c1Aa e2D e2C]=r5:=(hr5.trans zXV).symm;obtain⟨y6,hy6,h⟩:=zAc h;refine⟨_,⟨_,_,_,_,_,hy6,rfl,rfl⟩,?_⟩
   refine zAd ?_;obtain⟨hj1,hk1⟩:=pij h;subst hj1 hk1;exact fin0 rfl rfl
def zIs (xs:List AV) (r:Ret):Prop:=∃ (a0:(zO8×List Nd)) (y0:Int),zBT a0=some y0/\xs=[.agg ((zAC a0).map .s)]/\r = .val (.s (.int .i64 y0))
def zFj:zAp:=zAn fun xs r=>zIs xs r
theorem zH0:PSound Tryz.prog 179 zFj:=by
 have gok:=@gok0 Tryz.prog;refine zAo tokW Tryz.call179 Tryz.func179 rfl (fun xs r h=>by obtain⟨_,_,_,rfl,_⟩:=h; show 1<=44; decide) 44 rfl ?_;rintro xs r w0 G0 ⟨⟨⟨c1Y,c1Ag,c1J,c1Z,c1U,c1X,c1Af,c1Aa⟩,c1K⟩,y0,h,rfl,rfl⟩ _;rw[zBT]at h;refine zYc ?_;refine zYc ?_;refine zAa ?_;refine zYc ?_;show Tri ..;obtain⟨need2,hj,h⟩:=zAc h
 refine zAk ⟨ofL [(1,.s (.pt [.int .i64 c1Y,.sl 1 ((List.map (irow .i64)) c1Ag),.int .i64 c1J,.int .i64 c1Z,.sl 4 (Nd.encs c1U),.int .i64 c1X,.str c1Af,.str c1Aa,.sl 4 (Nd.encs c1K)])),(3,.s (.int .i64 need2))],fun _=>none,0⟩ ?_ (fun σ' hle=>?_)
 ·replace h:=hj;refine zAj ?_;refine zYc ?_;refine zAg rfl h (fun hb h=>?_) (fun hb h=>?_)
  ·refine zYb ?_;cases h;exact(Le.forget _ ⟨rfl,rfl,trivial⟩)
  ·refine zYc ?_;refine zAg rfl h (fun hb h=>?_) (fun hb h=>?_)
   ·refine zAb [] [14] rfl ?_;intro n3 hn3;obtain rfl:(c1U.length:Int)=n3:=(hn3.trans (congrArg (fun m:Nat=>(m:Int)) (rlen Nd.encs_eq c1U))).symm;cases h;exact(Le.forget _ ⟨rfl,rfl,trivial⟩)
   ·refine zYc ?_;refine zAg rfl h (fun hb h=>?_) (fun hb h=>?_)
    ·refine zYb ?_;cases h;exact(Le.forget _ ⟨rfl,rfl,trivial⟩)
    ·refine zAe ?_;cases h;exact(Le.forget _ ⟨rfl,rfl,trivial⟩)
 ·refine zAi hle ?_;refine zAa ?_;refine zAa ?_;obtain⟨x4,hj,h⟩:=zAc h;refine zAk ⟨ofL [(43,.s (.bool x4))],fun _=>none,0⟩ ?_ (fun σ' hle=>?_)
  ·replace h:=hj;refine zAb [] [24,30,33,37] rfl ?_;intro b hb;cases b with
   | true =>
    replace h:=zAv hb.symm h;intro b hb;subst hb;cases h;exact(Le.forget _ ⟨rfl,trivial⟩)
   | false =>
    replace h:=zAu hb.symm h;intro n5 hn5;obtain rfl:(c1K.length:Int)=n5:=(hn5.trans (congrArg (fun m:Nat=>(m:Int)) (rlen Nd.encs_eq c1K))).symm;intro b hb;cases b with
    | true =>
     replace h:=zAv hb.symm h;cases h;exact(Le.forget _ ⟨rfl,trivial⟩)
    | false =>
     replace h:=zAu hb.symm h;intro n6 hn6;obtain rfl:(c1K.length:Int)=n6:=(hn6.trans (congrArg (fun m:Nat=>(m:Int)) (rlen Nd.encs_eq c1K))).symm;cases h;exact(Le.forget _ ⟨rfl,trivial⟩)
  ·refine zAi hle ?_;refine zAg rfl h (fun hb h=>?_) (fun hb h=>?_)
   ·refine zYc ?_;refine zAd ?_;have hy:=osi h;subst hy;exact fin0 rfl rfl
   ·refine zAe ?_;refine zYc ?_;refine zAd ?_;have hy:=osi h;subst hy;exact fin0 rfl rfl
def zLm (n:Nat) (xs:List AV) (r:Ret):Prop:=∃ (a0:List Nd) (a1:Int) (y0:Bool),zC2 n a0 a1=some y0/\xs=[.s (.sl 4 (Nd.encs a0)),.s (.int .i64 a1)]/\r = .val (.s (.bool y0))
def zHm:zAp:=zAn fun xs r=>∃ n,zLm n xs r
theorem zKw:PSound Tryz.prog 177 zHm:=by
 have gok:∀ f s,look? f [(176,zED),(195,zGh)]=some s->PSound Tryz.prog f s:=zAl (by
  simp only[List.forall_mem_cons]
  exact⟨zGq,zHi,by simp⟩)
 refine zAo tokW Tryz.call177 Tryz.func177 rfl (fun xs r h=>by obtain⟨n,_,_,_,_,rfl,_⟩:=h; show 2<=35; decide) 35 rfl ?_;rintro xs r w0 G0 ⟨n,l1,slot2,y0,h,rfl,rfl⟩ _;rw[zC2]at h;refine zYc ?_;refine zAa ?_;refine zAa ?_;obtain⟨x3,hj,h⟩:=zAc h;refine zAk ⟨ofL [(0,.s (.sl 4 (Nd.encs l1))),(1,.s (.int .i64 slot2)),(24,.s (.bool x3))],fun _=>none,0⟩ ?_ (fun σ' hle=>?_)
 ·replace h:=hj;refine zAb [] [6,8,13,17,20] rfl ?_;intro n4 hn4;obtain rfl:(l1.length:Int)=n4:=(hn4.trans (congrArg (fun m:Nat=>(m:Int)) (rlen Nd.encs_eq l1))).symm;intro b hb;cases b with
  | true =>
   replace h:=zAv hb.symm h;intro b hb;subst hb;intro b hb;subst hb;cases h;exact(Le.forget _ ⟨rfl,rfl,rfl,trivial⟩)
  | false =>
   replace h:=zAu hb.symm h;obtain⟨y5,hy5,h⟩:=zAc h;refine⟨_,⟨_,_,_,hy5,rfl,rfl⟩,?_⟩
   intro b hb;cases b with
   | true =>
    replace h:=zAv hb.symm h;intro b hb;subst hb;cases h;exact(Le.forget _ ⟨rfl,rfl,rfl,trivial⟩)
   | false =>
    replace h:=zAu hb.symm h;intro b hb;cases b with
    | true =>
     replace h:=zAv hb.symm h;cases h;exact(Le.forget _ ⟨rfl,rfl,rfl,trivial⟩)
    | false =>
     replace h:=zAu hb.symm h;obtain⟨⟨e6A,e6B,e6D,e6C⟩,he6,h⟩:=zAc h;refine And.intro (zAr Nd.encs_eq he6).1 ?_;intro r7 hr7;obtain rfl:[.int .i64 e6A,.str e6B,.int .i64 e6D,.sl 4 (Nd.encs e6C)]=r7:=(hr7.trans (zAr Nd.encs_eq he6).2.1).symm;obtain⟨y8,hy8,h⟩:=zAc h;refine⟨_,⟨_,_,hy8,rfl,rfl⟩,?_⟩
     cases h;exact(Le.forget _ ⟨rfl,rfl,rfl,trivial⟩)
 ·refine zAi hle ?_;refine zAg rfl h (fun hb h=>?_) (fun hb h=>?_)
  ·refine zYc ?_;refine zAd ?_;have hy:=osi h;subst hy;exact fin0 rfl rfl
  ·refine zAe ?_;refine zXw [] [26,30,33] rfl ?_;obtain⟨⟨e9A,e9B,e9D,e9C⟩,he9,h⟩:=zAc h;refine And.intro (zAr Nd.encs_eq he9).1 ?_;intro r10 hr10;obtain rfl:[.int .i64 e9A,.str e9B,.int .i64 e9D,.sl 4 (Nd.encs e9C)]=r10:=(hr10.trans (zAr Nd.encs_eq he9).2.1).symm;obtain⟨⟨e11A,e11B,e11D,e11C⟩,he11,h⟩:=zAc h;refine And.intro (zAr Nd.encs_eq he11).1 ?_;intro r12 hr12;obtain rfl:[.int .i64 e11A,.str e11B,.int .i64 e11D,.sl 4 (Nd.encs e11C)]=r12:=(hr12.trans (zAr Nd.encs_eq he11).2.1).symm;intro n13 hn13
   obtain rfl:(e11C.length:Int)=n13:=(hn13.trans (congrArg (fun m:Nat=>(m:Int)) (rlen Nd.encs_eq e11C))).symm;refine zAd ?_;have hy:=osi h;subst hy;exact fin0 rfl rfl
def zAs (p:zO8):List S:=[.int .i64 p.1,.sl 1 ((List.map (irow .i64)) p.2.1),.int .i64 p.2.2.1,.int .i64 p.2.2.2.1,.sl 4 (Nd.encs p.2.2.2.2.1),.int .i64 p.2.2.2.2.2.1,.str p.2.2.2.2.2.2.1,.str p.2.2.2.2.2.2.2]
def zOV (n:Nat) (xs:List AV) (r:Ret):Prop:=∃ (a0:zO8) (y0:Bool),zEq n a0=some y0/\xs=[.agg ((zAs a0).map .s)]/\r = .val (.s (.bool y0))
def zJG:zAp:=zAn fun xs r=>∃ n,zOV n xs r
theorem zNO:PSound Tryz.prog 145 zJG:=by
 have gok:∀ f s,look? f [(176,zED),(177,zHm)]=some s->PSound Tryz.prog f s:=zAl (by
  simp only[List.forall_mem_cons]
  exact⟨zGq,zKw,by simp⟩)
 refine zAo tokW Tryz.call145 Tryz.func145 rfl (fun xs r h=>by obtain⟨n,_,_,_,rfl,_⟩:=h; show 1<=80; decide) 80 rfl ?_;rintro xs r w0 G0 ⟨n,⟨a1A,a1N,a1I,a1M,a1G,a1L,a1O,a1B⟩,y0,h,rfl,rfl⟩ _;rw[zEq]at h;refine zYc ?_;refine zAa ?_;obtain⟨x2,hj,h⟩:=zAc h;refine zAk ⟨ofL [(1,.s (.pt [.int .i64 a1A,.sl 1 ((List.map (irow .i64)) a1N),.int .i64 a1I,.int .i64 a1M,.sl 4 (Nd.encs a1G),.int .i64 a1L,.str a1O,.str a1B])),(3,.s (.bool x2))],fun _=>none,0⟩ ?_ (fun σ' hle=>?_)
 ·replace h:=hj;refine zAb [] [7] rfl ?_;intro b hb;cases b with
  | true =>
   replace h:=zAv hb.symm h;cases h;exact(Le.forget _ ⟨rfl,rfl,trivial⟩)
  | false =>
   replace h:=zAu hb.symm h;cases h;exact(Le.forget _ ⟨rfl,rfl,trivial⟩)
 ·refine zAi hle ?_;refine zAa ?_;refine zYc ?_;show Tri ..;obtain⟨fl,hj,ho1⟩:=zAc h;refine zBO (fl:=fl) (fun z=>match z with | _=>⟨ofL [],fun _=>none,0⟩) ?_ (fun z σ' hz hle=>?_)
  ·replace h:=hj;refine zAj ?_;refine zAa ?_;refine zYc ?_;show Tri ..;obtain⟨x3,hj,h⟩:=zAc h;refine zAk ⟨ofL [(1,.s (.pt [.int .i64 a1A,.sl 1 ((List.map (irow .i64)) a1N),.int .i64 a1I,.int .i64 a1M,.sl 4 (Nd.encs a1G),.int .i64 a1L,.str a1O,.str a1B])),(3,.s (.bool x2)),(13,.s (.int .i64 a1A)),(14,.s (.bool x3))],fun _=>none,0⟩ ?_ (fun σ' hle=>?_)
   ·replace h:=hj;refine zAg rfl h (fun hb h=>?_) (fun hb h=>?_)
    ·refine zAe ?_;cases h;exact(Le.forget _ ⟨rfl,rfl,rfl,rfl,trivial⟩)
    ·refine zYb ?_;cases h;exact(Le.forget _ ⟨rfl,rfl,rfl,rfl,trivial⟩)
   ·refine zAi hle ?_;refine zAg rfl h (fun hb h=>?_) (fun hb h=>?_)
    ·refine zAa ?_;obtain⟨x4,hj,h⟩:=zAc h;refine zAk ⟨ofL [(2,.s (.bool x4))],fun _=>none,0⟩ ?_ (fun σ' hle=>?_)
     ·replace h:=hj;refine zAb [] [20,25,29,32,35] rfl ?_;intro b hb;cases b with
      | true =>
       replace h:=zAv hb.symm h;intro b hb;cases b with
       | true =>
        replace h:=zAv hb.symm h;intro b hb;cases b with
        | true =>
         replace h:=zAv hb.symm h;intro n5 hn5;obtain rfl:(a1G.length:Int)=n5:=(hn5.trans (congrArg (fun m:Nat=>(m:Int)) (rlen Nd.encs_eq a1G))).symm;intro b hb;cases b with
         | true =>
          replace h:=zAv hb.symm h;obtain⟨y6,hy6,h⟩:=zAc h;refine⟨_,⟨_,_,_,hy6,rfl,rfl⟩,?_⟩
          cases h;exact(Le.forget _ ⟨rfl,trivial⟩)
         | false =>
          replace h:=zAu hb.symm h;cases h;exact(Le.forget _ ⟨rfl,trivial⟩)
        | false =>
         replace h:=zAu hb.symm h;intro b hb;subst hb;cases h;exact(Le.forget _ ⟨rfl,trivial⟩)
       | false =>
        replace h:=zAu hb.symm h;intro b hb;subst hb;intro b hb;subst hb;cases h;exact(Le.forget _ ⟨rfl,trivial⟩)
      | false =>
       replace h:=zAu hb.symm h;intro b hb;subst hb;intro b hb;subst hb;intro b hb;subst hb;cases h;exact(Le.forget _ ⟨rfl,trivial⟩)
     ·refine zAi hle ?_;refine zAd ?_;cases h;replace h:some _=some _:=ho1;have hy:=osi h;subst hy;exact fin0 rfl rfl
    ·refine zAa ?_;refine zYc ?_;show Tri ..;obtain⟨x7,hj,h⟩:=zAc h;refine zAk ⟨ofL [(1,.s (.pt [.int .i64 a1A,.sl 1 ((List.map (irow .i64)) a1N),.int .i64 a1I,.int .i64 a1M,.sl 4 (Nd.encs a1G),.int .i64 a1L,.str a1O,.str a1B])),(3,.s (.bool x2)),(13,.s (.int .i64 a1A)),(40,.s (.bool x7))],fun _=>none,0⟩ ?_ (fun σ' hle=>?_)
     ·replace h:=hj;refine zAg rfl h (fun hb h=>?_) (fun hb h=>?_)
      ·refine zAe ?_;cases h;exact(Le.forget _ ⟨rfl,rfl,rfl,rfl,trivial⟩)
      ·refine zYb ?_;cases h;exact(Le.forget _ ⟨rfl,rfl,rfl,rfl,trivial⟩)
     ·refine zAi hle ?_;refine zAg rfl h (fun hb h=>?_) (fun hb h=>?_)
      ·refine zAa ?_;obtain⟨x8,hj,h⟩:=zAc h;refine zAk ⟨ofL [(2,.s (.bool x8))],fun _=>none,0⟩ ?_ (fun σ' hle=>?_)
       ·replace h:=hj;refine zAb [] [46,50] rfl ?_;intro b hb;cases b with
        | true =>
         replace h:=zAv hb.symm h;intro b hb;cases b with
         | true =>
          replace h:=zAv hb.symm h;obtain⟨y9,hy9,h⟩:=zAc h;refine⟨_,⟨_,_,_,_,hy9,rfl,rfl⟩,?_⟩
          cases h;exact(Le.forget _ ⟨rfl,trivial⟩)
         | false =>
          replace h:=zAu hb.symm h;cases h;exact(Le.forget _ ⟨rfl,trivial⟩)
        | false =>
         replace h:=zAu hb.symm h;intro b hb;subst hb;cases h;exact(Le.forget _ ⟨rfl,trivial⟩)
       ·refine zAi hle ?_;refine zAd ?_;cases h;replace h:some _=some _:=ho1;have hy:=osi h;subst hy;exact fin0 rfl rfl
      ·refine zYc ?_;refine zAg rfl h (fun hb h=>?_) (fun hb h=>?_)
       ·refine zAa ?_;obtain⟨x10,hj,h⟩:=zAc h;refine zAk ⟨ofL [(2,.s (.bool x10))],fun _=>none,0⟩ ?_ (fun σ' hle=>?_)
        ·replace h:=hj;refine zAb [] [62,67,70,73] rfl ?_;intro b hb;cases b with
         | true =>
          replace h:=zAv hb.symm h;intro b hb;cases b with
          | true =>
           replace h:=zAv hb.symm h;intro n11 hn11;obtain rfl:(a1G.length:Int)=n11:=(hn11.trans (congrArg (fun m:Nat=>(m:Int)) (rlen Nd.encs_eq a1G))).symm;intro b hb;cases b with
           | true =>
            replace h:=zAv hb.symm h;cases h;exact(Le.forget _ ⟨rfl,trivial⟩)
           | false =>
            replace h:=zAu hb.symm h;cases h;exact(Le.forget _ ⟨rfl,trivial⟩)
          | false =>
           replace h:=zAu hb.symm h;intro b hb;subst hb;cases h;exact(Le.forget _ ⟨rfl,trivial⟩)
         | false =>
          replace h:=zAu hb.symm h;intro b hb;subst hb;intro b hb;subst hb;cases h;exact(Le.forget _ ⟨rfl,trivial⟩)
        ·refine zAi hle ?_;refine zAd ?_;cases h;replace h:some _=some _:=ho1;have hy:=osi h;subst hy;exact fin0 rfl rfl
       ·refine zAe ?_;cases h;exact⟨_,rfl,(Le.forget _ trivial)⟩
  ·subst hz;obtain _:=z;replace h:=ho1;refine zAi hle ?_;refine zYc ?_;refine zAd ?_;have hy:=osi h;subst hy;exact fin0 rfl rfl
theorem zVe {P:Program}{f:Nat}{A B:List AV->Ret->Prop} (hA:PSound P f (zAn A)) (hB:PSound P f (zAn B)):PSound P f (zAn fun xs r=>A xs r∨B xs r) :=
 ⟨hA.1,fun G w xs vs r hl hg hp hv hs=>hs.elim (hA.2.1 G w xs vs r hl hg hp hv) (hB.2.1 G w xs vs r hl hg hp hv),fun R hR=>(by cases hR),fun R hR=>(by cases hR)⟩
theorem zSO {P:Program}{f:Nat}{A B:List AV->Ret->Prop} (hA:PSound P f (zAn A)) (h:∀ xs r,B xs r->A xs r):PSound P f (zAn B) :=
 ⟨hA.1,fun G w xs vs r hl hg hp hv hs=>hA.2.1 G w xs vs r hl hg hp hv (h xs r hs),fun R hR=>(by cases hR),fun R hR=>(by cases hR)⟩
def zIv (n:Nat) (xs:List AV) (r:Ret):Prop:=∃ (a0:(zO8×List Nd)) (y0:List Nd) (y1:Int),zA5 n a0=some (y0,y1)/\xs=[.agg ((zAC a0).map .s)]/\r = .val (.tup [.s (.sl 4 (Nd.encs y0)),.s (.int .i64 y1)])
def zFm:zAp:=zAn fun xs r=>∃ n,zIv n xs r
theorem zH3:PSound Tryz.prog 183 zFm :=
 zSO (zVe zGc zGb) fun xs r ⟨n,a,y,z,hm,hx,hr⟩=>by
  unfold zA5 at hm;split at hm
  ·rename_i q hq
   obtain rfl:=Option.some.inj hm;exact .inl ⟨a,y,z,hq,hx,hr⟩
  ·exact .inr ⟨n,a,y,z,hm,hx,hr⟩
def zI2 (n:Nat) (xs:List AV) (r:Ret):Prop:=∃ (a0:(zO8×List Nd)) (y0:List Nd) (y1:Int),zB6 n a0=some (y0,y1)/\xs=[.agg ((zAC a0).map .s)]/\r = .val (.tup [.s (.sl 4 (Nd.encs y0)),.s (.int .i64 y1)])
def zFK:zAp:=zAn fun xs r=>∃ n,zI2 n xs r
theorem zIA:PSound Tryz.prog 147 zFK:=by
 have gok:∀ f s,look? f [(179,zFj),(180,zFk),(181,zFl),(182,zGd),(183,zFm),(184,zGK)]=some s->PSound Tryz.prog f s:=zAl (by
  simp only[List.forall_mem_cons]
  exact⟨zH0,zH1,zH2,zJi,zH3,zJ1,by simp⟩)
 refine zAo tokW Tryz.call147 Tryz.func147 rfl (fun xs r h=>by obtain⟨n,_,_,_,_,rfl,_⟩:=h; show 1<=41; decide) 41 rfl ?_;rintro xs r w0 G0 ⟨n,⟨⟨c1Y,c1Ag,c1J,c1Z,c1U,c1X,c1Af,c1Aa⟩,c1K⟩,y0,y1,h,rfl,rfl⟩ _;rw[zB6]at h;refine zYc ?_;refine zAa ?_;refine zYc ?_;obtain⟨y2,hy2,h⟩:=zAc h;refine⟨_,⟨_,_,hy2,rfl,rfl⟩,?_⟩
 refine zYc ?_;refine zAg rfl h (fun hb h=>?_) (fun hb h=>?_)
 ·refine zYc ?_;refine zAd ?_;obtain⟨hj1,hk1⟩:=pij h;subst hj1 hk1;exact fin0 rfl rfl
 ·refine zAe ?_;refine zAa ?_;refine zYc ?_;refine zAj ?_;refine zYc ?_;refine zAg rfl h (fun hb h=>?_) (fun hb h=>?_)
  ·refine zYc ?_;obtain⟨⟨y3,y4⟩,hy3,h⟩:=zAc h;refine⟨_,⟨_,_,_,_,hy3,rfl,rfl⟩,?_⟩
   refine zAd ?_;obtain⟨hj1,hk1⟩:=pij h;subst hj1 hk1;exact fin0 rfl rfl
  ·refine zYc ?_;refine zAg rfl h (fun hb h=>?_) (fun hb h=>?_)
   ·refine zYc ?_;obtain⟨⟨y5,y6⟩,hy5,h⟩:=zAc h;refine⟨_,⟨_,_,_,_,hy5,rfl,rfl⟩,?_⟩
    refine zAd ?_;obtain⟨hj1,hk1⟩:=pij h;subst hj1 hk1;exact fin0 rfl rfl
   ·refine zYc ?_;refine zAg rfl h (fun hb h=>?_) (fun hb h=>?_)
    ·refine zYc ?_;obtain⟨⟨y7,y8⟩,hy7,h⟩:=zAc h;refine⟨_,⟨_,_,_,_,hy7,rfl,rfl⟩,?_⟩
     refine zAd ?_;obtain⟨hj1,hk1⟩:=pij h;subst hj1 hk1;exact fin0 rfl rfl
    ·refine zYc ?_;refine zAg rfl h (fun hb h=>?_) (fun hb h=>?_)
     ·refine zYc ?_;obtain⟨⟨y9,y10⟩,hy9,h⟩:=zAc h;refine⟨_,⟨_,_,_,_,hy9,rfl,rfl⟩,?_⟩
      refine zAd ?_;obtain⟨hj1,hk1⟩:=pij h;subst hj1 hk1;exact fin0 rfl rfl
     ·refine zAe ?_;refine zYc ?_;obtain⟨⟨y11,y12⟩,hy11,h⟩:=zAc h;refine⟨_,⟨_,_,_,_,hy11,rfl,rfl⟩,?_⟩
      refine zAd ?_;obtain⟨hj1,hk1⟩:=pij h;subst hj1 hk1;exact fin0 rfl rfl
def zQf (n:Nat) (xs:List AV) (r:Ret):Prop:=∃ (a0:Nd) (a1:zO8) (y0:Nd) (y1:Int),zEf n a0 a1=some (y0,y1)/\xs=[.agg ((Nd.enc a0).map .s),.agg ((zAs a1).map .s)]/\r = .val (.tup [.agg ((Nd.enc y0).map .s),.s (.int .i64 y1)])
def zKN:zAp:=zAn fun xs r=>∃ n,zQf n xs r
theorem zPu:PSound Tryz.prog 111 zKN:=by
 have gok:∀ f s,look? f [(73,zCK),(145,zJG),(146,zN6),(147,zFK),(148,zLX)]=some s->PSound Tryz.prog f s:=zAl (by
  simp only[List.forall_mem_cons]
  exact⟨zCY,zNO,zSD,zIA,zRk,by simp⟩)
 refine zAo tokW Tryz.call111 Tryz.func111 rfl (fun xs r h=>by obtain⟨n,_,_,_,_,_,rfl,_⟩:=h; show 2<=53; decide) 53 rfl ?_;rintro xs r w0 G0 ⟨n,⟨n1A,n1B,n1D,n1C⟩,⟨op2A,op2N,op2I,op2M,op2G,op2L,op2O,op2B⟩,y0,y1,h,rfl,rfl⟩ _;rw[zEf]at h;refine zXw [4] [] rfl ?_;refine zAa ?_;refine zYc ?_;obtain⟨y3,hy3,h⟩:=zAc h;refine⟨_,⟨_,_,_,hy3,rfl,rfl⟩,?_⟩
 refine zAg rfl h (fun hb h=>?_) (fun hb h=>?_)
 ·refine zYc ?_;refine zAd ?_;obtain⟨hj1,hk1⟩:=pij h;subst hj1 hk1;exact fin0 rfl rfl
 ·refine zAe ?_;refine zAa ?_;refine zYc ?_;obtain⟨y4,hy4,h⟩:=zAc h;refine⟨_,⟨_,_,_,hy4,rfl,rfl⟩,?_⟩
  refine zAg rfl h (fun hb h=>?_) (fun hb h=>?_)
  ·refine zYc ?_;refine zAd ?_;obtain⟨hj1,hk1⟩:=pij h;subst hj1 hk1;exact fin0 rfl rfl
  ·refine zAe ?_;refine zXw [6] [] rfl ?_;obtain⟨⟨⟨y5A,y5B,y5D,y5C⟩,y6⟩,hy5,h⟩:=zAc h;refine⟨_,⟨_,_,_,_,_,hy5,rfl,rfl⟩,?_⟩
   refine zAa ?_;refine zYc ?_;refine zAg rfl h (fun hb h=>?_) (fun hb h=>?_)
   ·refine zYc ?_;refine zAd ?_;obtain⟨hj1,hk1⟩:=pij h;subst hj1 hk1;exact fin0 rfl rfl
   ·refine zAe ?_;refine zYc ?_;obtain⟨⟨y7,y8⟩,hy7,h⟩:=zAc h;refine⟨_,⟨_,_,_,_,hy7,rfl,rfl⟩,?_⟩
    refine zAa ?_;refine zYc ?_;refine zAg rfl h (fun hb h=>?_) (fun hb h=>?_)
    ·refine zYc ?_;refine zAd ?_;obtain⟨hj1,hk1⟩:=pij h;subst hj1 hk1;exact fin0 rfl rfl
    ·refine zAe ?_;refine zXw [8] [] rfl ?_;obtain⟨⟨⟨y9A,y9B,y9D,y9C⟩,y10⟩,hy9,h⟩:=zAc h;refine⟨_,⟨_,_,_,_,_,_,hy9,rfl,rfl⟩,?_⟩
     refine zAi (Le.giveBox 2 [.int .i64 y9A,.str y9B,.int .i64 y9D,.sl 4 (Nd.encs y9C)] rfl rfl) ?_;refine zAa ?_;refine zYc ?_;refine zAg rfl h (fun hb h=>?_) (fun hb h=>?_)
     ·refine zYc ?_;refine zAd ?_;obtain⟨hj1,hk1⟩:=pij h;subst hj1 hk1;exact fin0 rfl rfl
     ·refine zAe ?_;refine zYc ?_;refine zAd ?_;obtain⟨hj1,hk1⟩:=pij h;subst hj1 hk1;exact fin0 rfl rfl
def zLP (n:Nat) (xs:List AV) (r:Ret):Prop:=∃ (a0:Nd) (a1:List zO8) (y0:Nd) (y1:Int) (y2:Int),zBF n a0 a1=some (y0,y1,y2)/\xs=[.agg ((Nd.enc a0).map .s),.s (.sl 8 ((List.map zAs) a1))]/\r = .val (.tup [.agg ((Nd.enc y0).map .s),.s (.int .i64 y1),.s (.int .i64 y2)])
def zHG:zAp:=zAn fun xs r=>∃ n,zLP n xs r
theorem zLv:PSound Tryz.prog 74 zHG:=by
 have gok:∀ f s,look? f [(73,zCK),(53,zFI),(111,zKN)]=some s->PSound Tryz.prog f s:=zAl (by
  simp only[List.forall_mem_cons]
  exact⟨zCY,zGp,zPu,by simp⟩)
 refine zAo tokW Tryz.call74 Tryz.func74 rfl (fun xs r h=>by obtain⟨n,_,_,_,_,_,_,rfl,_⟩:=h; show 2<=39; decide) 39 rfl ?_;rintro xs r w0 G0 ⟨n,⟨n1A,n1B,n1D,n1C⟩,ops2,y0,y1,y2,h,rfl,rfl⟩ _;rw[zBF]at h;refine zXw [4] [] rfl ?_;refine zAa ?_;refine zYc ?_;obtain⟨y3,hy3,h⟩:=zAc h;refine⟨_,⟨_,_,_,hy3,rfl,rfl⟩,?_⟩
 refine zAg rfl h (fun hb h=>?_) (fun hb h=>?_)
 ·refine zYc ?_;refine zAd ?_;obtain⟨hj1,hk1⟩:=pij h;subst hj1;obtain⟨hj2,hk2⟩:=Prod.mk.inj hk1;subst hj2;subst hk2;exact fin0 rfl rfl
 ·refine zAe ?_;refine zXw [7] [] rfl ?_;obtain⟨⟨y4A,y4B,y4D,y4C⟩,hy4,h⟩:=zAc h;refine⟨_,⟨_,_,hy4,rfl,rfl⟩,?_⟩
  refine zAa ?_;refine zXw [] [19] rfl ?_;intro n5 hn5;obtain rfl:(ops2.length:Int)=n5:=(hn5.trans (congrArg (fun m:Nat=>(m:Int)) (rlen (fun _=>rfl) ops2))).symm;show Tri ..;obtain⟨fl,hl,ho1⟩:=zAc h;refine zBO (fl:=fl) (fun z=>match z with | ⟨x12,x13,x14,x15⟩=>⟨ofL [(4,.op 0 0),(7,.op 1 0)],ofH [(0,.box 24 [.s (.int .i64 0),.s (.str []),.s (.int .i64 0),.nl 4]),(1,.box 24 [.s (.int .i64 x12),.s (.str x13),.s (.int .i64 x14),.s (.sl 4 (Nd.encs x15))])],2⟩) ?_ (fun z σ' hz hle=>?_)
  ·refine zAj (zAt (X:=Nat×Int×(List UInt8)×Int×(List Nd)×Int) (fun y=>match y with | (k,x7,x8,x9,x10,x11)=>⟨ofL [(4,.op 0 0),(7,.op 1 0),(18,.s (.sl 8 ((List.map zAs) ops2))),(19,.s (.int .i64 (ops2.length:Int))),(20,.s (.int .i64 x11))],ofH [(0,.box 24 [.s (.int .i64 0),.s (.str []),.s (.int .i64 0),.nl 4]),(1,.box 24 [.s (.int .i64 x7),.s (.str x8),.s (.int .i64 x9),.s (.sl 4 (Nd.encs x10))])],2⟩) (fun y=>zAW n ops2 y.1 y.2.1 y.2.2.1 y.2.2.2.1 y.2.2.2.2.1 y.2.2.2.2.2=some fl) (fun y=>y.1) (n,y4A,y4B,y4D,y4C,0) hl ?_ ?_)
   ·exact(Le.rnm [(0,0),(1,1)] _ _ _ ⟨rfl,rfl,rfl,rfl,rfl,trivial⟩ ⟨rfl,⟨_,rfl,rfl⟩,rfl,⟨_,rfl,rfl⟩,trivial⟩)
   ·rintro⟨k,x7,x8,x9,x10,x11⟩ h;cases k with
    | zero=>cases h
    | succ k =>
     replace h:zAW n ops2 (k+1) x7 x8 x9 x10 x11=some fl:=h;rw[zAW]at h;refine zYc ?_;refine zAa ?_;refine zAg rfl h (fun hb h=>?_) (fun hb h=>?_)
     ·refine zAe ?_;refine zAa ?_;refine zAj ?_;refine zXw [9] [23] rfl ?_;obtain⟨⟨e16A,e16N,e16I,e16M,e16G,e16L,e16O,e16B⟩,he16,h⟩:=zAc h;refine And.intro (zAr (fun _=>rfl) he16).1 ?_;intro r17 hr17;obtain rfl:[.int .i64 e16A,.sl 1 ((List.map (irow .i64)) e16N),.int .i64 e16I,.int .i64 e16M,.sl 4 (Nd.encs e16G),.int .i64 e16L,.str e16O,.str e16B]=r17:=(hr17.trans (zAr (fun _=>rfl) he16).2.1).symm;show Tri ..
      refine zAi (Le.giveBox 2 [.int .i64 e16A,.sl 1 ((List.map (irow .i64)) e16N),.int .i64 e16I,.int .i64 e16M,.sl 4 (Nd.encs e16G),.int .i64 e16L,.str e16O,.str e16B] rfl rfl) ?_;refine zXw [10] [] rfl ?_;obtain⟨⟨⟨y18A,y18B,y18D,y18C⟩,y19⟩,hy18,h⟩:=zAc h;refine⟨_,⟨_,_,_,_,_,hy18,rfl,rfl⟩,?_⟩
      refine zAi (Le.giveBox 3 [.int .i64 y18A,.str y18B,.int .i64 y18D,.sl 4 (Nd.encs y18C)] rfl rfl) ?_;refine zAa ?_;refine zYc ?_;refine zAg rfl h (fun hb h=>?_) (fun hb h=>?_)
      ·refine zYc ?_;refine zAd ?_;cases h;replace h:some _=some _:=ho1;obtain⟨hj1,hk1⟩:=pij h;subst hj1;obtain⟨hj2,hk2⟩:=Prod.mk.inj hk1;subst hj2;subst hk2;exact fin0 rfl rfl
      ·refine zAe ?_;refine zYb ?_;refine zYb ?_;refine⟨(k,y18A,y18B,y18D,y18C,IntKind.i64.wrap (x11+1)),h,(Le.rnm [(0,0),(1,1)] _ _ _ ⟨rfl,rfl,rfl,rfl,rfl,trivial⟩ ⟨rfl,⟨_,rfl,rfl⟩,rfl,⟨_,rfl,rfl⟩,trivial⟩),Nat.lt_succ_self k⟩
     ·refine zAx ?_;cases h;exact⟨_,rfl,(Le.rnm [(0,0),(1,1)] _ _ _ ⟨rfl,rfl,trivial⟩ ⟨rfl,⟨_,rfl,rfl⟩,rfl,⟨_,rfl,rfl⟩,trivial⟩)⟩
  ·subst hz;obtain⟨x12,x13,x14,x15⟩:=z;replace h:=ho1;refine zAi hle ?_;refine zYc ?_;refine zAd ?_;obtain⟨hj1,hk1⟩:=pij h;subst hj1;obtain⟨hj2,hk2⟩:=Prod.mk.inj hk1;subst hj2;subst hk2;exact fin0 rfl rfl
end Go.Proofs.YtgplhldfbkmmgaaGreat
namespace Go.Abs
variable {c:Cx} {σ:St}
theorem Le.ofA (k:Nat){e sz:Nat}{rows:List (List AV)} (rs:List (List S)) (hk:σ.hp k=some (.arow e sz rows)) (hs:zG6 rows=some rs):Le c σ (zFh σ k (.row e sz rs)):=by
 unfold Le;intro G β a w hc;obtain⟨s1,s2,s3⟩:=zOJ hs;have hget:∀ {j o},(zFh σ k (.row e sz rs)).hp j=some o->(j=k/\o = .row e sz rs)∨(j ≠ k/\σ.hp j=some o):=fun {j o} h=>by
  simp only[zFh]at h;cases hq:Nat.beq j k with
  | true=>rw[hq,cond_true]at h; cases h; exact .inl ⟨Nat.eq_of_beq_eq_true hq,rfl⟩
  | false=>rw[hq,cond_false]at h; exact .inr ⟨Nat.ne_of_beq_eq_false hq,h⟩
 have hget':∀ {j o},(zFh σ k (.row e sz rs)).hp j=some o->∃ o',σ.hp j=some o':=fun {j o} h=>by
  rcases hget h with ⟨rfl,_⟩ | ⟨_,h⟩
  ·exact⟨_,hk⟩
  ·exact⟨_,h⟩
 refine⟨G,β,{ hc with hp:=fun j o hj=>?_,hplt:=fun j o hj=>?_,inj:=fun j j' o o' hj hj'=>(let ⟨_,h1⟩:=hget' hj; let ⟨_,h2⟩:=hget' hj'; hc.inj j j' _ _ h1 h2) }⟩
 ·rcases hget hj with ⟨rfl,rfl⟩ | ⟨_,h⟩
  ·obtain⟨hlen,hsz,ho⟩:=hc.hp j _ hk;refine⟨fun r hr=>s3 sz hlen r hr,hsz,ho.imp (fun h=>⟨h.1,by have:=h.2; subst this; exact List.length_eq_zero_iff.1 (by simpa using s2.symm)⟩) ?_⟩
   rintro⟨b,cap,cur,h1,h2,h3,h4,h5,h6,h7⟩
   refine⟨b,cap,cur,by rw[← s2]; exact h1,by rw[← s2]; exact h2,h3,h4,h5,h6,fun i s hi=>?_⟩
   have hm:(rows.flatten.map AV.sc)[i]? = some (some s) :=(by rw[s1,List.getElem?_map,hi]; rfl);rw[List.getElem?_map]at hm;obtain⟨x,hx,hxs⟩:=Option.map_eq_some_iff.1 hm;obtain⟨u,hu,hr,_⟩:=h7 i x hx;exact⟨u,hu,AV.sc_rep hxs hr⟩
  ·exact hc.hp j o h
 ·rcases hget hj with ⟨rfl,rfl⟩ | ⟨_,h⟩
  ·exact⟨(hc.hplt j _ hk).1,rfl⟩
  ·exact hc.hplt j o h
theorem zVy:∀ r:List S,zKH (r.map AV.s)=some r
 | []=>rfl
 | x::r=>by simp[zKH,AV.sc,zVy r]
theorem zTF:∀ rows:List (List S),zG6 (rows.map (·.map AV.s))=some rows
 | []=>rfl
 | r::rows=>by simp[zG6,zVy r,zTF rows]
theorem zKb:∀ {a b:List (List AV)}{x y:List (List S)},zG6 a=some x->zG6 b=some y->zG6 (a++b)=some (x++y)
 | [],b,x,y,h,h'=>by
  simp only[zG6,Option.some.injEq]at h;subst h;exact h'
 | r::a,b,x,y,h,h'=>by
  simp only[zG6]at h;split at h
  ·rename_i z zs h1 h2
   cases h;simp[zG6,h1,zKb h2 h']
  ·cases h
theorem zTk {k:Nat}{r:AV}{p:Nat->AV}:∀ l:List S,AV.frzAll k r p (l.map AV.s)=l.map AV.s
 | []=>rfl
 | x::l=>by simp[AV.frzAll,AV.frz,zTk l]
theorem zT0 {k:Nat}{r:AV}{p:Nat->AV} (rows:List (List S)):(rows.map (·.map AV.s)).map (AV.frzAll k r p)=rows.map (·.map AV.s):=by
 rw[List.map_map]
 exact List.map_congr_left fun l _=>zTk l
end Go.Abs
namespace Go.Proofs.YtgplhldfbkmmgaaGreat
open Go.Abs
def zLR (xs:List AV) (os:List Ob) (x:AV) (os':List (Option Ob)):Prop:=∃ (y0:CV),zBg=some y0/\xs=[.orow 0]/\os=[.row 68 4 []]/\x = .agg (match y0 with | .mk k i t _=>[.s (.int .i64 k),.s (.int .i64 i),.s (.str t),.orow 1])/\os'=[none,some (.row 68 4 (match y0 with | .mk _ _ _ l=>CV.encs l))]
def zDk:zAp:=zEO (fun xs os x os'=>zLR xs os x os') (some 0)
theorem zD2:PSound Tryz.prog 58 zDk:=by
 have gok:=@gok0 Tryz.prog;refine PSound.withNil (zRC tokW Tryz.call58 Tryz.func58 rfl (fun xs os x os' h=>by obtain⟨_,_,rfl,rfl,_,rfl⟩:=h; exact⟨by show 1<=5; decide,by show 1<=2; decide⟩) 5 rfl ?_) _;rintro xs os x os' w0 G0 B0 ⟨y0,h,rfl,rfl,rfl,rfl⟩ _;rw[zBg]at h;cases h;refine zXw [2] [] rfl ?_;refine zYc ?_;refine zAd ?_;unfold zFi
 exact⟨_,(Le.rnm [(0,1),(1,2)] [(2,.op 2 0)] [(1,.row 68 4 []),(2,.box 68 [.s (.int .i64 3),.s (.int .i64 0),.s (.str []),.orow 1])] 3 ⟨rfl,trivial⟩ ⟨rfl,⟨_,rfl,rfl⟩,rfl,⟨_,rfl,rfl⟩,trivial⟩),rfl,rfl,rfl,rfl,trivial⟩
def zEk (n:Nat) (xs:List AV) (r:Ret):Prop:=∃ (a0:CV) (a1:Int) (y0:Bool),zBV n a0 a1=some y0/\xs=[.s (.pt (CV.enc a0)),.s (.int .i64 a1)]/\r = .val (.s (.bool y0))
theorem zLC (n:Nat) (ih:PSound Tryz.prog 99 (zAn (zEk n))):PSound Tryz.prog 99 (zAn (zEk (n+1))):=by
 have gok:∀ f s,look? f [(99,zAn (zEk n))]=some s->PSound Tryz.prog f s:=zAl (by
  simp only[List.forall_mem_cons]
  exact⟨ih,by simp⟩)
 refine zAo tokW Tryz.call99 Tryz.func99 rfl (fun xs r h=>by obtain⟨_,_,_,_,rfl,_⟩:=h; show 2<=75; decide) 75 rfl ?_;rintro xs r w0 G0 ⟨⟨a1A,a1F,a1B,a1E⟩,a2,y0,h,rfl,rfl⟩ _;rw[zBV]at h;refine zYc ?_;refine zAa ?_;refine zYc ?_;refine zAg rfl h (fun hb h=>?_) (fun hb h=>?_)
 ·refine zYc ?_;refine zAd ?_;have hy:=osi h;subst hy;exact fin0 rfl rfl
 ·refine zAe ?_;refine zAa ?_;refine zYc ?_;refine zAj ?_;refine zYc ?_;refine zAg rfl h (fun hb h=>?_) (fun hb h=>?_)
  ·refine zAa ?_;obtain⟨x3,hj,h⟩:=zAc h;refine zAk ⟨ofL [(4,.s (.bool x3))],fun _=>none,0⟩ ?_ (fun σ' hle=>?_)
   ·replace h:=hj;refine zAb [] [19,24] rfl ?_;intro b hb;cases b with
    | true =>
     replace h:=zAv hb.symm h;intro n4 hn4;obtain rfl:(a1E.length:Int)=n4:=(hn4.trans (congrArg (fun m:Nat=>(m:Int)) (rlen CV.encs_eq a1E))).symm;cases h;exact(Le.forget _ ⟨rfl,trivial⟩)
    | false =>
     replace h:=zAu hb.symm h;cases h;exact(Le.forget _ ⟨rfl,trivial⟩)
   ·refine zAi hle ?_;refine zAd ?_;have hy:=osi h;subst hy;exact fin0 rfl rfl
  ·refine zYc ?_;refine zAg rfl h (fun hb h=>?_) (fun hb h=>?_)
   ·refine zAa ?_;obtain⟨x5,hj,h⟩:=zAc h;refine zAk ⟨ofL [(4,.s (.bool x5))],fun _=>none,0⟩ ?_ (fun σ' hle=>?_)
    ·replace h:=hj;refine zAb [] [34,39] rfl ?_;intro b hb;cases b with
     | true =>
      replace h:=zAv hb.symm h;intro n6 hn6;obtain rfl:(a1E.length:Int)=n6:=(hn6.trans (congrArg (fun m:Nat=>(m:Int)) (rlen CV.encs_eq a1E))).symm;cases h;exact(Le.forget _ ⟨rfl,trivial⟩)
     | false =>
      replace h:=zAu hb.symm h;cases h;exact(Le.forget _ ⟨rfl,trivial⟩)
    ·refine zAi hle ?_;refine zAd ?_;have hy:=osi h;subst hy;exact fin0 rfl rfl
   ·refine zYc ?_;refine zAg rfl h (fun hb h=>?_) (fun hb h=>?_)
    ·refine zAa ?_;refine zAa ?_;obtain⟨x7,hj,h⟩:=zAc h;refine zAk ⟨ofL [(0,.s (.pt [.int .i64 a1A,.int .i64 a1F,.str a1B,.sl 4 (CV.encs a1E)])),(1,.s (.int .i64 a2)),(55,.s (.bool x7))],fun _=>none,0⟩ ?_ (fun σ' hle=>?_)
     ·replace h:=hj;refine zAb [] [49] rfl ?_;intro b hb;cases b with
      | true =>
       replace h:=zAv hb.symm h;cases h;exact(Le.forget _ ⟨rfl,rfl,rfl,trivial⟩)
      | false =>
       replace h:=zAu hb.symm h;cases h;exact(Le.forget _ ⟨rfl,rfl,rfl,trivial⟩)
     ·refine zAi hle ?_;refine zAg rfl h (fun hb h=>?_) (fun hb h=>?_)
      ·refine zYc ?_;refine zAd ?_;have hy:=osi h;subst hy;exact fin0 rfl rfl
      ·refine zAe ?_;refine zAa ?_;refine zXw [] [60] rfl ?_;intro n8 hn8;obtain rfl:(a1E.length:Int)=n8:=(hn8.trans (congrArg (fun m:Nat=>(m:Int)) (rlen CV.encs_eq a1E))).symm;show Tri ..;obtain⟨fl,hl,ho1⟩:=zAc h;refine zBO (fl:=fl) (fun z=>match z with | _=>⟨ofL [],fun _=>none,0⟩) ?_ (fun z σ' hz hle=>?_)
       ·refine zAj (zAt (X:=Nat×Int) (fun y=>match y with | (k,x9)=>⟨ofL [(0,.s (.pt [.int .i64 a1A,.int .i64 a1F,.str a1B,.sl 4 (CV.encs a1E)])),(1,.s (.int .i64 a2)),(60,.s (.int .i64 (a1E.length:Int))),(61,.s (.int .i64 x9))],fun _=>none,0⟩) (fun y=>zBj (zBV n) a1E a2 y.1 y.2=some fl) (fun y=>y.1) (n,0) hl ?_ ?_)
        ·exact(Le.forget _ ⟨rfl,rfl,rfl,rfl,trivial⟩)
        ·rintro⟨k,x9⟩ h;cases k with
         | zero=>cases h
         | succ k =>
          replace h:zBj (zBV n) a1E a2 (k+1) x9=some fl:=h;rw[zBj]at h;refine zYc ?_;refine zAa ?_;refine zAg rfl h (fun hb h=>?_) (fun hb h=>?_)
          ·refine zAe ?_;refine zAa ?_;refine zAj ?_;refine zYc ?_;refine zXw [] [69] rfl ?_;obtain⟨⟨e10A,e10F,e10B,e10E⟩,he10,h⟩:=zAc h;refine And.intro (zAr CV.encs_eq he10).1 ?_;intro r11 hr11;obtain rfl:[.int .i64 e10A,.int .i64 e10F,.str e10B,.sl 4 (CV.encs e10E)]=r11:=(hr11.trans (zAr CV.encs_eq he10).2.1).symm;obtain⟨y12,hy12,h⟩:=zAc h;refine⟨_,⟨_,_,_,hy12,rfl,rfl⟩,?_⟩
           refine zAg rfl h (fun hb h=>?_) (fun hb h=>?_)
           ·refine zYc ?_;refine zAd ?_;cases h;replace h:some _=some _:=ho1;have hy:=osi h;subst hy;exact fin0 rfl rfl
           ·refine zAe ?_;refine zYb ?_;refine⟨(k,IntKind.i64.wrap (x9+1)),h,(Le.forget _ ⟨rfl,rfl,rfl,rfl,trivial⟩),Nat.lt_succ_self k⟩
          ·refine zAx ?_;cases h;exact⟨_,rfl,(Le.forget _ trivial)⟩
       ·subst hz;obtain _:=z;replace h:=ho1;refine zAi hle ?_;refine zYc ?_;refine zAd ?_;have hy:=osi h;subst hy;exact fin0 rfl rfl
    ·refine zAe ?_;refine zYc ?_;refine zAd ?_;have hy:=osi h;subst hy;exact fin0 rfl rfl
theorem zMe:∀ n,PSound Tryz.prog 99 (zAn (zEk n)):=by
 intro n
 induction n with
 | zero=>exact zA7 Tryz.call99 (fun xs r h=>by obtain⟨_,_,_,h,_⟩:=h; cases h)
 | succ n ih=>exact zLC n ih
def zJF:zAp:=zAn fun xs r=>∃ n,zEk n xs r
theorem zNN:PSound Tryz.prog 99 zJF:=zBr zMe
def zOU (n:Nat) (xs:List AV) (r:Ret):Prop:=∃ (a0:CV) (y0:Bool),zEp n a0=some y0/\xs=[.agg ((CV.enc a0).map .s)]/\r = .val (.s (.bool y0))
def zJE:zAp:=zAn fun xs r=>∃ n,zOU n xs r
theorem zNM:PSound Tryz.prog 56 zJE:=by
 have gok:∀ f s,look? f [(99,zJF)]=some s->PSound Tryz.prog f s:=zAl (by
  simp only[List.forall_mem_cons]
  exact⟨zNN,by simp⟩)
 refine zAo tokW Tryz.call56 Tryz.func56 rfl (fun xs r h=>by obtain⟨n,_,_,_,rfl,_⟩:=h; show 1<=4; decide) 4 rfl ?_;rintro xs r w0 G0 ⟨n,⟨v1A,v1F,v1B,v1E⟩,y0,h,rfl,rfl⟩ _;rw[zEp]at h;refine zYc ?_;refine zYc ?_;obtain⟨y2,hy2,h⟩:=zAc h;refine⟨_,⟨_,_,_,_,hy2,rfl,rfl⟩,?_⟩
 refine zAd ?_;have hy:=osi h;subst hy;exact fin0 rfl rfl
def zNq (xs:List AV) (r:Ret):Prop:=∃ (a0:CV) (y0:Int),zC7 a0=some y0/\xs=[.s (.pt (CV.enc a0))]/\r = .val (.s (.int .u64 y0))
def zII:zAp:=zAn fun xs r=>zNq xs r
theorem zMH:PSound Tryz.prog 135 zII:=by
 have gok:=@gok0 Tryz.prog;refine zAo tokW Tryz.call135 Tryz.func135 rfl (fun xs r h=>by obtain⟨_,_,_,rfl,_⟩:=h; show 1<=48; decide) 48 rfl ?_;rintro xs r w0 G0 ⟨⟨v1A,v1F,v1B,v1E⟩,y0,h,rfl,rfl⟩ _;rw[zC7]at h;refine zYc ?_;refine zAa ?_;refine zAj ?_;refine zYc ?_;refine zAg rfl h (fun hb h=>?_) (fun hb h=>?_)
 ·refine zYc ?_;refine zAd ?_;have hy:=osi h;subst hy;exact fin0 rfl rfl
 ·refine zYc ?_;refine zAg rfl h (fun hb h=>?_) (fun hb h=>?_)
  ·refine zXw [] [25] rfl ?_;intro n2 hn2;obtain rfl:(v1E.length:Int)=n2:=(hn2.trans (congrArg (fun m:Nat=>(m:Int)) (rlen CV.encs_eq v1E))).symm;refine zAd ?_;have hy:=osi h;subst hy;exact fin0 rfl rfl
  ·refine zYc ?_;refine zAg rfl h (fun hb h=>?_) (fun hb h=>?_)
   ·refine zYc ?_;refine zAd ?_;have hy:=osi h;subst hy;exact fin0 rfl rfl
   ·refine zAe ?_;refine zYc ?_;refine zAd ?_;have hy:=osi h;subst hy;exact fin0 rfl rfl
def zLM (n:Nat) (xs:List AV) (r:Ret):Prop:=∃ (a0:Int) (y0:Int),zDn n a0=some y0/\xs=[.s (.int .u64 a0)]/\r = .val (.s (.int .i64 y0))
def zHE:zAp:=zAn fun xs r=>∃ n,zLM n xs r
theorem zLt:PSound Tryz.prog 136 zHE:=by
 have gok:=@gok0 Tryz.prog;refine zAo tokW Tryz.call136 Tryz.func136 rfl (fun xs r h=>by obtain⟨n,_,_,_,rfl,_⟩:=h; show 1<=13; decide) 13 rfl ?_;rintro xs r w0 G0 ⟨n,n1,y0,h,rfl,rfl⟩ _;rw[zDn]at h;refine zYc ?_;refine zYc ?_;refine zAa ?_;refine zYc ?_;refine And.intro (by decide) ?_;show Tri ..;obtain⟨k4,hl,h⟩:=zAc h;refine zAk ⟨ofL [(3,.s (.int .i64 k4))],fun _=>none,0⟩ ?_ (fun σ' hle=>?_)
 ·refine zAj (zAt (X:=Nat×Int×Int) (fun y=>match y with | (k,n2,k3)=>⟨ofL [(0,.s (.int .u64 n2)),(3,.s (.int .i64 k3))],fun _=>none,0⟩) (fun y=>zAU  y.1 y.2.1 y.2.2=some k4) (fun y=>y.1) (n,n1.fdiv (2 ^ (min (8:Int).toNat IntKind.u64.bits)),1) hl ?_ ?_)
  ·exact(Le.forget _ ⟨rfl,rfl,trivial⟩)
  ·rintro⟨k,n2,k3⟩ h;cases k with
   | zero=>cases h
   | succ k =>
    replace h:zAU  (k+1) n2 k3=some k4:=h;rw[zAU]at h;refine zAa ?_;refine zYc ?_;refine zAg rfl h (fun hb h=>?_) (fun hb h=>?_)
    ·refine zAe ?_;refine zAa ?_;refine zAj ?_;refine zYb ?_;refine zYb ?_;refine And.intro (by decide) ?_;refine⟨(k,n2.fdiv (2 ^ (min (8:Int).toNat IntKind.u64.bits)),IntKind.i64.wrap (k3+1)),h,(Le.forget _ ⟨rfl,rfl,trivial⟩),Nat.lt_succ_self k⟩
    ·refine zAx ?_;cases h;exact(Le.forget _ ⟨rfl,trivial⟩)
 ·refine zAi hle ?_;refine zYc ?_;refine zAd ?_;have hy:=osi h;subst hy;exact fin0 rfl rfl
def zQe (n:Nat) (xs:List AV) (os:List Ob) (x:AV) (os':List (Option Ob)):Prop:=∃ (a0:List UInt8) (a1:CV) (y0:List UInt8),zE3 n a0 a1=some y0/\xs=[.orow 0,.s (.pt (CV.enc a1))]/\os=[.row 5 1 ((List.map brow) a0)]/\x = .orow 1/\os'=[none,some (.row 5 1 ((List.map brow) y0))]
def zKM:zAp:=zEO (fun xs os x os'=>∃ n,zQe n xs os x os') (some 0)
theorem zRK {α:Type}{a b:α} (h:a=b:=by simp[List.map_append,List.map_take,List.map_drop,irow,brow,zEm,List.map_cons,List.map_nil,zDV,Nd.encs_eq,Nd.enc,CV.encs_eq,CV.enc]):a=b :=
 h
theorem zPt:PSound Tryz.prog 100 zKM:=by
 have gok:∀ f s,look? f [(135,zII),(136,zHE)]=some s->PSound Tryz.prog f s:=zAl (by
  simp only[List.forall_mem_cons]
  exact⟨zMH,zLt,by simp⟩)
 refine PSound.withNil (zRC tokW Tryz.call100 Tryz.func100 rfl (fun xs os x os' h=>by obtain⟨n,_,_,_,_,rfl,rfl,_,rfl⟩:=h; exact⟨by show 2<=54; decide,by show 1<=2; decide⟩) 54 rfl ?_) _;rintro xs os x os' w0 G0 B0 ⟨n,b1,⟨v2A,v2F,v2B,v2E⟩,y0,h,rfl,rfl,rfl,rfl⟩ _;rw[zE3]at h;refine zXw [4] [] rfl ?_;refine zAi (Le.rnm [(0,0)] [(0,.orow 0),(1,.s (.pt [.int .i64 v2A,.int .i64 v2F,.str v2B,.sl 4 (CV.encs v2E)]))] [(0,.row 5 1 ((List.map brow) b1))] 1 ⟨rfl,rfl,trivial⟩ ⟨rfl,⟨_,rfl,rfl⟩,trivial⟩) ?_;refine zYc ?_
 obtain⟨y3,hy3,h⟩:=zAc h;refine⟨_,⟨_,_,hy3,rfl,rfl⟩,?_⟩
 refine zAa ?_;refine zYc ?_;refine zAg rfl h (fun hb h=>?_) (fun hb h=>?_)
 ·refine zXw [23] [22] rfl ?_;intro r4 hr4;obtain rfl:(List.map brow) [b8of (IntKind.u8.wrap ((IntKind.u8.wrap (IntKind.i64.wrap (64 * v2A)))+(IntKind.u8.wrap y3)))]=r4:=(hr4.trans zRK).symm;obtain⟨hq,h⟩:=zAy h
  refine And.intro (show(((List.map brow) b1).length+((List.map brow) [b8of (IntKind.u8.wrap ((IntKind.u8.wrap (IntKind.i64.wrap (64 * v2A)))+(IntKind.u8.wrap y3)))]).length) * 1<=140737488355328/\((List.map brow) b1).length+((List.map brow) [b8of (IntKind.u8.wrap ((IntKind.u8.wrap (IntKind.i64.wrap (64 * v2A)))+(IntKind.u8.wrap y3)))]).length<=9223372036854775807 from by simp only[List.length_append,List.length_cons,List.length_nil,List.length_map,rlen (fun _=>rfl)]at hq ⊢; omega) ?_;show Tri ..
  refine zAi (Le.rnm [(1,1)] [(4,.orow 1)] [(1,.row 5 1 ((List.map brow) (b1++[b8of (IntKind.u8.wrap ((IntKind.u8.wrap (IntKind.i64.wrap (64 * v2A)))+(IntKind.u8.wrap y3)))])))] 2 ⟨rfl,trivial⟩ ⟨rfl,⟨_,rfl,congrArg (Ob.row 5 1) zRK⟩,trivial⟩) ?_;refine zAd ?_;have hy:=osi h;subst hy;unfold zFi
  exact⟨_,(Le.rnm [(1,1)] [(4,.orow 1)] [(1,.row 5 1 ((List.map brow) (b1++[b8of (IntKind.u8.wrap ((IntKind.u8.wrap (IntKind.i64.wrap (64 * v2A)))+(IntKind.u8.wrap y3)))])))] 2 ⟨rfl,trivial⟩ ⟨rfl,⟨_,rfl,rfl⟩,trivial⟩),rfl,rfl,rfl,rfl,trivial⟩
 ·refine zAe ?_;refine zYc ?_;obtain⟨y5,hy5,h⟩:=zAc h;refine⟨_,⟨_,_,_,hy5,rfl,rfl⟩,?_⟩
  refine zXw [38] [37] rfl ?_;intro r6 hr6;obtain rfl:(List.map brow) [b8of (IntKind.u8.wrap (IntKind.i64.wrap ((IntKind.i64.wrap ((IntKind.i64.wrap ((IntKind.i64.wrap (64 * v2A))+56)) - 1))+y5)))]=r6:=(hr6.trans zRK).symm;obtain⟨hq,h⟩:=zAy h
  refine And.intro (show(((List.map brow) b1).length+((List.map brow) [b8of (IntKind.u8.wrap (IntKind.i64.wrap ((IntKind.i64.wrap ((IntKind.i64.wrap ((IntKind.i64.wrap (64 * v2A))+56)) - 1))+y5)))]).length) * 1<=140737488355328/\((List.map brow) b1).length+((List.map brow) [b8of (IntKind.u8.wrap (IntKind.i64.wrap ((IntKind.i64.wrap ((IntKind.i64.wrap ((IntKind.i64.wrap (64 * v2A))+56)) - 1))+y5)))]).length<=9223372036854775807 from by simp only[List.length_append,List.length_cons,List.length_nil,List.length_map,rlen (fun _=>rfl)]at hq ⊢; omega) ?_;show Tri ..
  refine zAi (Le.rnm [(1,1)] [(0,.orow 1),(5,.s (.int .u64 y3)),(6,.s (.int .i64 y5))] [(1,.row 5 1 ((List.map brow) (b1++[b8of (IntKind.u8.wrap (IntKind.i64.wrap ((IntKind.i64.wrap ((IntKind.i64.wrap ((IntKind.i64.wrap (64 * v2A))+56)) - 1))+y5)))])))] 2 ⟨rfl,rfl,rfl,trivial⟩ ⟨rfl,⟨_,rfl,congrArg (Ob.row 5 1) zRK⟩,trivial⟩) ?_;refine zAa ?_;refine zYc ?_;show Tri ..;obtain⟨l10,hl,h⟩:=zAc h
  refine zAk ⟨ofL [(0,.orow 1)],ofH [(1,.row 5 1 ((List.map brow) l10))],2⟩ ?_ (fun σ' hle=>?_)
  ·refine zAj (zAt (X:=Nat×Int×(List UInt8)) (fun y=>match y with | (k,i8,l9)=>⟨ofL [(0,.orow 1),(5,.s (.int .u64 y3)),(7,.s (.int .i64 i8))],ofH [(1,.row 5 1 ((List.map brow) l9))],2⟩) (fun y=>zBE y3 y.1 y.2.1 y.2.2=some l10) (fun y=>y.1) (n,IntKind.i64.wrap (y5 - 1),b1++[b8of (IntKind.u8.wrap (IntKind.i64.wrap ((IntKind.i64.wrap ((IntKind.i64.wrap ((IntKind.i64.wrap (64 * v2A))+56)) - 1))+y5)))]) hl ?_ ?_)
   ·exact(Le.rnm [(1,1)] _ _ _ ⟨rfl,rfl,rfl,trivial⟩ ⟨rfl,⟨_,rfl,rfl⟩,trivial⟩)
   ·rintro⟨k,i8,l9⟩ h;cases k with
    | zero=>cases h
    | succ k =>
     replace h:zBE y3 (k+1) i8 l9=some l10:=h;rw[zBE]at h;refine zAa ?_;refine zYc ?_;refine zAg rfl h (fun hb h=>?_) (fun hb h=>?_)
     ·refine zAe ?_;refine zAa ?_;refine zAj ?_;refine zAb [52] [51] rfl ?_;obtain⟨hq,h⟩:=zAy h;refine And.intro hq ?_;intro r11 hr11;obtain rfl:(List.map brow) [b8of (IntKind.u8.wrap (y3.fdiv (2 ^ (min (IntKind.i64.wrap (8 * i8)).toNat IntKind.u64.bits))))]=r11:=(hr11.trans zRK).symm;obtain⟨hq,h⟩:=zAy h
      refine And.intro (show(((List.map brow) l9).length+((List.map brow) [b8of (IntKind.u8.wrap (y3.fdiv (2 ^ (min (IntKind.i64.wrap (8 * i8)).toNat IntKind.u64.bits))))]).length) * 1<=140737488355328/\((List.map brow) l9).length+((List.map brow) [b8of (IntKind.u8.wrap (y3.fdiv (2 ^ (min (IntKind.i64.wrap (8 * i8)).toNat IntKind.u64.bits))))]).length<=9223372036854775807 from by simp only[List.length_append,List.length_cons,List.length_nil,List.length_map,rlen (fun _=>rfl)]at hq ⊢; omega) ?_;show Tri ..
      refine zAi (Le.rnm [(2,1)] [(0,.orow 1),(5,.s (.int .u64 y3)),(7,.s (.int .i64 i8))] [(1,.row 5 1 ((List.map brow) (l9++[b8of (IntKind.u8.wrap (y3.fdiv (2 ^ (min (IntKind.i64.wrap (8 * i8)).toNat IntKind.u64.bits))))])))] 2 ⟨rfl,rfl,rfl,trivial⟩ ⟨rfl,⟨_,rfl,congrArg (Ob.row 5 1) zRK⟩,trivial⟩) ?_;refine zYb ?_
      refine⟨(k,IntKind.i64.wrap (i8 - 1),l9++[b8of (IntKind.u8.wrap (y3.fdiv (2 ^ (min (IntKind.i64.wrap (8 * i8)).toNat IntKind.u64.bits))))]),h,(Le.rnm [(1,1)] _ _ _ ⟨rfl,rfl,rfl,trivial⟩ ⟨rfl,⟨_,rfl,rfl⟩,trivial⟩),Nat.lt_succ_self k⟩
     ·refine zAx ?_;cases h;exact(Le.rnm [(1,1)] _ _ _ ⟨rfl,trivial⟩ ⟨rfl,⟨_,rfl,rfl⟩,trivial⟩)
  ·refine zAi hle ?_;refine zYc ?_;refine zAd ?_;have hy:=osi h;subst hy;unfold zFi;exact⟨_,(Le.rnm [(1,1)] [(4,.orow 1)] [(1,.row 5 1 ((List.map brow) l10))] 2 ⟨rfl,trivial⟩ ⟨rfl,⟨_,rfl,rfl⟩,trivial⟩),rfl,rfl,rfl,rfl,trivial⟩
def zDU (n:Nat) (xs:List AV) (os:List Ob) (x:AV) (os':List (Option Ob)):Prop:=∃ (a0:List UInt8) (a1:CV) (y0:List UInt8),zBd n a0 a1=some y0/\xs=[.orow 0,.s (.pt (CV.enc a1))]/\os=[.row 5 1 ((List.map brow) a0)]/\x = .orow 1/\os'=[none,some (.row 5 1 ((List.map brow) y0))]
theorem zKI (n:Nat) (ih:PSound Tryz.prog 57 (zEO (zDU n) (some 0))):PSound Tryz.prog 57 (zEO (zDU (n+1)) (some 0)):=by
 have gok:∀ f s,look? f [(100,zKM),(57,zEO (zDU n) (some 0))]=some s->PSound Tryz.prog f s:=zAl (by
  simp only[List.forall_mem_cons]
  exact⟨zPt,ih,by simp⟩)
 refine PSound.withNil (zRC tokW Tryz.call57 Tryz.func57 rfl (fun xs os x os' h=>by obtain⟨_,_,_,_,rfl,rfl,_,rfl⟩:=h; exact⟨by show 2<=50; decide,by show 1<=2; decide⟩) 50 rfl ?_) _;rintro xs os x os' w0 G0 B0 ⟨b1,⟨v2A,v2F,v2B,v2E⟩,y0,h,rfl,rfl,rfl,rfl⟩ _;rw[zBd]at h;refine zXw [4] [] rfl ?_;refine zAi (Le.rnm [(0,0)] [(0,.orow 0),(1,.s (.pt [.int .i64 v2A,.int .i64 v2F,.str v2B,.sl 4 (CV.encs v2E)]))] [(0,.row 5 1 ((List.map brow) b1))] 1 ⟨rfl,rfl,trivial⟩ ⟨rfl,⟨_,rfl,rfl⟩,trivial⟩) ?_;refine zXw [8] [] rfl ?_
 obtain⟨y3,hy3,h⟩:=zAc h;refine⟨_,_,⟨_,_,_,_,hy3,rfl,rfl,rfl,rfl⟩,?_⟩
 refine zAa ?_;refine zYc ?_;refine zAg rfl h (fun hb h=>?_) (fun hb h=>?_)
 ·refine zXw [21] [] rfl ?_;obtain⟨hq,h⟩:=zAy h;refine And.intro hq ?_;obtain⟨hq,h⟩:=zAy h;refine And.intro (show(((List.map brow) y3).length+(List.map brow ((v2B.take (1048577:Int).toNat).drop (0:Int).toNat)).length) * 1<=140737488355328/\((List.map brow) y3).length+(List.map brow ((v2B.take (1048577:Int).toNat).drop (0:Int).toNat)).length<=9223372036854775807 from by simp only[List.length_append,List.length_cons,List.length_nil,List.length_map,rlen (fun _=>rfl)]at hq ⊢; omega) ?_;show Tri ..
  refine zAi (Le.rnm [(2,1)] [(4,.orow 1)] [(1,.row 5 1 ((List.map brow) (y3++((v2B.take (1048577:Int).toNat).drop (0:Int).toNat))))] 2 ⟨rfl,trivial⟩ ⟨rfl,⟨_,rfl,congrArg (Ob.row 5 1) zRK⟩,trivial⟩) ?_;refine zAd ?_;have hy:=osi h;subst hy;unfold zFi;exact⟨_,(Le.rnm [(1,1)] [(4,.orow 1)] [(1,.row 5 1 ((List.map brow) (y3++((v2B.take (1048577:Int).toNat).drop (0:Int).toNat))))] 2 ⟨rfl,trivial⟩ ⟨rfl,⟨_,rfl,rfl⟩,trivial⟩),rfl,rfl,rfl,rfl,trivial⟩
 ·refine zAe ?_;refine zXw [27] [] rfl ?_;obtain⟨hq,h⟩:=zAy h;refine And.intro (show(((List.map brow) y3).length+(List.map brow v2B).length) * 1<=140737488355328/\((List.map brow) y3).length+(List.map brow v2B).length<=9223372036854775807 from by simp only[List.length_append,List.length_cons,List.length_nil,List.length_map,rlen (fun _=>rfl)]at hq ⊢; omega) ?_;show Tri ..
  refine zAi (Le.rnm [(2,1)] [(0,.orow 1),(1,.s (.pt [.int .i64 v2A,.int .i64 v2F,.str v2B,.sl 4 (CV.encs v2E)]))] [(1,.row 5 1 ((List.map brow) (y3++v2B)))] 2 ⟨rfl,rfl,trivial⟩ ⟨rfl,⟨_,rfl,congrArg (Ob.row 5 1) zRK⟩,trivial⟩) ?_;refine zAa ?_;refine zXw [] [32] rfl ?_;intro n4 hn4;obtain rfl:(v2E.length:Int)=n4:=(hn4.trans (congrArg (fun m:Nat=>(m:Int)) (rlen CV.encs_eq v2E))).symm;show Tri ..;obtain⟨fl,hl,ho1⟩:=zAc h
  refine zBO (fl:=fl) (fun z=>match z with | l8=>⟨ofL [(0,.orow 1)],ofH [(1,.row 5 1 ((List.map brow) l8))],2⟩) ?_ (fun l8 σ' hz hle=>?_)
  ·refine zAj (zAt (X:=Nat×Int×(List UInt8)) (fun y=>match y with | (k,x6,l7)=>⟨ofL [(0,.orow 1),(1,.s (.pt [.int .i64 v2A,.int .i64 v2F,.str v2B,.sl 4 (CV.encs v2E)])),(32,.s (.int .i64 (v2E.length:Int))),(33,.s (.int .i64 x6))],ofH [(1,.row 5 1 ((List.map brow) l7))],2⟩) (fun y=>zA3 (zBd n) v2E y.1 y.2.1 y.2.2=some fl) (fun y=>y.1) (n,0,y3++v2B) hl ?_ ?_)
   ·exact(Le.rnm [(1,1)] _ _ _ ⟨rfl,rfl,rfl,rfl,trivial⟩ ⟨rfl,⟨_,rfl,rfl⟩,trivial⟩)
   ·rintro⟨k,x6,l7⟩ h;cases k with
    | zero=>cases h
    | succ k =>
     replace h:zA3 (zBd n) v2E (k+1) x6 l7=some fl:=h;rw[zA3]at h;refine zYc ?_;refine zAa ?_;refine zAg rfl h (fun hb h=>?_) (fun hb h=>?_)
     ·refine zAe ?_;refine zAa ?_;refine zAj ?_;refine zYc ?_;refine zAa ?_;refine zXw [] [37] rfl ?_;intro n9 hn9;obtain rfl:(l7.length:Int)=n9:=(hn9.trans (congrArg (fun m:Nat=>(m:Int)) (rlen (fun _=>rfl) l7))).symm;refine zAg rfl h (fun hb h=>?_) (fun hb h=>?_)
      ·refine zYc ?_;refine zAd ?_;cases h;replace h:some _=some _:=ho1;have hy:=osi h;subst hy;unfold zFi;exact⟨_,(Le.rnm [(1,1)] [(4,.orow 1)] [(1,.row 5 1 ((List.map brow) l7))] 2 ⟨rfl,trivial⟩ ⟨rfl,⟨_,rfl,rfl⟩,trivial⟩),rfl,rfl,rfl,rfl,trivial⟩
      ·refine zAe ?_;refine zAb [47] [46] rfl ?_;obtain⟨⟨e10A,e10F,e10B,e10E⟩,he10,h⟩:=zAc h;refine And.intro (zAr CV.encs_eq he10).1 ?_;intro r11 hr11;obtain rfl:[.int .i64 e10A,.int .i64 e10F,.str e10B,.sl 4 (CV.encs e10E)]=r11:=(hr11.trans (zAr CV.encs_eq he10).2.1).symm;obtain⟨y12,hy12,h⟩:=zAc h;refine⟨_,_,⟨_,_,_,hy12,rfl,rfl,rfl,rfl⟩,?_⟩
       refine zYb ?_;refine⟨(k,IntKind.i64.wrap (x6+1),y12),h,(Le.rnm [(2,1)] _ _ _ ⟨rfl,rfl,rfl,rfl,trivial⟩ ⟨rfl,⟨_,rfl,rfl⟩,trivial⟩),Nat.lt_succ_self k⟩
     ·refine zAx ?_;cases h;exact⟨_,rfl,(Le.rnm [(1,1)] _ _ _ ⟨rfl,trivial⟩ ⟨rfl,⟨_,rfl,rfl⟩,trivial⟩)⟩
  ·subst hz;replace h:=ho1;refine zAi hle ?_;refine zYc ?_;refine zAd ?_;have hy:=osi h;subst hy;unfold zFi;exact⟨_,(Le.rnm [(1,1)] [(4,.orow 1)] [(1,.row 5 1 ((List.map brow) l8))] 2 ⟨rfl,trivial⟩ ⟨rfl,⟨_,rfl,rfl⟩,trivial⟩),rfl,rfl,rfl,rfl,trivial⟩
theorem zLp:∀ n,PSound Tryz.prog 57 (zEO (zDU n) (some 0)):=by
 intro n
 induction n with
 | zero=>exact zMV Tryz.call57 (fun xs os x os' h=>by obtain⟨_,_,_,h,_⟩:=h; cases h) _
 | succ n ih=>exact zKI n ih
def zIH:zAp:=zEO (fun xs os x os'=>∃ n,zDU n xs os x os') (some 0)
theorem zMG:PSound Tryz.prog 57 zIH:=zOz zLp _
def zNp (n:Nat) (xs:List AV) (r:Ret):Prop:=∃ (a0:CV) (y0:List UInt8) (y1:Int),zC6 n a0=some (y0,y1)/\xs=[.agg ((CV.enc a0).map .s)]/\r = .val (.tup [.s (.sl 1 ((List.map brow) y0)),.s (.int .i64 y1)])
def zIG:zAp:=zAn fun xs r=>∃ n,zNp n xs r
theorem zMF:PSound Tryz.prog 26 zIG:=by
 have gok:∀ f s,look? f [(56,zJE),(57,zIH)]=some s->PSound Tryz.prog f s:=zAl (by
  simp only[List.forall_mem_cons]
  exact⟨zNM,zMG,by simp⟩)
 refine zAo tokW Tryz.call26 Tryz.func26 rfl (fun xs r h=>by obtain⟨n,_,_,_,_,rfl,_⟩:=h; show 1<=13; decide) 13 rfl ?_;rintro xs r w0 G0 ⟨n,⟨v1A,v1F,v1B,v1E⟩,y0,y1,h,rfl,rfl⟩ _;rw[zC6]at h;refine zYc ?_;refine zAa ?_;refine zYc ?_;obtain⟨y2,hy2,h⟩:=zAc h;refine⟨_,⟨_,_,_,hy2,rfl,rfl⟩,?_⟩
 refine zAg rfl h (fun hb h=>?_) (fun hb h=>?_)
 ·refine zYc ?_;refine zAd ?_;obtain⟨hj1,hk1⟩:=pij h;subst hj1 hk1;exact fin0 rfl rfl
 ·refine zAe ?_;refine zYc ?_;obtain⟨y3,hy3,h⟩:=zAc h;refine⟨_,_,⟨_,_,_,_,hy3,rfl,rfl,rfl,rfl⟩,?_⟩
  refine zAa ?_;refine zXw [] [10] rfl ?_;intro n4 hn4;obtain rfl:(y3.length:Int)=n4:=(hn4.trans (congrArg (fun m:Nat=>(m:Int)) (rlen (fun _=>rfl) y3))).symm;refine zAg rfl h (fun hb h=>?_) (fun hb h=>?_)
  ·refine zYc ?_;refine zAd ?_;obtain⟨hj1,hk1⟩:=pij h;subst hj1 hk1;exact fin0 rfl rfl
  ·refine zAe ?_;refine zYc ?_;refine zAd ?_;obtain⟨hj1,hk1⟩:=pij h;subst hj1 hk1;unfold zCJ;exact⟨_,(Le.trans (Le.rnm [(1,0)] [(2,.orow 0),(3,.s (.int .i64 0))] [(0,.row 5 1 ((List.map brow) y3))] 1 ⟨rfl,rfl,trivial⟩ ⟨rfl,⟨_,rfl,rfl⟩,trivial⟩) (Le.giveRow 0 rfl)),rfl,rfl⟩
def zCg (p:(List UInt8)):List S:=[.sl 1 ((List.map brow) p)]
def zQn (xs:List AV) (r:Ret):Prop:=∃ (a0:CV) (y0:Int),zGn a0=some y0/\xs=[.agg ((CV.enc a0).map .s)]/\r = .val (.s (.int .u64 y0))
def zKU:zAp:=zAn fun xs r=>zQn xs r
theorem zPB:PSound Tryz.prog 105 zKU:=by
 have gok:=@gok0 Tryz.prog;refine zAo tokW Tryz.call105 Tryz.func105 rfl (fun xs r h=>by obtain⟨_,_,_,rfl,_⟩:=h; show 1<=31; decide) 31 rfl ?_;rintro xs r w0 G0 ⟨⟨v1A,v1F,v1B,v1E⟩,y0,h,rfl,rfl⟩ _;rw[zGn]at h;refine zYc ?_;refine zAa ?_;refine zYc ?_;refine zAj ?_;refine zYc ?_;refine zAg rfl h (fun hb h=>?_) (fun hb h=>?_)
 ·refine zYc ?_;refine zAd ?_;have hy:=osi h;subst hy;exact fin0 rfl rfl
 ·refine zYc ?_;refine zAg rfl h (fun hb h=>?_) (fun hb h=>?_)
  ·refine zXw [] [15] rfl ?_;intro n2 hn2;obtain rfl:(v1E.length:Int)=n2:=(hn2.trans (congrArg (fun m:Nat=>(m:Int)) (rlen CV.encs_eq v1E))).symm;refine zAd ?_;have hy:=osi h;subst hy;exact fin0 rfl rfl
  ·refine zAe ?_;refine zAa ?_;refine zYc ?_;refine zAg rfl h (fun hb h=>?_) (fun hb h=>?_)
   ·refine zYc ?_;refine zAd ?_;have hy:=osi h;subst hy;exact fin0 rfl rfl
   ·refine zAe ?_;refine zYc ?_;refine zAd ?_;have hy:=osi h;subst hy;exact fin0 rfl rfl
def zTI (n:Nat) (xs:List AV) (r:Ret):Prop:=∃ (a0:CV) (y0:List UInt8),zGY n a0=some y0/\xs=[.agg ((CV.enc a0).map .s)]/\r = .row 5 1 ((List.map brow) y0)
def zN7:zAp:=zAn fun xs r=>∃ n,zTI n xs r
theorem zPV {α:Type}{a b:α} (h:a=b:=by simp[List.map_append,List.map_take,List.map_drop,irow,brow,zEm,List.map_cons,List.map_nil,zDV,Nd.encs_eq,Nd.enc,CV.encs_eq,CV.enc,zCg]):a=b :=
 h
theorem zSE:PSound Tryz.prog 65 zN7:=by
 have gok:∀ f s,look? f [(105,zKU)]=some s->PSound Tryz.prog f s:=zAl (by
  simp only[List.forall_mem_cons]
  exact⟨zPB,by simp⟩)
 refine zAo tokW Tryz.call65 Tryz.func65 rfl (fun xs r h=>by obtain⟨n,_,_,_,rfl,_⟩:=h; show 1<=38; decide) 38 rfl ?_;rintro xs r w0 G0 ⟨n,⟨v1A,v1F,v1B,v1E⟩,y0,h,rfl,rfl⟩ _;rw[zGY]at h;refine zXw [2] [] rfl ?_;refine zAi (Le.rnm [] [(1,.s (.pt [.int .i64 v1A,.int .i64 v1F,.str v1B,.sl 4 (CV.encs v1E)]))] [] 0 ⟨rfl,trivial⟩ trivial) ?_;refine zYc ?_;obtain⟨y2,hy2,h⟩:=zAc h;refine⟨_,⟨_,_,hy2,rfl,rfl⟩,?_⟩
 refine zAa ?_;refine zYc ?_;refine zAg rfl h (fun hb h=>?_) (fun hb h=>?_)
 ·refine zXw [16] [] rfl ?_;refine zAi (Le.rnm [(0,0)] [(2,.orow 0)] [(0,.row 5 1 ((List.map brow) [b8of (IntKind.u8.wrap (IntKind.i64.wrap ((IntKind.i64.wrap (64 * v1A))+(IntKind.i64.wrap y2))))]))] 1 ⟨rfl,trivial⟩ ⟨rfl,⟨_,rfl,congrArg (Ob.row 5 1) zPV⟩,trivial⟩) ?_;refine zAd ?_;have hy:=osi h;subst hy;unfold zCJ;exact⟨_,Le.refl _ _,0,rfl,rfl⟩
 ·refine zAe ?_;refine zXw [4] [] rfl ?_;refine zAi (Le.rnm [(0,0)] [(1,.s (.pt [.int .i64 v1A,.int .i64 v1F,.str v1B,.sl 4 (CV.encs v1E)])),(3,.s (.int .u64 y2)),(4,.orow 0)] [(0,.row 5 1 ((List.map brow) []))] 1 ⟨rfl,rfl,rfl,trivial⟩ ⟨rfl,⟨_,rfl,congrArg (Ob.row 5 1) zPV⟩,trivial⟩) ?_;refine zAa ?_;obtain⟨l6,hl,h⟩:=zAc h
  refine zAk ⟨ofL [(1,.s (.pt [.int .i64 v1A,.int .i64 v1F,.str v1B,.sl 4 (CV.encs v1E)])),(4,.orow 0)],ofH [(0,.row 5 1 ((List.map brow) l6))],1⟩ ?_ (fun σ' hle=>?_)
  ·refine zAj (zAt (X:=Nat×Int×(List UInt8)) (fun y=>match y with | (k,n3,l5)=>⟨ofL [(1,.s (.pt [.int .i64 v1A,.int .i64 v1F,.str v1B,.sl 4 (CV.encs v1E)])),(3,.s (.int .u64 n3)),(4,.orow 0)],ofH [(0,.row 5 1 ((List.map brow) l5))],1⟩) (fun y=>zBW  y.1 y.2.1 y.2.2=some l6) (fun y=>y.1) (n,y2,[]) hl ?_ ?_)
   ·exact(Le.rnm [(0,0)] _ _ _ ⟨rfl,rfl,rfl,trivial⟩ ⟨rfl,⟨_,rfl,rfl⟩,trivial⟩)
   ·rintro⟨k,n3,l5⟩ h;cases k with
    | zero=>cases h
    | succ k =>
     replace h:zBW  (k+1) n3 l5=some l6:=h;rw[zBW]at h;refine zAa ?_;refine zYc ?_;refine zAg rfl h (fun hb h=>?_) (fun hb h=>?_)
     ·refine zAe ?_;refine zAj ?_;refine zXw [22,24] [] rfl ?_;refine And.intro (by decide) ?_;obtain⟨hq,h⟩:=zAy h;refine And.intro (show([[.int .u8 (IntKind.u8.wrap (n3.tmod 256))]].length+((List.map brow) l5).length) * 1<=140737488355328/\[[.int .u8 (IntKind.u8.wrap (n3.tmod 256))]].length+((List.map brow) l5).length<=9223372036854775807 from by simp only[List.length_append,List.length_cons,List.length_nil,List.length_map,rlen (fun _=>rfl)]at hq ⊢; omega) ?_;show Tri ..
      refine zAi (Le.rnm [(2,0)] [(1,.s (.pt [.int .i64 v1A,.int .i64 v1F,.str v1B,.sl 4 (CV.encs v1E)])),(3,.s (.int .u64 n3)),(4,.orow 0)] [(0,.row 5 1 ((List.map brow) ([b8of (IntKind.u8.wrap (n3.tmod 256))]++l5)))] 1 ⟨rfl,rfl,rfl,trivial⟩ ⟨rfl,⟨_,rfl,congrArg (Ob.row 5 1) zPV⟩,trivial⟩) ?_;refine zYb ?_;refine And.intro (by decide) ?_
      refine⟨(k,IntKind.u64.wrap (n3.tdiv 256),[b8of (IntKind.u8.wrap (n3.tmod 256))]++l5),h,(Le.rnm [(0,0)] _ _ _ ⟨rfl,rfl,rfl,trivial⟩ ⟨rfl,⟨_,rfl,rfl⟩,trivial⟩),Nat.lt_succ_self k⟩
     ·refine zAx ?_;cases h;exact(Le.rnm [(0,0)] _ _ _ ⟨rfl,rfl,trivial⟩ ⟨rfl,⟨_,rfl,rfl⟩,trivial⟩)
  ·refine zAi hle ?_;refine zXw [35,37] [32] rfl ?_;intro n7 hn7;obtain rfl:(l6.length:Int)=n7:=(hn7.trans (congrArg (fun m:Nat=>(m:Int)) (rlen (fun _=>rfl) l6))).symm;obtain⟨hq,h⟩:=zAy h
   refine And.intro (show([[.int .u8 (IntKind.u8.wrap (IntKind.i64.wrap ((IntKind.i64.wrap ((IntKind.i64.wrap (64 * v1A))+55))+(l6.length:Int))))]].length+((List.map brow) l6).length) * 1<=140737488355328/\[[.int .u8 (IntKind.u8.wrap (IntKind.i64.wrap ((IntKind.i64.wrap ((IntKind.i64.wrap (64 * v1A))+55))+(l6.length:Int))))]].length+((List.map brow) l6).length<=9223372036854775807 from by simp only[List.length_append,List.length_cons,List.length_nil,List.length_map,rlen (fun _=>rfl)]at hq ⊢; omega) ?_;show Tri ..
   refine zAi (Le.rnm [(2,0)] [(2,.orow 0)] [(0,.row 5 1 ((List.map brow) ([b8of (IntKind.u8.wrap (IntKind.i64.wrap ((IntKind.i64.wrap ((IntKind.i64.wrap (64 * v1A))+55))+(l6.length:Int))))]++l6)))] 1 ⟨rfl,trivial⟩ ⟨rfl,⟨_,rfl,congrArg (Ob.row 5 1) zPV⟩,trivial⟩) ?_;refine zAd ?_;have hy:=osi h;subst hy;unfold zCJ;exact⟨_,Le.refl _ _,0,rfl,rfl⟩
def zEX (n:Nat) (xs:List AV) (r:Ret):Prop:=∃ (a0:CV) (y0:List UInt8),zCn n a0=some y0/\xs=[.agg ((CV.enc a0).map .s)]/\r = .row 5 1 ((List.map brow) y0)
theorem zNf (n:Nat) (ih:PSound Tryz.prog 29 (zAn (zEX n))):PSound Tryz.prog 29 (zAn (zEX (n+1))):=by
 have gok:∀ f s,look? f [(65,zN7),(29,zAn (zEX n))]=some s->PSound Tryz.prog f s:=zAl (by
  simp only[List.forall_mem_cons]
  exact⟨zSE,ih,by simp⟩)
 refine zAo tokW Tryz.call29 Tryz.func29 rfl (fun xs r h=>by obtain⟨_,_,_,rfl,_⟩:=h; show 1<=26; decide) 26 rfl ?_;rintro xs r w0 G0 ⟨⟨v1A,v1F,v1B,v1E⟩,y0,h,rfl,rfl⟩ _;rw[zCn]at h;refine zXw [2] [] rfl ?_;refine zAi (Le.rnm [] [(1,.s (.pt [.int .i64 v1A,.int .i64 v1F,.str v1B,.sl 4 (CV.encs v1E)]))] [] 0 ⟨rfl,trivial⟩ trivial) ?_;refine zAa ?_;refine zAO [6,9] [] [1,4] rfl (by decide +kernel) ?_;obtain⟨y2,hy2,h⟩:=zAc h;refine⟨_,⟨_,_,_,hy2,rfl,rfl⟩,?_⟩
 obtain⟨hq,h⟩:=zAy h;refine And.intro (show(((List.map brow) y2).length+(List.map brow v1B).length) * 1<=140737488355328/\((List.map brow) y2).length+(List.map brow v1B).length<=9223372036854775807 from by simp only[List.length_append,List.length_cons,List.length_nil,List.length_map,rlen (fun _=>rfl)]at hq ⊢; omega) ?_;show Tri ..
 refine zAi (Le.rnm [(1,0)] [(1,.s (.pt [.int .i64 v1A,.int .i64 v1F,.str v1B,.sl 4 (CV.encs v1E)])),(3,.orow 0)] [(0,.row 5 1 ((List.map brow) (y2++v1B)))] 1 ⟨rfl,rfl,trivial⟩ ⟨rfl,⟨_,rfl,congrArg (Ob.row 5 1) zPV⟩,trivial⟩) ?_;refine zAa ?_;refine zYc ?_;show Tri ..;obtain⟨l6,hl,h⟩:=zAc h;refine zAk ⟨ofL [(3,.orow 0)],ofH [(0,.row 5 1 ((List.map brow) l6))],1⟩ ?_ (fun σ' hle=>?_)
 ·refine zAj (zAt (X:=Nat×Int×(List UInt8)) (fun y=>match y with | (k,i4,l5)=>⟨ofL [(1,.s (.pt [.int .i64 v1A,.int .i64 v1F,.str v1B,.sl 4 (CV.encs v1E)])),(3,.orow 0),(4,.s (.int .i64 i4))],ofH [(0,.row 5 1 ((List.map brow) l5))],1⟩) (fun y=>zBo (zCn n) v1E y.1 y.2.1 y.2.2=some l6) (fun y=>y.1) (n,0,y2++v1B) hl ?_ ?_)
  ·exact(Le.rnm [(0,0)] _ _ _ ⟨rfl,rfl,rfl,trivial⟩ ⟨rfl,⟨_,rfl,rfl⟩,trivial⟩)
  ·rintro⟨k,i4,l5⟩ h;cases k with
   | zero=>cases h
   | succ k =>
    replace h:zBo (zCn n) v1E (k+1) i4 l5=some l6:=h;rw[zBo]at h;refine zAa ?_;refine zXw [] [13] rfl ?_;intro n7 hn7;obtain rfl:(v1E.length:Int)=n7:=(hn7.trans (congrArg (fun m:Nat=>(m:Int)) (rlen CV.encs_eq v1E))).symm;refine zAg rfl h (fun hb h=>?_) (fun hb h=>?_)
    ·refine zAe ?_;refine zAa ?_;refine zAj ?_;refine zAb [24] [21] rfl ?_;obtain⟨⟨e8A,e8F,e8B,e8E⟩,he8,h⟩:=zAc h;refine And.intro (zAr CV.encs_eq he8).1 ?_;intro r9 hr9;obtain rfl:[.int .i64 e8A,.int .i64 e8F,.str e8B,.sl 4 (CV.encs e8E)]=r9:=(hr9.trans (zAr CV.encs_eq he8).2.1).symm;obtain⟨y10,hy10,h⟩:=zAc h;refine⟨_,⟨_,_,hy10,rfl,rfl⟩,?_⟩
     obtain⟨hq,h⟩:=zAy h;refine And.intro (show(((List.map brow) l5).length+((List.map brow) y10).length) * 1<=140737488355328/\((List.map brow) l5).length+((List.map brow) y10).length<=9223372036854775807 from by simp only[List.length_append,List.length_cons,List.length_nil,List.length_map,rlen (fun _=>rfl)]at hq ⊢; omega) ?_;show Tri ..
     refine zAi (Le.rnm [(1,0)] [(1,.s (.pt [.int .i64 v1A,.int .i64 v1F,.str v1B,.sl 4 (CV.encs v1E)])),(3,.orow 0),(4,.s (.int .i64 i4))] [(0,.row 5 1 ((List.map brow) (l5++y10)))] 1 ⟨rfl,rfl,rfl,trivial⟩ ⟨rfl,⟨_,rfl,congrArg (Ob.row 5 1) zPV⟩,trivial⟩) ?_;refine zYb ?_;refine⟨(k,IntKind.i64.wrap (i4+1),l5++y10),h,(Le.rnm [(0,0)] _ _ _ ⟨rfl,rfl,rfl,trivial⟩ ⟨rfl,⟨_,rfl,rfl⟩,trivial⟩),Nat.lt_succ_self k⟩
    ·refine zAx ?_;cases h;exact(Le.rnm [(0,0)] _ _ _ ⟨rfl,trivial⟩ ⟨rfl,⟨_,rfl,rfl⟩,trivial⟩)
 ·refine zAi hle ?_;refine zYc ?_;refine zAd ?_;have hy:=osi h;subst hy;unfold zCJ;exact⟨_,Le.refl _ _,0,rfl,rfl⟩
theorem zNE:∀ n,PSound Tryz.prog 29 (zAn (zEX n)):=by
 intro n
 induction n with
 | zero=>exact zA7 Tryz.call29 (fun xs r h=>by obtain⟨_,_,h,_⟩:=h; cases h)
 | succ n ih=>exact zNf n ih
def zKT:zAp:=zAn fun xs r=>∃ n,zEX n xs r
theorem zPA:PSound Tryz.prog 29 zKT:=zBr zNE
def zLO (n:Nat) (xs:List AV) (r:Ret):Prop:=∃ (a0:Int) (a1:List UInt8) (y0:Int),zB5 n a0 a1=some y0/\xs=[.s (.int .u64 a0),.s (.sl 1 ((List.map brow) a1))]/\r = .val (.s (.int .u64 y0))
def zHF:zAp:=zAn fun xs r=>∃ n,zLO n xs r
theorem zLu:PSound Tryz.prog 64 zHF:=by
 have gok:=@gok0 Tryz.prog;refine zAo tokW Tryz.call64 Tryz.func64 rfl (fun xs r h=>by obtain⟨n,_,_,_,_,rfl,_⟩:=h; show 2<=20; decide) 20 rfl ?_;rintro xs r w0 G0 ⟨n,h1,b2,y0,h,rfl,rfl⟩ _;rw[zB5]at h;refine zYc ?_;refine zAa ?_;refine zXw [] [8] rfl ?_;intro n3 hn3;obtain rfl:(b2.length:Int)=n3:=(hn3.trans (congrArg (fun m:Nat=>(m:Int)) (rlen (fun _=>rfl) b2))).symm;show Tri ..;obtain⟨h6,hl,h⟩:=zAc h;refine zAk ⟨ofL [(0,.s (.int .u64 h6))],fun _=>none,0⟩ ?_ (fun σ' hle=>?_)
 ·refine zAj (zAt (X:=Nat×Int×Int) (fun y=>match y with | (k,h4,x5)=>⟨ofL [(0,.s (.int .u64 h4)),(7,.s (.sl 1 ((List.map brow) b2))),(8,.s (.int .i64 (b2.length:Int))),(9,.s (.int .i64 x5))],fun _=>none,0⟩) (fun y=>zA8 b2 y.1 y.2.1 y.2.2=some h6) (fun y=>y.1) (n,h1,0) hl ?_ ?_)
  ·exact(Le.forget _ ⟨rfl,rfl,rfl,rfl,trivial⟩)
  ·rintro⟨k,h4,x5⟩ h;cases k with
   | zero=>cases h
   | succ k =>
    replace h:zA8 b2 (k+1) h4 x5=some h6:=h;rw[zA8]at h;refine zYc ?_;refine zAa ?_;refine zAg rfl h (fun hb h=>?_) (fun hb h=>?_)
    ·refine zAe ?_;refine zAa ?_;refine zAj ?_;refine zXw [] [11] rfl ?_;obtain⟨e7,he7,h⟩:=zAc h;refine And.intro (zAr (fun _=>rfl) he7).1 ?_;intro r8 hr8;obtain rfl:[.int .u8 (e7.toNat:Int)]=r8:=(hr8.trans (zAr (fun _=>rfl) he7).2.1).symm;refine zYb ?_;refine zYb ?_;refine⟨(k,IntKind.u64.wrap ((zI9 .xor .u64 h4 (IntKind.u64.wrap (e7.toNat:Int))) * 1099511628211),IntKind.i64.wrap (x5+1)),h,(Le.forget _ ⟨rfl,rfl,rfl,rfl,trivial⟩),Nat.lt_succ_self k⟩
    ·refine zAx ?_;cases h;exact(Le.forget _ ⟨rfl,trivial⟩)
 ·refine zAi hle ?_;refine zYc ?_;refine zAd ?_;have hy:=osi h;subst hy;exact fin0 rfl rfl
def zNr (n:Nat) (xs:List AV) (r:Ret):Prop:=∃ (a0:List UInt8) (y0:Int),zC8 n a0=some y0/\xs=[.s (.sl 1 ((List.map brow) a0))]/\r = .val (.s (.int .u64 y0))
def zIJ:zAp:=zAn fun xs r=>∃ n,zNr n xs r
theorem zMJ:PSound Tryz.prog 28 zIJ:=by
 have gok:∀ f s,look? f [(64,zHF)]=some s->PSound Tryz.prog f s:=zAl (by
  simp only[List.forall_mem_cons]
  exact⟨zLu,by simp⟩)
 refine zAo tokW Tryz.call28 Tryz.func28 rfl (fun xs r h=>by obtain⟨n,_,_,_,rfl,_⟩:=h; show 1<=5; decide) 5 rfl ?_;rintro xs r w0 G0 ⟨n,b1,y0,h,rfl,rfl⟩ _;rw[zC8]at h;refine zYc ?_;refine zYc ?_;obtain⟨y2,hy2,h⟩:=zAc h;refine⟨_,⟨_,_,_,_,hy2,rfl,rfl⟩,?_⟩
 refine zAd ?_;have hy:=osi h;subst hy;exact fin0 rfl rfl
def zQo (n:Nat) (xs:List AV) (r:Ret):Prop:=∃ (a0:Int) (a1:List UInt8) (y0:Int),zDt n a0 a1=some y0/\xs=[.s (.int .u64 a0),.s (.sl 1 ((List.map brow) a1))]/\r = .val (.s (.int .u64 y0))
def zKV:zAp:=zAn fun xs r=>∃ n,zQo n xs r
theorem zPC:PSound Tryz.prog 71 zKV:=by
 have gok:=@gok0 Tryz.prog;refine zAo tokW Tryz.call71 Tryz.func71 rfl (fun xs r h=>by obtain⟨n,_,_,_,_,rfl,_⟩:=h; show 2<=21; decide) 21 rfl ?_;rintro xs r w0 G0 ⟨n,h1,b2,y0,h,rfl,rfl⟩ _;rw[zDt]at h;refine zYc ?_;refine zAa ?_;refine zYc ?_;show Tri ..;obtain⟨h5,hl,h⟩:=zAc h;refine zAk ⟨ofL [(0,.s (.int .u64 h5))],fun _=>none,0⟩ ?_ (fun σ' hle=>?_)
 ·refine zAj (zAt (X:=Nat×Int×Int) (fun y=>match y with | (k,h3,i4)=>⟨ofL [(0,.s (.int .u64 h3)),(1,.s (.sl 1 ((List.map brow) b2))),(5,.s (.int .i64 i4))],fun _=>none,0⟩) (fun y=>zBH b2 y.1 y.2.1 y.2.2=some h5) (fun y=>y.1) (n,h1,0) hl ?_ ?_)
  ·exact(Le.forget _ ⟨rfl,rfl,rfl,trivial⟩)
  ·rintro⟨k,h3,i4⟩ h;cases k with
   | zero=>cases h
   | succ k =>
    replace h:zBH b2 (k+1) h3 i4=some h5:=h;rw[zBH]at h;refine zAa ?_;refine zXw [] [8] rfl ?_;intro n6 hn6;obtain rfl:(b2.length:Int)=n6:=(hn6.trans (congrArg (fun m:Nat=>(m:Int)) (rlen (fun _=>rfl) b2))).symm;refine zAg rfl h (fun hb h=>?_) (fun hb h=>?_)
    ·refine zAe ?_;refine zAa ?_;refine zAj ?_;refine zAb [] [15] rfl ?_;obtain⟨e7,he7,h⟩:=zAc h;refine And.intro (zAr (fun _=>rfl) he7).1 ?_;intro r8 hr8;obtain rfl:[.int .u8 (e7.toNat:Int)]=r8:=(hr8.trans (zAr (fun _=>rfl) he7).2.1).symm;refine zYb ?_;refine⟨(k,IntKind.u64.wrap ((zI9 .xor .u64 h3 (IntKind.u64.wrap (e7.toNat:Int))) * 1099511628211),IntKind.i64.wrap (i4+1)),h,(Le.forget _ ⟨rfl,rfl,rfl,trivial⟩),Nat.lt_succ_self k⟩
    ·refine zAx ?_;cases h;exact(Le.forget _ ⟨rfl,trivial⟩)
 ·refine zAi hle ?_;refine zYc ?_;refine zAd ?_;have hy:=osi h;subst hy;exact fin0 rfl rfl
def zR8 (n:Nat) (xs:List AV) (r:Ret):Prop:=∃ (a0:List UInt8) (y0:Int),zEJ n a0=some y0/\xs=[.s (.sl 1 ((List.map brow) a0))]/\r = .val (.s (.int .u64 y0))
def zLZ:zAp:=zAn fun xs r=>∃ n,zR8 n xs r
theorem zRm:PSound Tryz.prog 32 zLZ:=by
 have gok:∀ f s,look? f [(71,zKV)]=some s->PSound Tryz.prog f s:=zAl (by
  simp only[List.forall_mem_cons]
  exact⟨zPC,by simp⟩)
 refine zAo tokW Tryz.call32 Tryz.func32 rfl (fun xs r h=>by obtain⟨n,_,_,_,rfl,_⟩:=h; show 1<=5; decide) 5 rfl ?_;rintro xs r w0 G0 ⟨n,b1,y0,h,rfl,rfl⟩ _;rw[zEJ]at h;refine zYc ?_;refine zYc ?_;obtain⟨y2,hy2,h⟩:=zAc h;refine⟨_,⟨_,_,_,_,hy2,rfl,rfl⟩,?_⟩
 refine zAd ?_;have hy:=osi h;subst hy;exact fin0 rfl rfl
def zR9 (n:Nat) (xs:List AV) (r:Ret):Prop:=∃ (a0:Int) (y0:List UInt8),zHf n a0=some y0/\xs=[.s (.int .u64 a0)]/\r = .row 5 1 ((List.map brow) y0)
def zL0:zAp:=zAn fun xs r=>∃ n,zR9 n xs r
theorem zRn:PSound Tryz.prog 31 zL0:=by
 have gok:=@gok0 Tryz.prog;refine zAo tokW Tryz.call31 Tryz.func31 rfl (fun xs r h=>by obtain⟨n,_,_,_,rfl,_⟩:=h; show 1<=19; decide) 19 rfl ?_;rintro xs r w0 G0 ⟨n,n1,y0,h,rfl,rfl⟩ _;rw[zHf]at h;refine zXw [2] [] rfl ?_;refine zAi (Le.rnm [] [(0,.s (.int .u64 n1))] [] 0 ⟨rfl,trivial⟩ trivial) ?_;refine zXw [3] [] rfl ?_;show Tri ..
 refine zAi (Le.rnm [(0,0)] [(0,.s (.int .u64 n1)),(3,.orow 0)] [(0,.row 5 1 ((List.map brow) []))] 1 ⟨rfl,rfl,trivial⟩ ⟨rfl,⟨_,rfl,congrArg (Ob.row 5 1) zPV⟩,trivial⟩) ?_;refine zAa ?_;refine zYc ?_;show Tri ..;obtain⟨l5,hl,h⟩:=zAc h;refine zAk ⟨ofL [(3,.orow 0)],ofH [(0,.row 5 1 ((List.map brow) l5))],1⟩ ?_ (fun σ' hle=>?_)
 ·refine zAj (zAt (X:=Nat×Int×(List UInt8)) (fun y=>match y with | (k,i3,l4)=>⟨ofL [(0,.s (.int .u64 n1)),(3,.orow 0),(4,.s (.int .i64 i3))],ofH [(0,.row 5 1 ((List.map brow) l4))],1⟩) (fun y=>zCv n1 y.1 y.2.1 y.2.2=some l5) (fun y=>y.1) (n,0,[]) hl ?_ ?_)
  ·exact(Le.rnm [(0,0)] _ _ _ ⟨rfl,rfl,rfl,trivial⟩ ⟨rfl,⟨_,rfl,rfl⟩,trivial⟩)
  ·rintro⟨k,i3,l4⟩ h;cases k with
   | zero=>cases h
   | succ k =>
    replace h:zCv n1 (k+1) i3 l4=some l5:=h;rw[zCv]at h;refine zAa ?_;refine zYc ?_;refine zAg rfl h (fun hb h=>?_) (fun hb h=>?_)
    ·refine zAe ?_;refine zAa ?_;refine zAj ?_;refine zAb [17] [16] rfl ?_;obtain⟨hq,h⟩:=zAy h;refine And.intro hq ?_;intro r6 hr6;obtain rfl:(List.map brow) [b8of (IntKind.u8.wrap (n1.fdiv (2 ^ (min (IntKind.i64.wrap (56 - (IntKind.i64.wrap (8 * i3)))).toNat IntKind.u64.bits))))]=r6:=(hr6.trans zPV).symm;obtain⟨hq,h⟩:=zAy h
     refine And.intro (show(((List.map brow) l4).length+((List.map brow) [b8of (IntKind.u8.wrap (n1.fdiv (2 ^ (min (IntKind.i64.wrap (56 - (IntKind.i64.wrap (8 * i3)))).toNat IntKind.u64.bits))))]).length) * 1<=140737488355328/\((List.map brow) l4).length+((List.map brow) [b8of (IntKind.u8.wrap (n1.fdiv (2 ^ (min (IntKind.i64.wrap (56 - (IntKind.i64.wrap (8 * i3)))).toNat IntKind.u64.bits))))]).length<=9223372036854775807 from by simp only[List.length_append,List.length_cons,List.length_nil,List.length_map,rlen (fun _=>rfl)]at hq ⊢; omega) ?_;show Tri ..
     refine zAi (Le.rnm [(1,0)] [(0,.s (.int .u64 n1)),(3,.orow 0),(4,.s (.int .i64 i3))] [(0,.row 5 1 ((List.map brow) (l4++[b8of (IntKind.u8.wrap (n1.fdiv (2 ^ (min (IntKind.i64.wrap (56 - (IntKind.i64.wrap (8 * i3)))).toNat IntKind.u64.bits))))])))] 1 ⟨rfl,rfl,rfl,trivial⟩ ⟨rfl,⟨_,rfl,congrArg (Ob.row 5 1) zPV⟩,trivial⟩) ?_;refine zYb ?_
     refine⟨(k,IntKind.i64.wrap (i3+1),l4++[b8of (IntKind.u8.wrap (n1.fdiv (2 ^ (min (IntKind.i64.wrap (56 - (IntKind.i64.wrap (8 * i3)))).toNat IntKind.u64.bits))))]),h,(Le.rnm [(0,0)] _ _ _ ⟨rfl,rfl,rfl,trivial⟩ ⟨rfl,⟨_,rfl,rfl⟩,trivial⟩),Nat.lt_succ_self k⟩
    ·refine zAx ?_;cases h;exact(Le.rnm [(0,0)] _ _ _ ⟨rfl,trivial⟩ ⟨rfl,⟨_,rfl,rfl⟩,trivial⟩)
 ·refine zAi hle ?_;refine zYc ?_;refine zAd ?_;have hy:=osi h;subst hy;unfold zCJ;exact⟨_,Le.refl _ _,0,rfl,rfl⟩
end Go.Proofs.YtgplhldfbkmmgaaGreat
