/-
  Joined out of: FzVA, FzVB, LibG, LibH, LibW, AbsY, LibO, LibR, FzE, LibE, FzF, RwA, LibL, FzCA.
-/
import Derived.WalkKit
import Derived.Lib.Walk
import Derived.Lib.SliceRun
import Derived.Lib.AppendZerosOnto
import Derived.Shelf.RegionOpenPlain
import Derived.Test.YtgplhldfbkmmgaaGreatZc
set_option linter.unusedVariables false
set_option linter.unusedSimpArgs false
set_option maxHeartbeats 2000000
set_option maxRecDepth 100000
namespace Go.Proofs.YtgplhldfbkmmgaaGreat
open Go.Abs
def zOv (xs:List AV) (r:Ret):Prop:=∃ (a0:List UInt8) (y0:Bool),zBJ a0=some y0/\xs=[.s (.str a0)]/\r = .val (.s (.bool y0))
def zJI:zAy:=zAx fun xs r=>zOv xs r
theorem zNV:PSound Tryz.prog 138 zJI:=by
 have gok:=@gok0 Tryz.prog;refine zAz tokW Tryz.call138 Tryz.func138 rfl (fun xs r h=>by obtain⟨_,_,_,rfl,_⟩:=h; show 1<=5; decide) 5 rfl ?_;rintro xs r w0 G0 ⟨s1,y0,h,rfl,rfl⟩ _;rw[zBJ]at h;refine zAa ?_;refine zAb [] [] rfl ?_;show Tri ..;refine zAa ?_;refine zAb [] [] rfl ?_;show Tri ..;refine zAd ?_;have hy:=Option.some.inj h;subst hy;unfold zAt;exact⟨_,Le.refl _ _,rfl,rfl⟩
def zL6 (n:Nat) (xs:List AV) (r:Ret):Prop:=∃ (a0:List UInt8) (y0:Bool),zCN n a0=some y0/\xs=[.s (.str a0)]/\r = .val (.s (.bool y0))
def zHU:zAy:=zAx fun xs r=>∃ n,zL6 n xs r
theorem zLr:PSound Tryz.prog 170 zHU:=by
 have gok:=@gok0 Tryz.prog;refine zAz tokW Tryz.call170 Tryz.func170 rfl (fun xs r h=>by obtain⟨n,_,_,_,rfl,_⟩:=h; show 1<=21; decide) 21 rfl ?_;rintro xs r w0 G0 ⟨n,s1,y0,h,rfl,rfl⟩ _;rw[zCN]at h;refine zAa ?_;refine zAb [] [] rfl ?_;show Tri ..;refine zAa ?_;refine zAa ?_;refine zAb [] [] rfl ?_;show Tri ..;obtain⟨fl,hl,ho1⟩:=zAc h;refine zBA (fl:=fl) (fun z=>match z with | _=>⟨ofL [],fun _=>none,0⟩) ?_ (fun z σ' hz hle=>?_)
 ·refine zAk (zAG (X:=Nat×Int) (fun y=>match y with | (k,i2)=>⟨ofL [(0,.s (.str s1)),(3,.s (.int .i64 i2))],fun _=>none,0⟩) (fun y=>zBd s1 y.1 y.2=some fl) (fun y=>y.1) (n,0) hl ?_ ?_)
  ·exact(Le.forget _ ⟨rfl,rfl,trivial⟩)
  ·rintro⟨k,i2⟩ h;cases k with
   | zero=>cases h
   | succ k =>
    replace h:zBd s1 (k+1) i2=some fl:=h;rw[zBd]at h;refine zAa ?_;refine zAa ?_;refine zAb [] [] rfl ?_;show Tri ..;refine zAh rfl h (fun hb h=>?_) (fun hb h=>?_)
    ·refine zAf ?_;show Tri ..;refine zAa ?_;refine zAk ?_;refine zAa ?_;refine zAb [] [13] rfl ?_;obtain⟨c3,hc3,h⟩:=zAc h;refine And.intro (zBr hc3).1 ?_;intro v4 hv4;obtain rfl:(c3.toNat:Int)=v4:=(hv4.trans (zBr hc3).2).symm;show Tri ..;refine zAa ?_;obtain⟨x5,hj,h⟩:=zAc h;refine zAq ⟨ofL [(0,.s (.str s1)),(3,.s (.int .i64 i2)),(20,.s (.bool x5))],fun _=>none,0⟩ ?_ (fun σ' hle=>?_)
     ·replace h:=hj;refine zAb [] [17] rfl ?_;intro b hb;cases b with
      | true =>
       replace h:=zAD hb.symm h;cases h;exact(Le.forget _ ⟨rfl,rfl,rfl,trivial⟩)
      | false =>
       replace h:=zAC hb.symm h;cases h;exact(Le.forget _ ⟨rfl,rfl,rfl,trivial⟩)
     ·show Tri ..;refine zAj hle ?_;refine zAh rfl h (fun hb h=>?_) (fun hb h=>?_)
      ·refine zAa ?_;refine zAb [] [] rfl ?_;show Tri ..;refine zAd ?_;cases h;replace h:some _=some _:=ho1;have hy:=Option.some.inj h;subst hy;unfold zAt;exact⟨_,Le.refl _ _,rfl,rfl⟩
      ·refine zAf ?_;show Tri ..;refine zAb [] [] rfl ?_;refine⟨(k,IntKind.i64.wrap (i2+1)),h,(Le.forget _ ⟨rfl,rfl,trivial⟩),Nat.lt_succ_self k⟩
    ·refine zAI ?_;cases h;exact⟨_,rfl,(Le.forget _ trivial)⟩
 ·subst hz;obtain _:=z;replace h:=ho1;show Tri ..;refine zAj hle ?_;refine zAa ?_;refine zAb [] [] rfl ?_;show Tri ..;refine zAd ?_;have hy:=Option.some.inj h;subst hy;unfold zAt;exact⟨_,Le.refl _ _,rfl,rfl⟩
def zL5 (xs:List AV) (r:Ret):Prop:=∃ (a0:List UInt8) (y0:Bool),zDw a0=some y0/\xs=[.s (.str a0)]/\r = .val (.s (.bool y0))
def zHT:zAy:=zAx fun xs r=>zL5 xs r
theorem zLq:PSound Tryz.prog 172 zHT:=by
 have gok:=@gok0 Tryz.prog;refine zAz tokW Tryz.call172 Tryz.func172 rfl (fun xs r h=>by obtain⟨_,_,_,rfl,_⟩:=h; show 1<=9; decide) 9 rfl ?_;rintro xs r w0 G0 ⟨s1,y0,h,rfl,rfl⟩ _;rw[zDw]at h;refine zAa ?_;refine zAb [] [] rfl ?_;show Tri ..;refine zAa ?_;refine zAa ?_;refine zAb [] [] rfl ?_;show Tri ..;obtain⟨fl,hj,ho1⟩:=zAc h;refine zBA (fl:=fl) (fun z=>match z with | _=>⟨ofL [],fun _=>none,0⟩) ?_ (fun z σ' hz hle=>?_)
 ·replace h:=hj;refine zAk ?_;refine zAa ?_;refine zAa ?_;refine zAb [] [] rfl ?_;show Tri ..;obtain⟨x2,hj,h⟩:=zAc h;refine zAq ⟨ofL [(4,.s (.bool x2))],fun _=>none,0⟩ ?_ (fun σ' hle=>?_)
  ·replace h:=hj;refine zAh rfl h (fun hb h=>?_) (fun hb h=>?_)
   ·refine zAf ?_;cases h;exact(Le.forget _ ⟨rfl,trivial⟩)
   ·refine zAa ?_;refine zAb [] [] rfl ?_;show Tri ..;refine zAh rfl h (fun hb h=>?_) (fun hb h=>?_)
    ·refine zAf ?_;cases h;exact(Le.forget _ ⟨rfl,trivial⟩)
    ·refine zAa ?_;refine zAb [] [] rfl ?_;show Tri ..;refine zAh rfl h (fun hb h=>?_) (fun hb h=>?_)
     ·refine zAf ?_;cases h;exact(Le.forget _ ⟨rfl,trivial⟩)
     ·refine zAb [] [] rfl ?_;cases h;exact(Le.forget _ ⟨rfl,trivial⟩)
  ·show Tri ..;refine zAj hle ?_;refine zAh rfl h (fun hb h=>?_) (fun hb h=>?_)
   ·refine zAa ?_;refine zAb [] [] rfl ?_;show Tri ..;refine zAd ?_;cases h;replace h:some _=some _:=ho1;have hy:=Option.some.inj h;subst hy;unfold zAt;exact⟨_,Le.refl _ _,rfl,rfl⟩
   ·refine zAf ?_;cases h;exact⟨_,rfl,(Le.forget _ trivial)⟩
 ·subst hz;obtain _:=z;replace h:=ho1;show Tri ..;refine zAj hle ?_;refine zAa ?_;refine zAb [] [] rfl ?_;show Tri ..;refine zAd ?_;have hy:=Option.some.inj h;subst hy;unfold zAt;exact⟨_,Le.refl _ _,rfl,rfl⟩
def zNs (xs:List AV) (r:Ret):Prop:=∃ (a0:List UInt8) (y0:Bool),zDe a0=some y0/\xs=[.s (.str a0)]/\r = .val (.s (.bool y0))
def zGm:zAy:=zAx fun xs r=>zNs xs r
theorem zH2:PSound Tryz.prog 142 zGm:=by
 have gok:=@gok0 Tryz.prog;refine zAz tokW Tryz.call142 Tryz.func142 rfl (fun xs r h=>by obtain⟨_,_,_,rfl,_⟩:=h; show 1<=11; decide) 11 rfl ?_;rintro xs r w0 G0 ⟨s1,y0,h,rfl,rfl⟩ _;rw[zDe]at h;refine zAa ?_;refine zAb [] [] rfl ?_;show Tri ..;refine zAa ?_;refine zAa ?_;refine zAb [] [] rfl ?_;show Tri ..;obtain⟨fl,hj,ho1⟩:=zAc h;refine zBA (fl:=fl) (fun z=>match z with | _=>⟨ofL [],fun _=>none,0⟩) ?_ (fun z σ' hz hle=>?_)
 ·replace h:=hj;refine zAk ?_;refine zAa ?_;refine zAa ?_;refine zAb [] [] rfl ?_;show Tri ..;obtain⟨x2,hj,h⟩:=zAc h;refine zAq ⟨ofL [(4,.s (.bool x2))],fun _=>none,0⟩ ?_ (fun σ' hle=>?_)
  ·replace h:=hj;refine zAh rfl h (fun hb h=>?_) (fun hb h=>?_)
   ·refine zAf ?_;cases h;exact(Le.forget _ ⟨rfl,trivial⟩)
   ·refine zAa ?_;refine zAb [] [] rfl ?_;show Tri ..;refine zAh rfl h (fun hb h=>?_) (fun hb h=>?_)
    ·refine zAf ?_;cases h;exact(Le.forget _ ⟨rfl,trivial⟩)
    ·refine zAa ?_;refine zAb [] [] rfl ?_;show Tri ..;refine zAh rfl h (fun hb h=>?_) (fun hb h=>?_)
     ·refine zAf ?_;cases h;exact(Le.forget _ ⟨rfl,trivial⟩)
     ·refine zAa ?_;refine zAb [] [] rfl ?_;show Tri ..;refine zAh rfl h (fun hb h=>?_) (fun hb h=>?_)
      ·refine zAf ?_;cases h;exact(Le.forget _ ⟨rfl,trivial⟩)
      ·refine zAa ?_;refine zAb [] [] rfl ?_;show Tri ..;refine zAh rfl h (fun hb h=>?_) (fun hb h=>?_)
       ·refine zAf ?_;cases h;exact(Le.forget _ ⟨rfl,trivial⟩)
       ·refine zAb [] [] rfl ?_;cases h;exact(Le.forget _ ⟨rfl,trivial⟩)
  ·show Tri ..;refine zAj hle ?_;refine zAh rfl h (fun hb h=>?_) (fun hb h=>?_)
   ·refine zAa ?_;refine zAb [] [] rfl ?_;show Tri ..;refine zAd ?_;cases h;replace h:some _=some _:=ho1;have hy:=Option.some.inj h;subst hy;unfold zAt;exact⟨_,Le.refl _ _,rfl,rfl⟩
   ·refine zAf ?_;cases h;exact⟨_,rfl,(Le.forget _ trivial)⟩
 ·subst hz;obtain _:=z;replace h:=ho1;show Tri ..;refine zAj hle ?_;refine zAa ?_;refine zAb [] [] rfl ?_;show Tri ..;refine zAd ?_;have hy:=Option.some.inj h;subst hy;unfold zAt;exact⟨_,Le.refl _ _,rfl,rfl⟩
def zNr (n:Nat) (xs:List AV) (r:Ret):Prop:=∃ (a0:List UInt8) (y0:Bool),zD0 n a0=some y0/\xs=[.s (.str a0)]/\r = .val (.s (.bool y0))
def zIJ:zAy:=zAx fun xs r=>∃ n,zNr n xs r
theorem zMn:PSound Tryz.prog 139 zIJ:=by
 have gok:∀ f s,look? f [(170,zHU),(171,zFA),(172,zHT),(142,zGm)]=some s->PSound Tryz.prog f s:=zAv (by
  simp only[List.forall_mem_cons]
  exact⟨zLr,zIp,zLq,zH2,by simp⟩)
 refine zAz tokW Tryz.call139 Tryz.func139 rfl (fun xs r h=>by obtain⟨n,_,_,_,rfl,_⟩:=h; show 1<=34; decide) 34 rfl ?_;rintro xs r w0 G0 ⟨n,s1,y0,h,rfl,rfl⟩ _;rw[zD0]at h;refine zAa ?_;refine zAb [] [] rfl ?_;show Tri ..;refine zAa ?_;refine zAa ?_;refine zAb [] [] rfl ?_;show Tri ..;refine zAh rfl h (fun hb h=>?_) (fun hb h=>?_)
 ·refine zAa ?_;obtain⟨x2,hj,h⟩:=zAc h;refine zAq ⟨ofL [(2,.s (.bool x2))],fun _=>none,0⟩ ?_ (fun σ' hle=>?_)
  ·replace h:=hj;refine zAb [] [8] rfl ?_;obtain⟨y3,hy3,h⟩:=zAc h;refine⟨_,⟨_,_,_,hy3,rfl,rfl⟩,?_⟩
   intro b hb;cases b with
   | true =>
    replace h:=zAD hb.symm h;cases h;exact(Le.forget _ ⟨rfl,trivial⟩)
   | false =>
    replace h:=zAC hb.symm h;obtain⟨y4,hy4,h⟩:=zAc h;refine⟨_,⟨_,_,_,hy4,rfl,rfl⟩,?_⟩
    cases h;exact(Le.forget _ ⟨rfl,trivial⟩)
  ·show Tri ..;refine zAj hle ?_;refine zAd ?_;have hy:=Option.some.inj h;subst hy;unfold zAt;exact⟨_,Le.refl _ _,rfl,rfl⟩
 ·refine zAf ?_;show Tri ..;refine zAa ?_;obtain⟨x5,hj,h⟩:=zAc h;refine zAq ⟨ofL [(2,.s (.bool x5))],fun _=>none,0⟩ ?_ (fun σ' hle=>?_)
  ·replace h:=hj;refine zAb [] [15,20,24,29] rfl ?_;intro b hb;cases b with
   | true =>
    replace h:=zAD hb.symm h;intro b hb;cases b with
    | true =>
     replace h:=zAD hb.symm h;obtain⟨y6,hy6,h⟩:=zAc h;refine⟨_,⟨_,_,_,hy6,rfl,rfl⟩,?_⟩
     intro b hb;cases b with
     | true =>
      replace h:=zAD hb.symm h;obtain⟨y7,hy7,h⟩:=zAc h;refine⟨_,⟨_,_,hy7,rfl,rfl⟩,?_⟩
      intro b hb;cases b with
      | true =>
       replace h:=zAD hb.symm h;obtain⟨y8,hy8,h⟩:=zAc h;refine⟨_,⟨_,_,hy8,rfl,rfl⟩,?_⟩
       cases h;exact(Le.forget _ ⟨rfl,trivial⟩)
      | false =>
       replace h:=zAC hb.symm h;cases h;exact(Le.forget _ ⟨rfl,trivial⟩)
     | false =>
      replace h:=zAC hb.symm h;intro b hb;subst hb;cases h;exact(Le.forget _ ⟨rfl,trivial⟩)
    | false =>
     replace h:=zAC hb.symm h;intro b hb;subst hb;intro b hb;subst hb;cases h;exact(Le.forget _ ⟨rfl,trivial⟩)
   | false =>
    replace h:=zAC hb.symm h;intro b hb;subst hb;intro b hb;subst hb;intro b hb;subst hb;cases h;exact(Le.forget _ ⟨rfl,trivial⟩)
  ·show Tri ..;refine zAj hle ?_;refine zAd ?_;have hy:=Option.some.inj h;subst hy;unfold zAt;exact⟨_,Le.refl _ _,rfl,rfl⟩
def zJj (xs:List AV) (r:Ret):Prop:=∃ (a0:List UInt8) (a1:List UInt8) (y0:List UInt8) (y1:List UInt8) (y2:Bool),zCn a0 a1=some (y0,y1,y2)/\xs=[.s (.str a0),.s (.str a1)]/\r = .val (.tup [.s (.str y0),.s (.str y1),.s (.bool y2)])
def zF4:zAy:=zAx fun xs r=>zJj xs r
theorem zI0:PSound Tryz.prog 193 zF4:=by
 have gok:∀ f s,look? f [(200,zFa)]=some s->PSound Tryz.prog f s:=zAv (by
  simp only[List.forall_mem_cons]
  exact⟨zHJ,by simp⟩)
 refine zAz tokW Tryz.call193 Tryz.func193 rfl (fun xs r h=>by obtain⟨_,_,_,_,_,_,rfl,_⟩:=h; show 2<=23; decide) 23 rfl ?_;rintro xs r w0 G0 ⟨s1,sep2,y0,y1,y2,h,rfl,rfl⟩ _;rw[zCn]at h;refine zAa ?_;refine zAb [] [] rfl ?_;show Tri ..;refine zAa ?_;refine zAa ?_;refine zAb [] [] rfl ?_;obtain⟨y3,hy3,h⟩:=zAc h;refine⟨_,⟨_,_,_,hy3,rfl,rfl⟩,?_⟩
 show Tri ..;refine zAa ?_;refine zAb [] [] rfl ?_;show Tri ..;refine zAh rfl h (fun hb h=>?_) (fun hb h=>?_)
 ·refine zAa ?_;refine zA2 [] [] [] rfl (by decide +kernel) ?_;obtain⟨hq,h⟩:=zAK h;refine And.intro hq ?_;obtain⟨hq,h⟩:=zAK h;refine And.intro hq ?_;show Tri ..;refine zAd ?_;obtain⟨hj1,hk1⟩:=pij h;subst hj1;obtain⟨hj2,hk2⟩:=Prod.mk.inj hk1;subst hj2;subst hk2;unfold zAt;exact⟨_,Le.refl _ _,rfl,rfl⟩
 ·refine zAf ?_;show Tri ..;refine zAa ?_;refine zAb [] [] rfl ?_;show Tri ..;refine zAd ?_;obtain⟨hj1,hk1⟩:=pij h;subst hj1;obtain⟨hj2,hk2⟩:=Prod.mk.inj hk1;subst hj2;subst hk2;unfold zAt;exact⟨_,Le.refl _ _,rfl,rfl⟩
def zNy (xs:List AV) (r:Ret):Prop:=∃ (a0:List UInt8) (a1:List UInt8) (y0:List UInt8) (y1:List UInt8) (y2:Bool),zD5 a0 a1=some (y0,y1,y2)/\xs=[.s (.str a0),.s (.str a1)]/\r = .val (.tup [.s (.str y0),.s (.str y1),.s (.bool y2)])
def zIO:zAy:=zAx fun xs r=>zNy xs r
theorem zMs:PSound Tryz.prog 173 zIO:=by
 have gok:∀ f s,look? f [(193,zF4)]=some s->PSound Tryz.prog f s:=zAv (by
  simp only[List.forall_mem_cons]
  exact⟨zI0,by simp⟩)
 refine zAz tokW Tryz.call173 Tryz.func173 rfl (fun xs r h=>by obtain⟨_,_,_,_,_,_,rfl,_⟩:=h; show 2<=13; decide) 13 rfl ?_;rintro xs r w0 G0 ⟨s1,sep2,y0,y1,y2,h,rfl,rfl⟩ _;rw[zD5]at h;refine zAa ?_;refine zAb [] [] rfl ?_;show Tri ..;refine zAa ?_;refine zAb [] [] rfl ?_;obtain⟨⟨y3,y4,y5⟩,hy3,h⟩:=zAc h;refine⟨_,⟨_,_,_,_,_,hy3,rfl,rfl⟩,?_⟩
 show Tri ..;refine zAd ?_;obtain⟨hj1,hk1⟩:=pij h;subst hj1;obtain⟨hj2,hk2⟩:=Prod.mk.inj hk1;subst hj2;subst hk2;unfold zAt;exact⟨_,Le.refl _ _,rfl,rfl⟩
def zNt (n:Nat) (xs:List AV) (r:Ret):Prop:=∃ (a0:List UInt8) (y0:Bool),zDf n a0=some y0/\xs=[.s (.str a0)]/\r = .val (.s (.bool y0))
def zIK:zAy:=zAx fun xs r=>∃ n,zNt n xs r
theorem zMo:PSound Tryz.prog 174 zIK:=by
 have gok:=@gok0 Tryz.prog;refine zAz tokW Tryz.call174 Tryz.func174 rfl (fun xs r h=>by obtain⟨n,_,_,_,rfl,_⟩:=h; show 1<=22; decide) 22 rfl ?_;rintro xs r w0 G0 ⟨n,s1,y0,h,rfl,rfl⟩ _;rw[zDf]at h;refine zAa ?_;refine zAb [] [] rfl ?_;show Tri ..;refine zAa ?_;refine zAa ?_;refine zAb [] [] rfl ?_;show Tri ..;obtain⟨fl,hl,ho1⟩:=zAc h;refine zBA (fl:=fl) (fun z=>match z with | _=>⟨ofL [(0,.s (.str s1))],fun _=>none,0⟩) ?_ (fun z σ' hz hle=>?_)
 ·refine zAk (zAG (X:=Nat×Int) (fun y=>match y with | (k,i2)=>⟨ofL [(0,.s (.str s1)),(3,.s (.int .i64 i2))],fun _=>none,0⟩) (fun y=>zBi s1 y.1 y.2=some fl) (fun y=>y.1) (n,0) hl ?_ ?_)
  ·exact(Le.forget _ ⟨rfl,rfl,trivial⟩)
  ·rintro⟨k,i2⟩ h;cases k with
   | zero=>cases h
   | succ k =>
    replace h:zBi s1 (k+1) i2=some fl:=h;rw[zBi]at h;refine zAa ?_;refine zAa ?_;refine zAb [] [] rfl ?_;show Tri ..;refine zAh rfl h (fun hb h=>?_) (fun hb h=>?_)
    ·refine zAf ?_;show Tri ..;refine zAa ?_;refine zAk ?_;refine zAa ?_;obtain⟨x3,hj,h⟩:=zAc h;refine zAq ⟨ofL [(0,.s (.str s1)),(3,.s (.int .i64 i2)),(19,.s (.bool x3))],fun _=>none,0⟩ ?_ (fun σ' hle=>?_)
     ·replace h:=hj;refine zAb [] [12,14,17] rfl ?_;obtain⟨c4,hc4,h⟩:=zAc h;refine And.intro (zBr hc4).1 ?_;intro v5 hv5;obtain rfl:(c4.toNat:Int)=v5:=(hv5.trans (zBr hc4).2).symm;intro b hb;cases b with
      | true =>
       replace h:=zAD hb.symm h;cases h;exact(Le.forget _ ⟨rfl,rfl,rfl,trivial⟩)
      | false =>
       replace h:=zAC hb.symm h;obtain⟨c6,hc6,h⟩:=zAc h;refine And.intro (zBr hc6).1 ?_;intro v7 hv7;obtain rfl:(c6.toNat:Int)=v7:=(hv7.trans (zBr hc6).2).symm;cases h;exact(Le.forget _ ⟨rfl,rfl,rfl,trivial⟩)
     ·show Tri ..;refine zAj hle ?_;refine zAh rfl h (fun hb h=>?_) (fun hb h=>?_)
      ·refine zAa ?_;refine zAb [] [] rfl ?_;show Tri ..;refine zAd ?_;cases h;replace h:some _=some _:=ho1;have hy:=Option.some.inj h;subst hy;unfold zAt;exact⟨_,Le.refl _ _,rfl,rfl⟩
      ·refine zAf ?_;show Tri ..;refine zAb [] [] rfl ?_;refine⟨(k,IntKind.i64.wrap (i2+1)),h,(Le.forget _ ⟨rfl,rfl,trivial⟩),Nat.lt_succ_self k⟩
    ·refine zAI ?_;cases h;exact⟨_,rfl,(Le.forget _ ⟨rfl,trivial⟩)⟩
 ·subst hz;obtain _:=z;replace h:=ho1;show Tri ..;refine zAj hle ?_;refine zAa ?_;refine zAb [] [] rfl ?_;show Tri ..;refine zAd ?_;have hy:=Option.some.inj h;subst hy;unfold zAt;exact⟨_,Le.refl _ _,rfl,rfl⟩
def zNq (n:Nat) (xs:List AV) (r:Ret):Prop:=∃ (a0:List UInt8) (y0:Bool),zDd n a0=some y0/\xs=[.s (.str a0)]/\r = .val (.s (.bool y0))
def zII:zAy:=zAx fun xs r=>∃ n,zNq n xs r
theorem zMm:PSound Tryz.prog 140 zII:=by
 have gok:∀ f s,look? f [(173,zIO),(174,zIK)]=some s->PSound Tryz.prog f s:=zAv (by
  simp only[List.forall_mem_cons]
  exact⟨zMs,zMo,by simp⟩)
 refine zAz tokW Tryz.call140 Tryz.func140 rfl (fun xs r h=>by obtain⟨n,_,_,_,rfl,_⟩:=h; show 1<=27; decide) 27 rfl ?_;rintro xs r w0 G0 ⟨n,s1,y0,h,rfl,rfl⟩ _;rw[zDd]at h;refine zAa ?_;refine zAb [] [] rfl ?_;show Tri ..;refine zAa ?_;refine zAb [] [] rfl ?_;obtain⟨⟨y2,y3,y4⟩,hy2,h⟩:=zAc h;refine⟨_,⟨_,_,_,_,_,hy2,rfl,rfl⟩,?_⟩
 show Tri ..;refine zAa ?_;obtain⟨x5,hj,h⟩:=zAc h;refine zAq ⟨ofL [(2,.s (.bool x5))],fun _=>none,0⟩ ?_ (fun σ' hle=>?_)
 ·replace h:=hj;refine zAb [] [15,19,22] rfl ?_;intro b hb;cases b with
  | true =>
   replace h:=zAD hb.symm h;obtain⟨y6,hy6,h⟩:=zAc h;refine⟨_,⟨_,_,_,hy6,rfl,rfl⟩,?_⟩
   intro b hb;cases b with
   | true =>
    replace h:=zAD hb.symm h;intro b hb;cases b with
    | true =>
     replace h:=zAD hb.symm h;cases h;exact(Le.forget _ ⟨rfl,trivial⟩)
    | false =>
     replace h:=zAC hb.symm h;obtain⟨y7,hy7,h⟩:=zAc h;refine⟨_,⟨_,_,_,hy7,rfl,rfl⟩,?_⟩
     cases h;exact(Le.forget _ ⟨rfl,trivial⟩)
   | false =>
    replace h:=zAC hb.symm h;cases h;exact(Le.forget _ ⟨rfl,trivial⟩)
  | false =>
   replace h:=zAC hb.symm h;intro b hb;subst hb;cases h;exact(Le.forget _ ⟨rfl,trivial⟩)
 ·show Tri ..;refine zAj hle ?_;refine zAd ?_;have hy:=Option.some.inj h;subst hy;unfold zAt;exact⟨_,Le.refl _ _,rfl,rfl⟩
def zOy (n:Nat) (xs:List AV) (r:Ret):Prop:=∃ (a0:List UInt8) (y0:Bool),zEw n a0=some y0/\xs=[.s (.str a0)]/\r = .val (.s (.bool y0))
def zJL:zAy:=zAx fun xs r=>∃ n,zOy n xs r
theorem zNY:PSound Tryz.prog 141 zJL:=by
 have gok:=@gok0 Tryz.prog;refine zAz tokW Tryz.call141 Tryz.func141 rfl (fun xs r h=>by obtain⟨n,_,_,_,rfl,_⟩:=h; show 1<=23; decide) 23 rfl ?_;rintro xs r w0 G0 ⟨n,s1,y0,h,rfl,rfl⟩ _;rw[zEw]at h;refine zAa ?_;refine zAb [] [] rfl ?_;show Tri ..;refine zAa ?_;refine zAa ?_;refine zAb [] [] rfl ?_;show Tri ..;obtain⟨fl,hl,ho1⟩:=zAc h;refine zBA (fl:=fl) (fun z=>match z with | _=>⟨ofL [(0,.s (.str s1))],fun _=>none,0⟩) ?_ (fun z σ' hz hle=>?_)
 ·refine zAk (zAG (X:=Nat×Int) (fun y=>match y with | (k,i2)=>⟨ofL [(0,.s (.str s1)),(3,.s (.int .i64 i2))],fun _=>none,0⟩) (fun y=>zBw s1 y.1 y.2=some fl) (fun y=>y.1) (n,0) hl ?_ ?_)
  ·exact(Le.forget _ ⟨rfl,rfl,trivial⟩)
  ·rintro⟨k,i2⟩ h;cases k with
   | zero=>cases h
   | succ k =>
    replace h:zBw s1 (k+1) i2=some fl:=h;rw[zBw]at h;refine zAa ?_;refine zAa ?_;refine zAb [] [] rfl ?_;show Tri ..;refine zAh rfl h (fun hb h=>?_) (fun hb h=>?_)
    ·refine zAf ?_;show Tri ..;refine zAa ?_;refine zAk ?_;refine zAa ?_;obtain⟨x3,hj,h⟩:=zAc h;refine zAq ⟨ofL [(0,.s (.str s1)),(3,.s (.int .i64 i2)),(19,.s (.bool x3))],fun _=>none,0⟩ ?_ (fun σ' hle=>?_)
     ·replace h:=hj;refine zAb [] [12,14,17] rfl ?_;obtain⟨c4,hc4,h⟩:=zAc h;refine And.intro (zBr hc4).1 ?_;intro v5 hv5;obtain rfl:(c4.toNat:Int)=v5:=(hv5.trans (zBr hc4).2).symm;intro b hb;cases b with
      | true =>
       replace h:=zAD hb.symm h;cases h;exact(Le.forget _ ⟨rfl,rfl,rfl,trivial⟩)
      | false =>
       replace h:=zAC hb.symm h;obtain⟨c6,hc6,h⟩:=zAc h;refine And.intro (zBr hc6).1 ?_;intro v7 hv7;obtain rfl:(c6.toNat:Int)=v7:=(hv7.trans (zBr hc6).2).symm;cases h;exact(Le.forget _ ⟨rfl,rfl,rfl,trivial⟩)
     ·show Tri ..;refine zAj hle ?_;refine zAh rfl h (fun hb h=>?_) (fun hb h=>?_)
      ·refine zAa ?_;refine zAb [] [] rfl ?_;show Tri ..;refine zAd ?_;cases h;replace h:some _=some _:=ho1;have hy:=Option.some.inj h;subst hy;unfold zAt;exact⟨_,Le.refl _ _,rfl,rfl⟩
      ·refine zAf ?_;show Tri ..;refine zAb [] [] rfl ?_;refine⟨(k,IntKind.i64.wrap (i2+1)),h,(Le.forget _ ⟨rfl,rfl,trivial⟩),Nat.lt_succ_self k⟩
    ·refine zAI ?_;cases h;exact⟨_,rfl,(Le.forget _ ⟨rfl,trivial⟩)⟩
 ·subst hz;obtain _:=z;replace h:=ho1;show Tri ..;refine zAj hle ?_;refine zAa ?_;refine zAb [] [] rfl ?_;show Tri ..;refine zAd ?_;have hy:=Option.some.inj h;subst hy;unfold zAt;exact⟨_,Le.refl _ _,rfl,rfl⟩
def zOw (xs:List AV) (r:Ret):Prop:=∃ (a0:List UInt8) (y0:Bool),zEv a0=some y0/\xs=[.s (.str a0)]/\r = .val (.s (.bool y0))
def zJJ:zAy:=zAx fun xs r=>zOw xs r
theorem zNW:PSound Tryz.prog 143 zJJ:=by
 have gok:∀ f s,look? f [(175,zE9)]=some s->PSound Tryz.prog f s:=zAv (by
  simp only[List.forall_mem_cons]
  exact⟨zHI,by simp⟩)
 refine zAz tokW Tryz.call143 Tryz.func143 rfl (fun xs r h=>by obtain⟨_,_,_,rfl,_⟩:=h; show 1<=18; decide) 18 rfl ?_;rintro xs r w0 G0 ⟨s1,y0,h,rfl,rfl⟩ _;rw[zEv]at h;refine zAa ?_;refine zAb [] [] rfl ?_;show Tri ..;refine zAa ?_;obtain⟨x2,hj,h⟩:=zAc h;refine zAq ⟨ofL [(2,.s (.bool x2))],fun _=>none,0⟩ ?_ (fun σ' hle=>?_)
 ·replace h:=hj;refine zAb [] [6,8,12,14] rfl ?_;intro b hb;cases b with
  | true =>
   replace h:=zAD hb.symm h;obtain⟨c3,hc3,h⟩:=zAc h;refine And.intro (zBr hc3).1 ?_;intro v4 hv4;obtain rfl:(c3.toNat:Int)=v4:=(hv4.trans (zBr hc3).2).symm;obtain⟨y5,hy5,h⟩:=zAc h;refine⟨_,⟨_,_,_,hy5,rfl,rfl⟩,?_⟩
   intro b hb;cases b with
   | true =>
    replace h:=zAD hb.symm h;obtain⟨c6,hc6,h⟩:=zAc h;refine And.intro (zBr hc6).1 ?_;intro v7 hv7;obtain rfl:(c6.toNat:Int)=v7:=(hv7.trans (zBr hc6).2).symm;obtain⟨y8,hy8,h⟩:=zAc h;refine⟨_,⟨_,_,_,hy8,rfl,rfl⟩,?_⟩
    cases h;exact(Le.forget _ ⟨rfl,trivial⟩)
   | false =>
    replace h:=zAC hb.symm h;cases h;exact(Le.forget _ ⟨rfl,trivial⟩)
  | false =>
   replace h:=zAC hb.symm h;intro b hb;subst hb;cases h;exact(Le.forget _ ⟨rfl,trivial⟩)
 ·show Tri ..;refine zAj hle ?_;refine zAd ?_;have hy:=Option.some.inj h;subst hy;unfold zAt;exact⟨_,Le.refl _ _,rfl,rfl⟩
def zAo (p:Unit):List S:=[.str [],.int .i64 0,.nf,.str [114,111,119],.int .i64 0,.fn 138,.str [115,121,109],.int .i64 0,.fn 139,.str [110,117,109],.int .i64 0,.fn 140,.str [116,101,120,116],.int .i64 0,.fn 141,.str [102,114,97,99],.int .i64 2,.fn 138,.str [114,111,111,116],.int .i64 2,.fn 138,.str [115,117,98],.int .i64 2,.fn 138,.str [115,117,112],.int .i64 2,.fn 138,.str [98,111,116,104],.int .i64 3,.fn 138,.str [97,99,99,101,110,116],.int .i64 1,.fn 142,.str [102,101,110,99,101],.int .i64 1,.fn 143,.str [109,97,116,114,105,120],.int .i64 0,.fn 138]
def zOx (xs:List AV) (r:Ret):Prop:=∃ (y0:Unit),zFB=some y0/\xs=[]/\r = .val (.agg ((zAo y0).map .s))
def zJK:zAy:=zAx fun xs r=>zOx xs r
theorem zNX:PSound Tryz.prog 109 zJK:=by
 have gok:=@gok0 Tryz.prog;refine zAz tokW Tryz.call109 Tryz.func109 rfl (fun xs r h=>by obtain⟨_,_,rfl,_⟩:=h; show 0<=14; decide) 14 rfl ?_;rintro xs r w0 G0 ⟨y0,h,rfl,rfl⟩ _;rw[zFB]at h;refine zAa ?_;refine zAb [0] [] rfl ?_;show Tri ..;refine zAa ?_;refine zAb [] [] rfl ?_;show Tri ..;refine zAd ?_;have hy:=Option.some.inj h;subst hy;unfold zAt;exact⟨_,Le.refl _ _,rfl,rfl⟩
def zAl (p:(Unit×Int)):List S:=[.str [],.int .i64 0,.nf,.str [114,111,119],.int .i64 0,.fn 138,.str [115,121,109],.int .i64 0,.fn 139,.str [110,117,109],.int .i64 0,.fn 140,.str [116,101,120,116],.int .i64 0,.fn 141,.str [102,114,97,99],.int .i64 2,.fn 138,.str [114,111,111,116],.int .i64 2,.fn 138,.str [115,117,98],.int .i64 2,.fn 138,.str [115,117,112],.int .i64 2,.fn 138,.str [98,111,116,104],.int .i64 3,.fn 138,.str [97,99,99,101,110,116],.int .i64 1,.fn 142,.str [102,101,110,99,101],.int .i64 1,.fn 143,.str [109,97,116,114,105,120],.int .i64 0,.fn 138,.int .i64 p.2]
def zIC (n:Nat) (xs:List AV) (os:List Ob) (x:AV) (os':List (Option Ob)):Prop:=∃ (a0:(Unit×Int)) (a1:Nd) (y0:Bool) (z0:(Unit×Int)),zB4 n a0 a1=some (y0,z0)/\xs=[.op 0 0,.s (.pt (Nd.enc a1))]/\os=[.box 167 ((zAl a0).map .s)]/\x = .s (.bool y0)/\os'=[some (.box 167 ((zAl z0).map .s))]
def zFz:zAy:=zEj (fun xs os x os'=>∃ n,zIC n xs os x os')
theorem zIo:PSound Tryz.prog 144 zFz:=by
 have gok:∀ f s,look? f [(138,zJI),(139,zIJ),(140,zII),(141,zJL),(142,zGm),(143,zJJ)]=some s->PSound Tryz.prog f s:=zAv (by
  simp only[List.forall_mem_cons]
  exact⟨zNV,zMn,zMm,zNY,zH2,zNW,by simp⟩)
 refine PSound.withNil (zPG tokW Tryz.call144 Tryz.func144 rfl (fun xs os x os' h=>by obtain⟨n,_,_,_,_,_,rfl,rfl,_,rfl⟩:=h; exact⟨by show 2<=120; decide,by show 1<=1; decide⟩) 120 rfl ?_) _;rintro xs os x os' w0 G0 B0 ⟨n,⟨_,o1H⟩,⟨a2A,a2B,a2D,a2C⟩,y0,z0,h,rfl,rfl,rfl,rfl⟩ _;rw[zB4]at h;refine zAa ?_;refine zAb [] [] rfl ?_;show Tri ..;refine zAa ?_;refine zAa ?_;obtain⟨x3,hj,h⟩:=zAc h
 refine zAq ⟨ofL [(0,.op 0 0),(1,.s (.pt [.int .i64 a2A,.str a2B,.int .i64 a2D,.sl 4 (Nd.encs a2C)])),(34,.s (.bool x3))],ofH [(0,.box 167 [.s (.str []),.s (.int .i64 0),.s (.nf),.s (.str [114,111,119]),.s (.int .i64 0),.s (.fn 138),.s (.str [115,121,109]),.s (.int .i64 0),.s (.fn 139),.s (.str [110,117,109]),.s (.int .i64 0),.s (.fn 140),.s (.str [116,101,120,116]),.s (.int .i64 0),.s (.fn 141),.s (.str [102,114,97,99]),.s (.int .i64 2),.s (.fn 138),.s (.str [114,111,111,116]),.s (.int .i64 2),.s (.fn 138),.s (.str [115,117,98]),.s (.int .i64 2),.s (.fn 138),.s (.str [115,117,112]),.s (.int .i64 2),.s (.fn 138),.s (.str [98,111,116,104]),.s (.int .i64 3),.s (.fn 138),.s (.str [97,99,99,101,110,116]),.s (.int .i64 1),.s (.fn 142),.s (.str [102,101,110,99,101]),.s (.int .i64 1),.s (.fn 143),.s (.str [109,97,116,114,105,120]),.s (.int .i64 0),.s (.fn 138),.s (.int .i64 o1H)])],1⟩ ?_ (fun σ' hle=>?_)
 ·replace h:=hj;refine zA2 [] [10,17,22] [22] rfl (by decide +kernel) ?_;intro b hb;cases b with
  | true =>
   replace h:=zAD hb.symm h;intro b hb;subst hb;cases h;exact(Le.rnm [(0,0)] _ _ _ ⟨rfl,rfl,rfl,trivial⟩ ⟨rfl,⟨_,rfl,rfl⟩,trivial⟩)
  | false =>
   replace h:=zAC hb.symm h;intro b hb;cases b with
   | true =>
    replace h:=zAD hb.symm h;cases h;exact(Le.rnm [(0,0)] _ _ _ ⟨rfl,rfl,rfl,trivial⟩ ⟨rfl,⟨_,rfl,rfl⟩,trivial⟩)
   | false =>
    replace h:=zAC hb.symm h;intro vsp hvsp;cases hc:(a2A == 1) with
    | true =>
     replace h:=zAD hc h;obtain rfl:(1:Int)=vsp:=(hvsp.trans (eq_of_beq hc)).symm;refine And.intro (by decide) ?_;obtain⟨y4,hy4,h⟩:=zAc h;refine⟨_,⟨_,_,hy4,rfl,rfl⟩,?_⟩
     cases h;exact(Le.rnm [(0,0)] _ _ _ ⟨rfl,rfl,rfl,trivial⟩ ⟨rfl,⟨_,rfl,rfl⟩,trivial⟩)
    | false =>
     replace h:=zAC hc h;cases hc:(a2A == 2) with
     | true =>
      replace h:=zAD hc h;obtain rfl:(2:Int)=vsp:=(hvsp.trans (eq_of_beq hc)).symm;refine And.intro (by decide) ?_;obtain⟨y5,hy5,h⟩:=zAc h;refine⟨_,⟨_,_,_,hy5,rfl,rfl⟩,?_⟩
      cases h;exact(Le.rnm [(0,0)] _ _ _ ⟨rfl,rfl,rfl,trivial⟩ ⟨rfl,⟨_,rfl,rfl⟩,trivial⟩)
     | false =>
      replace h:=zAC hc h;cases hc:(a2A == 3) with
      | true =>
       replace h:=zAD hc h;obtain rfl:(3:Int)=vsp:=(hvsp.trans (eq_of_beq hc)).symm;refine And.intro (by decide) ?_;obtain⟨y6,hy6,h⟩:=zAc h;refine⟨_,⟨_,_,_,hy6,rfl,rfl⟩,?_⟩
       cases h;exact(Le.rnm [(0,0)] _ _ _ ⟨rfl,rfl,rfl,trivial⟩ ⟨rfl,⟨_,rfl,rfl⟩,trivial⟩)
      | false =>
       replace h:=zAC hc h;cases hc:(a2A == 4) with
       | true =>
        replace h:=zAD hc h;obtain rfl:(4:Int)=vsp:=(hvsp.trans (eq_of_beq hc)).symm;refine And.intro (by decide) ?_;obtain⟨y7,hy7,h⟩:=zAc h;refine⟨_,⟨_,_,_,hy7,rfl,rfl⟩,?_⟩
        cases h;exact(Le.rnm [(0,0)] _ _ _ ⟨rfl,rfl,rfl,trivial⟩ ⟨rfl,⟨_,rfl,rfl⟩,trivial⟩)
       | false =>
        replace h:=zAC hc h;cases hc:(a2A == 5) with
        | true =>
         replace h:=zAD hc h;obtain rfl:(5:Int)=vsp:=(hvsp.trans (eq_of_beq hc)).symm;refine And.intro (by decide) ?_;obtain⟨y8,hy8,h⟩:=zAc h;refine⟨_,⟨_,_,hy8,rfl,rfl⟩,?_⟩
         cases h;exact(Le.rnm [(0,0)] _ _ _ ⟨rfl,rfl,rfl,trivial⟩ ⟨rfl,⟨_,rfl,rfl⟩,trivial⟩)
        | false =>
         replace h:=zAC hc h;cases hc:(a2A == 6) with
         | true =>
          replace h:=zAD hc h;obtain rfl:(6:Int)=vsp:=(hvsp.trans (eq_of_beq hc)).symm;refine And.intro (by decide) ?_;obtain⟨y9,hy9,h⟩:=zAc h;refine⟨_,⟨_,_,hy9,rfl,rfl⟩,?_⟩
          cases h;exact(Le.rnm [(0,0)] _ _ _ ⟨rfl,rfl,rfl,trivial⟩ ⟨rfl,⟨_,rfl,rfl⟩,trivial⟩)
         | false =>
          replace h:=zAC hc h;cases hc:(a2A == 7) with
          | true =>
           replace h:=zAD hc h;obtain rfl:(7:Int)=vsp:=(hvsp.trans (eq_of_beq hc)).symm;refine And.intro (by decide) ?_;obtain⟨y10,hy10,h⟩:=zAc h;refine⟨_,⟨_,_,hy10,rfl,rfl⟩,?_⟩
           cases h;exact(Le.rnm [(0,0)] _ _ _ ⟨rfl,rfl,rfl,trivial⟩ ⟨rfl,⟨_,rfl,rfl⟩,trivial⟩)
          | false =>
           replace h:=zAC hc h;cases hc:(a2A == 8) with
           | true =>
            replace h:=zAD hc h;obtain rfl:(8:Int)=vsp:=(hvsp.trans (eq_of_beq hc)).symm;refine And.intro (by decide) ?_;obtain⟨y11,hy11,h⟩:=zAc h;refine⟨_,⟨_,_,hy11,rfl,rfl⟩,?_⟩
            cases h;exact(Le.rnm [(0,0)] _ _ _ ⟨rfl,rfl,rfl,trivial⟩ ⟨rfl,⟨_,rfl,rfl⟩,trivial⟩)
           | false =>
            replace h:=zAC hc h;cases hc:(a2A == 9) with
            | true =>
             replace h:=zAD hc h;obtain rfl:(9:Int)=vsp:=(hvsp.trans (eq_of_beq hc)).symm;refine And.intro (by decide) ?_;obtain⟨y12,hy12,h⟩:=zAc h;refine⟨_,⟨_,_,hy12,rfl,rfl⟩,?_⟩
             cases h;exact(Le.rnm [(0,0)] _ _ _ ⟨rfl,rfl,rfl,trivial⟩ ⟨rfl,⟨_,rfl,rfl⟩,trivial⟩)
            | false =>
             replace h:=zAC hc h;cases hc:(a2A == 10) with
             | true =>
              replace h:=zAD hc h;obtain rfl:(10:Int)=vsp:=(hvsp.trans (eq_of_beq hc)).symm;refine And.intro (by decide) ?_;obtain⟨y13,hy13,h⟩:=zAc h;refine⟨_,⟨_,_,hy13,rfl,rfl⟩,?_⟩
              cases h;exact(Le.rnm [(0,0)] _ _ _ ⟨rfl,rfl,rfl,trivial⟩ ⟨rfl,⟨_,rfl,rfl⟩,trivial⟩)
             | false =>
              replace h:=zAC hc h;cases hc:(a2A == 11) with
              | true =>
               replace h:=zAD hc h;obtain rfl:(11:Int)=vsp:=(hvsp.trans (eq_of_beq hc)).symm;refine And.intro (by decide) ?_;obtain⟨y14,hy14,h⟩:=zAc h;refine⟨_,⟨_,_,hy14,rfl,rfl⟩,?_⟩
               cases h;exact(Le.rnm [(0,0)] _ _ _ ⟨rfl,rfl,rfl,trivial⟩ ⟨rfl,⟨_,rfl,rfl⟩,trivial⟩)
              | false =>
               replace h:=zAC hc h;cases hc:(a2A == 12) with
               | true =>
                replace h:=zAD hc h;obtain rfl:(12:Int)=vsp:=(hvsp.trans (eq_of_beq hc)).symm;refine And.intro (by decide) ?_;obtain⟨y15,hy15,h⟩:=zAc h;refine⟨_,⟨_,_,hy15,rfl,rfl⟩,?_⟩
                cases h;exact(Le.rnm [(0,0)] _ _ _ ⟨rfl,rfl,rfl,trivial⟩ ⟨rfl,⟨_,rfl,rfl⟩,trivial⟩)
               | false =>
                replace h:=zAC hc h;cases h
 ·show Tri ..;refine zAj hle ?_;refine zAh rfl h (fun hb h=>?_) (fun hb h=>?_)
  ·refine zAa ?_;refine zAb [] [] rfl ?_;show Tri ..;refine zAd ?_;obtain⟨hj1,hk1⟩:=pij h;subst hj1 hk1;unfold zEH
   exact⟨_,(Le.rnm [(0,0)] [(4,.s (.bool false))] [(0,.box 167 [.s (.str []),.s (.int .i64 0),.s (.nf),.s (.str [114,111,119]),.s (.int .i64 0),.s (.fn 138),.s (.str [115,121,109]),.s (.int .i64 0),.s (.fn 139),.s (.str [110,117,109]),.s (.int .i64 0),.s (.fn 140),.s (.str [116,101,120,116]),.s (.int .i64 0),.s (.fn 141),.s (.str [102,114,97,99]),.s (.int .i64 2),.s (.fn 138),.s (.str [114,111,111,116]),.s (.int .i64 2),.s (.fn 138),.s (.str [115,117,98]),.s (.int .i64 2),.s (.fn 138),.s (.str [115,117,112]),.s (.int .i64 2),.s (.fn 138),.s (.str [98,111,116,104]),.s (.int .i64 3),.s (.fn 138),.s (.str [97,99,99,101,110,116]),.s (.int .i64 1),.s (.fn 142),.s (.str [102,101,110,99,101]),.s (.int .i64 1),.s (.fn 143),.s (.str [109,97,116,114,105,120]),.s (.int .i64 0),.s (.fn 138),.s (.int .i64 o1H)])] 1 ⟨rfl,trivial⟩ ⟨rfl,⟨_,rfl,rfl⟩,trivial⟩),rfl,rfl,rfl,rfl,trivial⟩
  ·refine zAf ?_;show Tri ..;refine zAa ?_;refine zAa ?_;refine zAb [] [] rfl ?_;show Tri ..;refine zAk ?_;refine zAa ?_;refine zAb [] [] rfl ?_;show Tri ..;refine zAh rfl h (fun hb h=>?_) (fun hb h=>?_)
   ·refine zAa ?_;obtain⟨x16,hj,h⟩:=zAc h
    refine zAq ⟨ofL [(4,.s (.bool x16))],ofH [(0,.box 167 [.s (.str []),.s (.int .i64 0),.s (.nf),.s (.str [114,111,119]),.s (.int .i64 0),.s (.fn 138),.s (.str [115,121,109]),.s (.int .i64 0),.s (.fn 139),.s (.str [110,117,109]),.s (.int .i64 0),.s (.fn 140),.s (.str [116,101,120,116]),.s (.int .i64 0),.s (.fn 141),.s (.str [102,114,97,99]),.s (.int .i64 2),.s (.fn 138),.s (.str [114,111,111,116]),.s (.int .i64 2),.s (.fn 138),.s (.str [115,117,98]),.s (.int .i64 2),.s (.fn 138),.s (.str [115,117,112]),.s (.int .i64 2),.s (.fn 138),.s (.str [98,111,116,104]),.s (.int .i64 3),.s (.fn 138),.s (.str [97,99,99,101,110,116]),.s (.int .i64 1),.s (.fn 142),.s (.str [102,101,110,99,101]),.s (.int .i64 1),.s (.fn 143),.s (.str [109,97,116,114,105,120]),.s (.int .i64 0),.s (.fn 138),.s (.int .i64 o1H)])],1⟩ ?_ (fun σ' hle=>?_)
    ·replace h:=hj;refine zAb [] [46,51] rfl ?_;intro b hb;cases b with
     | true =>
      replace h:=zAD hb.symm h;intro n17 hn17;obtain rfl:(a2C.length:Int)=n17:=(hn17.trans (congrArg (fun m:Nat=>(m:Int)) (rlen Nd.encs_eq a2C))).symm;cases h;exact(Le.rnm [(0,0)] _ _ _ ⟨rfl,trivial⟩ ⟨rfl,⟨_,rfl,rfl⟩,trivial⟩)
     | false =>
      replace h:=zAC hb.symm h;cases h;exact(Le.rnm [(0,0)] _ _ _ ⟨rfl,trivial⟩ ⟨rfl,⟨_,rfl,rfl⟩,trivial⟩)
    ·show Tri ..;refine zAj hle ?_;refine zAd ?_;obtain⟨hj1,hk1⟩:=pij h;subst hj1 hk1;unfold zEH
     exact⟨_,(Le.rnm [(0,0)] [(4,.s (.bool x16))] [(0,.box 167 [.s (.str []),.s (.int .i64 0),.s (.nf),.s (.str [114,111,119]),.s (.int .i64 0),.s (.fn 138),.s (.str [115,121,109]),.s (.int .i64 0),.s (.fn 139),.s (.str [110,117,109]),.s (.int .i64 0),.s (.fn 140),.s (.str [116,101,120,116]),.s (.int .i64 0),.s (.fn 141),.s (.str [102,114,97,99]),.s (.int .i64 2),.s (.fn 138),.s (.str [114,111,111,116]),.s (.int .i64 2),.s (.fn 138),.s (.str [115,117,98]),.s (.int .i64 2),.s (.fn 138),.s (.str [115,117,112]),.s (.int .i64 2),.s (.fn 138),.s (.str [98,111,116,104]),.s (.int .i64 3),.s (.fn 138),.s (.str [97,99,99,101,110,116]),.s (.int .i64 1),.s (.fn 142),.s (.str [102,101,110,99,101]),.s (.int .i64 1),.s (.fn 143),.s (.str [109,97,116,114,105,120]),.s (.int .i64 0),.s (.fn 138),.s (.int .i64 o1H)])] 1 ⟨rfl,trivial⟩ ⟨rfl,⟨_,rfl,rfl⟩,trivial⟩),rfl,rfl,rfl,rfl,trivial⟩
   ·refine zAa ?_;refine zAb [] [] rfl ?_;show Tri ..;refine zAh rfl h (fun hb h=>?_) (fun hb h=>?_)
    ·refine zAa ?_;obtain⟨x18,hj,h⟩:=zAc h
     refine zAq ⟨ofL [(4,.s (.bool x18))],ofH [(0,.box 167 [.s (.str []),.s (.int .i64 0),.s (.nf),.s (.str [114,111,119]),.s (.int .i64 0),.s (.fn 138),.s (.str [115,121,109]),.s (.int .i64 0),.s (.fn 139),.s (.str [110,117,109]),.s (.int .i64 0),.s (.fn 140),.s (.str [116,101,120,116]),.s (.int .i64 0),.s (.fn 141),.s (.str [102,114,97,99]),.s (.int .i64 2),.s (.fn 138),.s (.str [114,111,111,116]),.s (.int .i64 2),.s (.fn 138),.s (.str [115,117,98]),.s (.int .i64 2),.s (.fn 138),.s (.str [115,117,112]),.s (.int .i64 2),.s (.fn 138),.s (.str [98,111,116,104]),.s (.int .i64 3),.s (.fn 138),.s (.str [97,99,99,101,110,116]),.s (.int .i64 1),.s (.fn 142),.s (.str [102,101,110,99,101]),.s (.int .i64 1),.s (.fn 143),.s (.str [109,97,116,114,105,120]),.s (.int .i64 0),.s (.fn 138),.s (.int .i64 o1H)])],1⟩ ?_ (fun σ' hle=>?_)
     ·replace h:=hj;refine zA2 [] [61,68,73,76,81,84,89] [] rfl (by decide +kernel) ?_;intro b hb;cases b with
      | true =>
       replace h:=zAD hb.symm h;intro b hb;cases b with
       | true =>
        replace h:=zAD hb.symm h;intro n19 hn19;obtain rfl:(a2C.length:Int)=n19:=(hn19.trans (congrArg (fun m:Nat=>(m:Int)) (rlen Nd.encs_eq a2C))).symm;intro b hb;cases b with
        | true =>
         replace h:=zAD hb.symm h;intro n20 hn20;obtain rfl:(a2C.length:Int)=n20:=(hn20.trans (congrArg (fun m:Nat=>(m:Int)) (rlen Nd.encs_eq a2C))).symm;intro b hb;cases b with
         | true =>
          replace h:=zAD hb.symm h;intro n21 hn21;obtain rfl:(a2C.length:Int)=n21:=(hn21.trans (congrArg (fun m:Nat=>(m:Int)) (rlen Nd.encs_eq a2C))).symm;obtain⟨hq,h⟩:=zAK h;refine And.intro hq ?_;cases h;exact(Le.rnm [(0,0)] _ _ _ ⟨rfl,trivial⟩ ⟨rfl,⟨_,rfl,rfl⟩,trivial⟩)
         | false =>
          replace h:=zAC hb.symm h;cases h;exact(Le.rnm [(0,0)] _ _ _ ⟨rfl,trivial⟩ ⟨rfl,⟨_,rfl,rfl⟩,trivial⟩)
        | false =>
         replace h:=zAC hb.symm h;intro b hb;subst hb;cases h;exact(Le.rnm [(0,0)] _ _ _ ⟨rfl,trivial⟩ ⟨rfl,⟨_,rfl,rfl⟩,trivial⟩)
       | false =>
        replace h:=zAC hb.symm h;intro b hb;subst hb;intro b hb;subst hb;cases h;exact(Le.rnm [(0,0)] _ _ _ ⟨rfl,trivial⟩ ⟨rfl,⟨_,rfl,rfl⟩,trivial⟩)
      | false =>
       replace h:=zAC hb.symm h;intro b hb;subst hb;intro b hb;subst hb;intro b hb;subst hb;cases h;exact(Le.rnm [(0,0)] _ _ _ ⟨rfl,trivial⟩ ⟨rfl,⟨_,rfl,rfl⟩,trivial⟩)
     ·show Tri ..;refine zAj hle ?_;refine zAd ?_;obtain⟨hj1,hk1⟩:=pij h;subst hj1 hk1;unfold zEH
      exact⟨_,(Le.rnm [(0,0)] [(4,.s (.bool x18))] [(0,.box 167 [.s (.str []),.s (.int .i64 0),.s (.nf),.s (.str [114,111,119]),.s (.int .i64 0),.s (.fn 138),.s (.str [115,121,109]),.s (.int .i64 0),.s (.fn 139),.s (.str [110,117,109]),.s (.int .i64 0),.s (.fn 140),.s (.str [116,101,120,116]),.s (.int .i64 0),.s (.fn 141),.s (.str [102,114,97,99]),.s (.int .i64 2),.s (.fn 138),.s (.str [114,111,111,116]),.s (.int .i64 2),.s (.fn 138),.s (.str [115,117,98]),.s (.int .i64 2),.s (.fn 138),.s (.str [115,117,112]),.s (.int .i64 2),.s (.fn 138),.s (.str [98,111,116,104]),.s (.int .i64 3),.s (.fn 138),.s (.str [97,99,99,101,110,116]),.s (.int .i64 1),.s (.fn 142),.s (.str [102,101,110,99,101]),.s (.int .i64 1),.s (.fn 143),.s (.str [109,97,116,114,105,120]),.s (.int .i64 0),.s (.fn 138),.s (.int .i64 o1H)])] 1 ⟨rfl,trivial⟩ ⟨rfl,⟨_,rfl,rfl⟩,trivial⟩),rfl,rfl,rfl,rfl,trivial⟩
    ·refine zAf ?_;show Tri ..;refine zAa ?_;obtain⟨x22,hj,h⟩:=zAc h
     refine zAq ⟨ofL [(4,.s (.bool x22))],ofH [(0,.box 167 [.s (.str []),.s (.int .i64 0),.s (.nf),.s (.str [114,111,119]),.s (.int .i64 0),.s (.fn 138),.s (.str [115,121,109]),.s (.int .i64 0),.s (.fn 139),.s (.str [110,117,109]),.s (.int .i64 0),.s (.fn 140),.s (.str [116,101,120,116]),.s (.int .i64 0),.s (.fn 141),.s (.str [102,114,97,99]),.s (.int .i64 2),.s (.fn 138),.s (.str [114,111,111,116]),.s (.int .i64 2),.s (.fn 138),.s (.str [115,117,98]),.s (.int .i64 2),.s (.fn 138),.s (.str [115,117,112]),.s (.int .i64 2),.s (.fn 138),.s (.str [98,111,116,104]),.s (.int .i64 3),.s (.fn 138),.s (.str [97,99,99,101,110,116]),.s (.int .i64 1),.s (.fn 142),.s (.str [102,101,110,99,101]),.s (.int .i64 1),.s (.fn 143),.s (.str [109,97,116,114,105,120]),.s (.int .i64 0),.s (.fn 138),.s (.int .i64 o1H)])],1⟩ ?_ (fun σ' hle=>?_)
     ·replace h:=hj;refine zA2 [] [102,107,112] [20] rfl (by decide +kernel) ?_;intro b hb;cases b with
      | true =>
       replace h:=zAD hb.symm h;intro n23 hn23;obtain rfl:(a2C.length:Int)=n23:=(hn23.trans (congrArg (fun m:Nat=>(m:Int)) (rlen Nd.encs_eq a2C))).symm;intro vsp hvsp;cases hc:(a2A == 1) with
       | true =>
        replace h:=zAD hc h;obtain rfl:(1:Int)=vsp:=(hvsp.trans (eq_of_beq hc)).symm;refine And.intro (by decide) ?_;cases h;exact(Le.rnm [(0,0)] _ _ _ ⟨rfl,trivial⟩ ⟨rfl,⟨_,rfl,rfl⟩,trivial⟩)
       | false =>
        replace h:=zAC hc h;cases hc:(a2A == 2) with
        | true =>
         replace h:=zAD hc h;obtain rfl:(2:Int)=vsp:=(hvsp.trans (eq_of_beq hc)).symm;refine And.intro (by decide) ?_;cases h;exact(Le.rnm [(0,0)] _ _ _ ⟨rfl,trivial⟩ ⟨rfl,⟨_,rfl,rfl⟩,trivial⟩)
        | false =>
         replace h:=zAC hc h;cases hc:(a2A == 3) with
         | true =>
          replace h:=zAD hc h;obtain rfl:(3:Int)=vsp:=(hvsp.trans (eq_of_beq hc)).symm;refine And.intro (by decide) ?_;cases h;exact(Le.rnm [(0,0)] _ _ _ ⟨rfl,trivial⟩ ⟨rfl,⟨_,rfl,rfl⟩,trivial⟩)
         | false =>
          replace h:=zAC hc h;cases hc:(a2A == 4) with
          | true =>
           replace h:=zAD hc h;obtain rfl:(4:Int)=vsp:=(hvsp.trans (eq_of_beq hc)).symm;refine And.intro (by decide) ?_;cases h;exact(Le.rnm [(0,0)] _ _ _ ⟨rfl,trivial⟩ ⟨rfl,⟨_,rfl,rfl⟩,trivial⟩)
          | false =>
           replace h:=zAC hc h;cases hc:(a2A == 5) with
           | true =>
            replace h:=zAD hc h;obtain rfl:(5:Int)=vsp:=(hvsp.trans (eq_of_beq hc)).symm;refine And.intro (by decide) ?_;cases h;exact(Le.rnm [(0,0)] _ _ _ ⟨rfl,trivial⟩ ⟨rfl,⟨_,rfl,rfl⟩,trivial⟩)
           | false =>
            replace h:=zAC hc h;cases hc:(a2A == 6) with
            | true =>
             replace h:=zAD hc h;obtain rfl:(6:Int)=vsp:=(hvsp.trans (eq_of_beq hc)).symm;refine And.intro (by decide) ?_;cases h;exact(Le.rnm [(0,0)] _ _ _ ⟨rfl,trivial⟩ ⟨rfl,⟨_,rfl,rfl⟩,trivial⟩)
            | false =>
             replace h:=zAC hc h;cases hc:(a2A == 7) with
             | true =>
              replace h:=zAD hc h;obtain rfl:(7:Int)=vsp:=(hvsp.trans (eq_of_beq hc)).symm;refine And.intro (by decide) ?_;cases h;exact(Le.rnm [(0,0)] _ _ _ ⟨rfl,trivial⟩ ⟨rfl,⟨_,rfl,rfl⟩,trivial⟩)
             | false =>
              replace h:=zAC hc h;cases hc:(a2A == 8) with
              | true =>
               replace h:=zAD hc h;obtain rfl:(8:Int)=vsp:=(hvsp.trans (eq_of_beq hc)).symm;refine And.intro (by decide) ?_;cases h;exact(Le.rnm [(0,0)] _ _ _ ⟨rfl,trivial⟩ ⟨rfl,⟨_,rfl,rfl⟩,trivial⟩)
              | false =>
               replace h:=zAC hc h;cases hc:(a2A == 9) with
               | true =>
                replace h:=zAD hc h;obtain rfl:(9:Int)=vsp:=(hvsp.trans (eq_of_beq hc)).symm;refine And.intro (by decide) ?_;cases h;exact(Le.rnm [(0,0)] _ _ _ ⟨rfl,trivial⟩ ⟨rfl,⟨_,rfl,rfl⟩,trivial⟩)
               | false =>
                replace h:=zAC hc h;cases hc:(a2A == 10) with
                | true =>
                 replace h:=zAD hc h;obtain rfl:(10:Int)=vsp:=(hvsp.trans (eq_of_beq hc)).symm;refine And.intro (by decide) ?_;cases h;exact(Le.rnm [(0,0)] _ _ _ ⟨rfl,trivial⟩ ⟨rfl,⟨_,rfl,rfl⟩,trivial⟩)
                | false =>
                 replace h:=zAC hc h;cases hc:(a2A == 11) with
                 | true =>
                  replace h:=zAD hc h;obtain rfl:(11:Int)=vsp:=(hvsp.trans (eq_of_beq hc)).symm;refine And.intro (by decide) ?_;cases h;exact(Le.rnm [(0,0)] _ _ _ ⟨rfl,trivial⟩ ⟨rfl,⟨_,rfl,rfl⟩,trivial⟩)
                 | false =>
                  replace h:=zAC hc h;cases hc:(a2A == 12) with
                  | true =>
                   replace h:=zAD hc h;obtain rfl:(12:Int)=vsp:=(hvsp.trans (eq_of_beq hc)).symm;refine And.intro (by decide) ?_;cases h;exact(Le.rnm [(0,0)] _ _ _ ⟨rfl,trivial⟩ ⟨rfl,⟨_,rfl,rfl⟩,trivial⟩)
                  | false =>
                   replace h:=zAC hc h;cases h
      | false =>
       replace h:=zAC hb.symm h;cases h;exact(Le.rnm [(0,0)] _ _ _ ⟨rfl,trivial⟩ ⟨rfl,⟨_,rfl,rfl⟩,trivial⟩)
     ·show Tri ..;refine zAj hle ?_;refine zAd ?_;obtain⟨hj1,hk1⟩:=pij h;subst hj1 hk1;unfold zEH
      exact⟨_,(Le.rnm [(0,0)] [(4,.s (.bool x22))] [(0,.box 167 [.s (.str []),.s (.int .i64 0),.s (.nf),.s (.str [114,111,119]),.s (.int .i64 0),.s (.fn 138),.s (.str [115,121,109]),.s (.int .i64 0),.s (.fn 139),.s (.str [110,117,109]),.s (.int .i64 0),.s (.fn 140),.s (.str [116,101,120,116]),.s (.int .i64 0),.s (.fn 141),.s (.str [102,114,97,99]),.s (.int .i64 2),.s (.fn 138),.s (.str [114,111,111,116]),.s (.int .i64 2),.s (.fn 138),.s (.str [115,117,98]),.s (.int .i64 2),.s (.fn 138),.s (.str [115,117,112]),.s (.int .i64 2),.s (.fn 138),.s (.str [98,111,116,104]),.s (.int .i64 3),.s (.fn 138),.s (.str [97,99,99,101,110,116]),.s (.int .i64 1),.s (.fn 142),.s (.str [102,101,110,99,101]),.s (.int .i64 1),.s (.fn 143),.s (.str [109,97,116,114,105,120]),.s (.int .i64 0),.s (.fn 138),.s (.int .i64 o1H)])] 1 ⟨rfl,trivial⟩ ⟨rfl,⟨_,rfl,rfl⟩,trivial⟩),rfl,rfl,rfl,rfl,trivial⟩
def zBN (n:Nat) (xs:List AV) (os:List Ob) (x:AV) (os':List (Option Ob)):Prop:=∃ (a0:(Unit×Int)) (a1:Nd) (a2:Int) (y0:Bool) (z0:(Unit×Int)),zAY n a0 a1 a2=some (y0,z0)/\xs=[.op 0 0,.s (.pt (Nd.enc a1)),.s (.int .i64 a2)]/\os=[.box 167 ((zAl a0).map .s)]/\x = .s (.bool y0)/\os'=[some (.box 167 ((zAl z0).map .s))]
theorem zGJ (n:Nat) (ih:PSound Tryz.prog 110 (zEj (zBN n))):PSound Tryz.prog 110 (zEj (zBN (n+1))):=by
 have gok:∀ f s,look? f [(144,zFz),(110,zEj (zBN n))]=some s->PSound Tryz.prog f s:=zAv (by
  simp only[List.forall_mem_cons]
  exact⟨zIo,ih,by simp⟩)
 refine PSound.withNil (zPG tokW Tryz.call110 Tryz.func110 rfl (fun xs os x os' h=>by obtain⟨_,_,_,_,_,_,rfl,rfl,_,rfl⟩:=h; exact⟨by show 3<=67; decide,by show 1<=1; decide⟩) 67 rfl ?_) _;rintro xs os x os' w0 G0 B0 ⟨⟨_,o1H⟩,⟨a2A,a2B,a2D,a2C⟩,a3,y0,z0,h,rfl,rfl,rfl,rfl⟩ _;rw[zAY]at h;refine zAa ?_;refine zAb [] [] rfl ?_;show Tri ..;refine zAa ?_;refine zAb [] [] rfl ?_;show Tri ..;refine zAa ?_;refine zAa ?_;obtain⟨⟨x4,x5⟩,hj,h⟩:=zAc h
 refine zAq ⟨ofL [(0,.op 0 0),(1,.s (.pt [.int .i64 a2A,.str a2B,.int .i64 a2D,.sl 4 (Nd.encs a2C)])),(2,.s (.int .i64 a3)),(29,.s (.bool x4))],ofH [(0,.box 167 [.s (.str []),.s (.int .i64 0),.s (.nf),.s (.str [114,111,119]),.s (.int .i64 0),.s (.fn 138),.s (.str [115,121,109]),.s (.int .i64 0),.s (.fn 139),.s (.str [110,117,109]),.s (.int .i64 0),.s (.fn 140),.s (.str [116,101,120,116]),.s (.int .i64 0),.s (.fn 141),.s (.str [102,114,97,99]),.s (.int .i64 2),.s (.fn 138),.s (.str [114,111,111,116]),.s (.int .i64 2),.s (.fn 138),.s (.str [115,117,98]),.s (.int .i64 2),.s (.fn 138),.s (.str [115,117,112]),.s (.int .i64 2),.s (.fn 138),.s (.str [98,111,116,104]),.s (.int .i64 3),.s (.fn 138),.s (.str [97,99,99,101,110,116]),.s (.int .i64 1),.s (.fn 142),.s (.str [102,101,110,99,101]),.s (.int .i64 1),.s (.fn 143),.s (.str [109,97,116,114,105,120]),.s (.int .i64 0),.s (.fn 138),.s (.int .i64 x5)])],1⟩ ?_ (fun σ' hle=>?_)
 ·replace h:=hj;refine zAb [] [20,24] rfl ?_;intro b hb;cases b with
  | true =>
   replace h:=zAD hb.symm h;intro b hb;subst hb;cases h;exact(Le.rnm [(0,0)] _ _ _ ⟨rfl,rfl,rfl,rfl,trivial⟩ ⟨rfl,⟨_,rfl,rfl⟩,trivial⟩)
  | false =>
   replace h:=zAC hb.symm h;intro b hb;cases b with
   | true =>
    replace h:=zAD hb.symm h;cases h;exact(Le.rnm [(0,0)] _ _ _ ⟨rfl,rfl,rfl,rfl,trivial⟩ ⟨rfl,⟨_,rfl,rfl⟩,trivial⟩)
   | false =>
    replace h:=zAC hb.symm h;obtain⟨⟨y6,⟨_,w7H⟩⟩,hy6,h⟩:=zAc h;refine⟨_,_,⟨_,_,_,_,_,hy6,rfl,rfl,rfl,rfl⟩,?_⟩
    cases h;exact(Le.rnm [(0,0)] _ _ _ ⟨rfl,rfl,rfl,rfl,trivial⟩ ⟨rfl,⟨_,rfl,rfl⟩,trivial⟩)
 ·show Tri ..;refine zAj hle ?_;refine zAh rfl h (fun hb h=>?_) (fun hb h=>?_)
  ·refine zAa ?_;refine zAb [] [] rfl ?_;show Tri ..;refine zAd ?_;obtain⟨hj1,hk1⟩:=pij h;subst hj1 hk1;unfold zEH
   exact⟨_,(Le.rnm [(0,0)] [(6,.s (.bool false))] [(0,.box 167 [.s (.str []),.s (.int .i64 0),.s (.nf),.s (.str [114,111,119]),.s (.int .i64 0),.s (.fn 138),.s (.str [115,121,109]),.s (.int .i64 0),.s (.fn 139),.s (.str [110,117,109]),.s (.int .i64 0),.s (.fn 140),.s (.str [116,101,120,116]),.s (.int .i64 0),.s (.fn 141),.s (.str [102,114,97,99]),.s (.int .i64 2),.s (.fn 138),.s (.str [114,111,111,116]),.s (.int .i64 2),.s (.fn 138),.s (.str [115,117,98]),.s (.int .i64 2),.s (.fn 138),.s (.str [115,117,112]),.s (.int .i64 2),.s (.fn 138),.s (.str [98,111,116,104]),.s (.int .i64 3),.s (.fn 138),.s (.str [97,99,99,101,110,116]),.s (.int .i64 1),.s (.fn 142),.s (.str [102,101,110,99,101]),.s (.int .i64 1),.s (.fn 143),.s (.str [109,97,116,114,105,120]),.s (.int .i64 0),.s (.fn 138),.s (.int .i64 x5)])] 1 ⟨rfl,trivial⟩ ⟨rfl,⟨_,rfl,rfl⟩,trivial⟩),rfl,rfl,rfl,rfl,trivial⟩
  ·refine zAf ?_;show Tri ..;refine zAa ?_;refine zAa ?_;refine zAb [] [34] rfl ?_;intro n8 hn8;obtain rfl:(a2C.length:Int)=n8:=(hn8.trans (congrArg (fun m:Nat=>(m:Int)) (rlen Nd.encs_eq a2C))).symm;show Tri ..;obtain⟨fl,hl,ho1⟩:=zAc h
   refine zBA (fl:=fl) (fun z=>match z with | x11=>⟨ofL [],ofH [(0,.box 167 [.s (.str []),.s (.int .i64 0),.s (.nf),.s (.str [114,111,119]),.s (.int .i64 0),.s (.fn 138),.s (.str [115,121,109]),.s (.int .i64 0),.s (.fn 139),.s (.str [110,117,109]),.s (.int .i64 0),.s (.fn 140),.s (.str [116,101,120,116]),.s (.int .i64 0),.s (.fn 141),.s (.str [102,114,97,99]),.s (.int .i64 2),.s (.fn 138),.s (.str [114,111,111,116]),.s (.int .i64 2),.s (.fn 138),.s (.str [115,117,98]),.s (.int .i64 2),.s (.fn 138),.s (.str [115,117,112]),.s (.int .i64 2),.s (.fn 138),.s (.str [98,111,116,104]),.s (.int .i64 3),.s (.fn 138),.s (.str [97,99,99,101,110,116]),.s (.int .i64 1),.s (.fn 142),.s (.str [102,101,110,99,101]),.s (.int .i64 1),.s (.fn 143),.s (.str [109,97,116,114,105,120]),.s (.int .i64 0),.s (.fn 138),.s (.int .i64 x11)])],1⟩) ?_ (fun x11 σ' hz hle=>?_)
   ·refine zAk (zAG (X:=Nat×Int×Int) (fun y=>match y with | (k,x9,x10)=>⟨ofL [(0,.op 0 0),(1,.s (.pt [.int .i64 a2A,.str a2B,.int .i64 a2D,.sl 4 (Nd.encs a2C)])),(2,.s (.int .i64 a3)),(34,.s (.int .i64 (a2C.length:Int))),(35,.s (.int .i64 x10))],ofH [(0,.box 167 [.s (.str []),.s (.int .i64 0),.s (.nf),.s (.str [114,111,119]),.s (.int .i64 0),.s (.fn 138),.s (.str [115,121,109]),.s (.int .i64 0),.s (.fn 139),.s (.str [110,117,109]),.s (.int .i64 0),.s (.fn 140),.s (.str [116,101,120,116]),.s (.int .i64 0),.s (.fn 141),.s (.str [102,114,97,99]),.s (.int .i64 2),.s (.fn 138),.s (.str [114,111,111,116]),.s (.int .i64 2),.s (.fn 138),.s (.str [115,117,98]),.s (.int .i64 2),.s (.fn 138),.s (.str [115,117,112]),.s (.int .i64 2),.s (.fn 138),.s (.str [98,111,116,104]),.s (.int .i64 3),.s (.fn 138),.s (.str [97,99,99,101,110,116]),.s (.int .i64 1),.s (.fn 142),.s (.str [102,101,110,99,101]),.s (.int .i64 1),.s (.fn 143),.s (.str [109,97,116,114,105,120]),.s (.int .i64 0),.s (.fn 138),.s (.int .i64 x9)])],1⟩) (fun y=>zAP (zAY n) a2A a2C a3 y.1 y.2.1 y.2.2=some fl) (fun y=>y.1) (n,x5,0) hl ?_ ?_)
    ·exact(Le.rnm [(0,0)] _ _ _ ⟨rfl,rfl,rfl,rfl,rfl,trivial⟩ ⟨rfl,⟨_,rfl,rfl⟩,trivial⟩)
    ·rintro⟨k,x9,x10⟩ h;cases k with
     | zero=>cases h
     | succ k =>
      replace h:zAP (zAY n) a2A a2C a3 (k+1) x9 x10=some fl:=h;rw[zAP]at h;refine zAa ?_;refine zAb [] [] rfl ?_;show Tri ..;refine zAa ?_;refine zAh rfl h (fun hb h=>?_) (fun hb h=>?_)
      ·refine zAf ?_;show Tri ..;refine zAa ?_;refine zAk ?_;refine zAa ?_;refine zAb [] [] rfl ?_;show Tri ..;refine zAa ?_;obtain⟨⟨x12,x13⟩,hj,h⟩:=zAc h
       refine zAq ⟨ofL [(0,.op 0 0),(1,.s (.pt [.int .i64 a2A,.str a2B,.int .i64 a2D,.sl 4 (Nd.encs a2C)])),(2,.s (.int .i64 a3)),(34,.s (.int .i64 (a2C.length:Int))),(35,.s (.int .i64 x10)),(65,.s (.bool x12))],ofH [(0,.box 167 [.s (.str []),.s (.int .i64 0),.s (.nf),.s (.str [114,111,119]),.s (.int .i64 0),.s (.fn 138),.s (.str [115,121,109]),.s (.int .i64 0),.s (.fn 139),.s (.str [110,117,109]),.s (.int .i64 0),.s (.fn 140),.s (.str [116,101,120,116]),.s (.int .i64 0),.s (.fn 141),.s (.str [102,114,97,99]),.s (.int .i64 2),.s (.fn 138),.s (.str [114,111,111,116]),.s (.int .i64 2),.s (.fn 138),.s (.str [115,117,98]),.s (.int .i64 2),.s (.fn 138),.s (.str [115,117,112]),.s (.int .i64 2),.s (.fn 138),.s (.str [98,111,116,104]),.s (.int .i64 3),.s (.fn 138),.s (.str [97,99,99,101,110,116]),.s (.int .i64 1),.s (.fn 142),.s (.str [102,101,110,99,101]),.s (.int .i64 1),.s (.fn 143),.s (.str [109,97,116,114,105,120]),.s (.int .i64 0),.s (.fn 138),.s (.int .i64 x13)])],1⟩ ?_ (fun σ' hle=>?_)
       ·replace h:=hj;refine zA2 [] [48,53,60] [25] rfl (by decide +kernel) ?_;obtain⟨⟨e14A,e14B,e14D,e14C⟩,he14,h⟩:=zAc h;refine And.intro (zAB Nd.encs_eq he14).1 ?_;intro r15 hr15;obtain rfl:[.int .i64 e14A,.str e14B,.int .i64 e14D,.sl 4 (Nd.encs e14C)]=r15:=(hr15.trans (zAB Nd.encs_eq he14).2.1).symm;intro b hb;cases b with
        | true =>
         replace h:=zAD hb.symm h;cases h;exact(Le.rnm [(0,0)] _ _ _ ⟨rfl,rfl,rfl,rfl,rfl,rfl,trivial⟩ ⟨rfl,⟨_,rfl,rfl⟩,trivial⟩)
        | false =>
         replace h:=zAC hb.symm h;obtain⟨⟨e16A,e16B,e16D,e16C⟩,he16,h⟩:=zAc h;refine And.intro (zAB Nd.encs_eq he16).1 ?_;intro r17 hr17;obtain rfl:[.int .i64 e16A,.str e16B,.int .i64 e16D,.sl 4 (Nd.encs e16C)]=r17:=(hr17.trans (zAB Nd.encs_eq he16).2.1).symm;obtain⟨⟨y18,⟨_,w19H⟩⟩,hy18,h⟩:=zAc h;refine⟨_,_,⟨_,_,_,_,_,hy18,rfl,rfl,rfl,rfl⟩,?_⟩
         cases h;exact(Le.rnm [(0,0)] _ _ _ ⟨rfl,rfl,rfl,rfl,rfl,rfl,trivial⟩ ⟨rfl,⟨_,rfl,rfl⟩,trivial⟩)
       ·show Tri ..;refine zAj hle ?_;refine zAh rfl h (fun hb h=>?_) (fun hb h=>?_)
        ·refine zAa ?_;refine zAb [] [] rfl ?_;show Tri ..;refine zAd ?_;cases h;replace h:some _=some _:=ho1;obtain⟨hj1,hk1⟩:=pij h;subst hj1 hk1;unfold zEH
         exact⟨_,(Le.rnm [(0,0)] [(6,.s (.bool false))] [(0,.box 167 [.s (.str []),.s (.int .i64 0),.s (.nf),.s (.str [114,111,119]),.s (.int .i64 0),.s (.fn 138),.s (.str [115,121,109]),.s (.int .i64 0),.s (.fn 139),.s (.str [110,117,109]),.s (.int .i64 0),.s (.fn 140),.s (.str [116,101,120,116]),.s (.int .i64 0),.s (.fn 141),.s (.str [102,114,97,99]),.s (.int .i64 2),.s (.fn 138),.s (.str [114,111,111,116]),.s (.int .i64 2),.s (.fn 138),.s (.str [115,117,98]),.s (.int .i64 2),.s (.fn 138),.s (.str [115,117,112]),.s (.int .i64 2),.s (.fn 138),.s (.str [98,111,116,104]),.s (.int .i64 3),.s (.fn 138),.s (.str [97,99,99,101,110,116]),.s (.int .i64 1),.s (.fn 142),.s (.str [102,101,110,99,101]),.s (.int .i64 1),.s (.fn 143),.s (.str [109,97,116,114,105,120]),.s (.int .i64 0),.s (.fn 138),.s (.int .i64 x13)])] 1 ⟨rfl,trivial⟩ ⟨rfl,⟨_,rfl,rfl⟩,trivial⟩),rfl,rfl,rfl,rfl,trivial⟩
        ·refine zAf ?_;show Tri ..;refine zAb [] [] rfl ?_;refine⟨(k,x13,IntKind.i64.wrap (x10+1)),h,(Le.rnm [(0,0)] _ _ _ ⟨rfl,rfl,rfl,rfl,rfl,trivial⟩ ⟨rfl,⟨_,rfl,rfl⟩,trivial⟩),Nat.lt_succ_self k⟩
      ·refine zAI ?_;cases h;exact⟨_,rfl,(Le.rnm [(0,0)] _ _ _ trivial ⟨rfl,⟨_,rfl,rfl⟩,trivial⟩)⟩
   ·subst hz;replace h:=ho1;show Tri ..;refine zAj hle ?_;refine zAa ?_;refine zAb [] [] rfl ?_;show Tri ..;refine zAd ?_;obtain⟨hj1,hk1⟩:=pij h;subst hj1 hk1;unfold zEH
    exact⟨_,(Le.rnm [(0,0)] [(6,.s (.bool true))] [(0,.box 167 [.s (.str []),.s (.int .i64 0),.s (.nf),.s (.str [114,111,119]),.s (.int .i64 0),.s (.fn 138),.s (.str [115,121,109]),.s (.int .i64 0),.s (.fn 139),.s (.str [110,117,109]),.s (.int .i64 0),.s (.fn 140),.s (.str [116,101,120,116]),.s (.int .i64 0),.s (.fn 141),.s (.str [102,114,97,99]),.s (.int .i64 2),.s (.fn 138),.s (.str [114,111,111,116]),.s (.int .i64 2),.s (.fn 138),.s (.str [115,117,98]),.s (.int .i64 2),.s (.fn 138),.s (.str [115,117,112]),.s (.int .i64 2),.s (.fn 138),.s (.str [98,111,116,104]),.s (.int .i64 3),.s (.fn 138),.s (.str [97,99,99,101,110,116]),.s (.int .i64 1),.s (.fn 142),.s (.str [102,101,110,99,101]),.s (.int .i64 1),.s (.fn 143),.s (.str [109,97,116,114,105,120]),.s (.int .i64 0),.s (.fn 138),.s (.int .i64 x11)])] 1 ⟨rfl,trivial⟩ ⟨rfl,⟨_,rfl,rfl⟩,trivial⟩),rfl,rfl,rfl,rfl,trivial⟩
theorem zGU:∀ n,PSound Tryz.prog 110 (zEj (zBN n)):=by
 intro n
 induction n with
 | zero=>exact zLw Tryz.call110 (fun xs os x os' h=>by obtain⟨_,_,_,_,_,h,_⟩:=h; cases h) _
 | succ n ih=>exact zGJ n ih
def zE5:zAy:=zEj (fun xs os x os'=>∃ n,zBN n xs os x os')
theorem zHG:PSound Tryz.prog 110 zE5:=zM2 zGU _
def zOu (n:Nat) (xs:List AV) (r:Ret):Prop:=∃ (a0:Nd) (y0:Bool),zAX n a0=some y0/\xs=[.agg ((Nd.enc a0).map .s)]/\r = .val (.s (.bool y0))
def zCp:zAy:=zAx fun xs r=>∃ n,zOu n xs r
theorem zCC:PSound Tryz.prog 73 zCp:=by
 have gok:∀ f s,look? f [(109,zJK),(110,zE5)]=some s->PSound Tryz.prog f s:=zAv (by
  simp only[List.forall_mem_cons]
  exact⟨zNX,zHG,by simp⟩)
 refine zAz tokW Tryz.call73 Tryz.func73 rfl (fun xs r h=>by obtain⟨n,_,_,_,rfl,_⟩:=h; show 1<=14; decide) 14 rfl ?_;rintro xs r w0 G0 ⟨n,⟨n1A,n1B,n1D,n1C⟩,y0,h,rfl,rfl⟩ _;rw[zAX]at h;refine zAa ?_;refine zAb [] [] rfl ?_;show Tri ..;refine zAa ?_;refine zAb [6] [] rfl ?_;obtain⟨_,hy2,h⟩:=zAc h;refine⟨_,⟨_,hy2,rfl,rfl⟩,?_⟩
 show Tri ..;refine zAa ?_;obtain⟨x3,hj,h⟩:=zAc h;refine zAq ⟨ofL [(2,.s (.bool x3))],fun _=>none,0⟩ ?_ (fun σ' hle=>?_)
 ·replace h:=hj;refine zAb [] [10] rfl ?_;intro b hb;cases b with
  | true =>
   replace h:=zAD hb.symm h;obtain⟨⟨y4,⟨_,w5H⟩⟩,hy4,h⟩:=zAc h;refine⟨_,_,⟨_,_,_,_,_,_,hy4,rfl,rfl,rfl,rfl⟩,?_⟩
   cases h;exact(Le.rnm [] _ [] 0 ⟨rfl,trivial⟩ trivial)
  | false =>
   replace h:=zAC hb.symm h;cases h;exact(Le.rnm [] _ [] 0 ⟨rfl,trivial⟩ trivial)
 ·show Tri ..;refine zAj hle ?_;refine zAd ?_;have hy:=Option.some.inj h;subst hy;unfold zAt;exact⟨_,Le.refl _ _,rfl,rfl⟩
def zJi (n:Nat) (xs:List AV) (r:Ret):Prop:=∃ (a0:List Nd) (y0:Bool),zBL n a0=some y0/\xs=[.s (.sl 4 (Nd.encs a0))]/\r = .val (.s (.bool y0))
def zEa:zAy:=zAx fun xs r=>∃ n,zJi n xs r
theorem zFE:PSound Tryz.prog 176 zEa:=by
 have gok:∀ f s,look? f [(73,zCp)]=some s->PSound Tryz.prog f s:=zAv (by
  simp only[List.forall_mem_cons]
  exact⟨zCC,by simp⟩)
 refine zAz tokW Tryz.call176 Tryz.func176 rfl (fun xs r h=>by obtain⟨n,_,_,_,rfl,_⟩:=h; show 1<=6; decide) 6 rfl ?_;rintro xs r w0 G0 ⟨n,l1,y0,h,rfl,rfl⟩ _;rw[zBL]at h;refine zAa ?_;refine zAb [] [] rfl ?_;show Tri ..;refine zAa ?_;refine zAb [] [] rfl ?_;obtain⟨y2,hy2,h⟩:=zAc h;refine⟨_,⟨_,_,_,hy2,rfl,rfl⟩,?_⟩
 show Tri ..;refine zAd ?_;have hy:=Option.some.inj h;subst hy;unfold zAt;exact⟨_,Le.refl _ _,rfl,rfl⟩
def zOt (xs:List AV) (r:Ret):Prop:=∃ (a0:Nd) (y0:Int),zC0 a0=some y0/\xs=[.agg ((Nd.enc a0).map .s)]/\r = .val (.s (.int .i64 y0))
def zFy:zAy:=zAx fun xs r=>zOt xs r
theorem zGv:PSound Tryz.prog 195 zFy:=by
 have gok:=@gok0 Tryz.prog;refine zAz tokW Tryz.call195 Tryz.func195 rfl (fun xs r h=>by obtain⟨_,_,_,rfl,_⟩:=h; show 1<=9; decide) 9 rfl ?_;rintro xs r w0 G0 ⟨⟨n1A,n1B,n1D,n1C⟩,y0,h,rfl,rfl⟩ _;rw[zC0]at h;refine zAa ?_;refine zAb [] [] rfl ?_;show Tri ..;refine zAa ?_;refine zAa ?_;refine zAb [] [] rfl ?_;show Tri ..;refine zAh rfl h (fun hb h=>?_) (fun hb h=>?_)
 ·refine zAa ?_;refine zAb [] [] rfl ?_;show Tri ..;refine zAd ?_;have hy:=Option.some.inj h;subst hy;unfold zAt;exact⟨_,Le.refl _ _,rfl,rfl⟩
 ·refine zAf ?_;show Tri ..;refine zAa ?_;refine zAb [] [8] rfl ?_;intro n2 hn2;obtain rfl:(n1C.length:Int)=n2:=(hn2.trans (congrArg (fun m:Nat=>(m:Int)) (rlen Nd.encs_eq n1C))).symm;show Tri ..;refine zAd ?_;have hy:=Option.some.inj h;subst hy;unfold zAt;exact⟨_,Le.refl _ _,rfl,rfl⟩
def zOz (xs:List AV) (r:Ret):Prop:=∃ (a0:Int) (y0:Bool),zDO a0=some y0/\xs=[.s (.int .u8 a0)]/\r = .val (.s (.bool y0))
def zGS:zAy:=zAx fun xs r=>zOz xs r
theorem zIZ:PSound Tryz.prog 186 zGS:=by
 have gok:=@gok0 Tryz.prog;refine zAz tokW Tryz.call186 Tryz.func186 rfl (fun xs r h=>by obtain⟨_,_,_,rfl,_⟩:=h; show 1<=17; decide) 17 rfl ?_;rintro xs r w0 G0 ⟨c1,y0,h,rfl,rfl⟩ _;rw[zDO]at h;refine zAa ?_;refine zAb [] [] rfl ?_;show Tri ..;refine zAa ?_;obtain⟨x2,hj,h⟩:=zAc h;refine zAq ⟨ofL [(2,.s (.bool x2))],fun _=>none,0⟩ ?_ (fun σ' hle=>?_)
 ·replace h:=hj;refine zAb [] [5,9,12] rfl ?_;intro b hb;cases b with
  | true =>
   replace h:=zAD hb.symm h;intro b hb;cases b with
   | true =>
    replace h:=zAD hb.symm h;cases h;exact(Le.forget _ ⟨rfl,trivial⟩)
   | false =>
    replace h:=zAC hb.symm h;intro b hb;cases b with
    | true =>
     replace h:=zAD hb.symm h;cases h;exact(Le.forget _ ⟨rfl,trivial⟩)
    | false =>
     replace h:=zAC hb.symm h;cases h;exact(Le.forget _ ⟨rfl,trivial⟩)
  | false =>
   replace h:=zAC hb.symm h;intro b hb;subst hb;intro b hb;cases b with
   | true =>
    replace h:=zAD hb.symm h;cases h;exact(Le.forget _ ⟨rfl,trivial⟩)
   | false =>
    replace h:=zAC hb.symm h;cases h;exact(Le.forget _ ⟨rfl,trivial⟩)
 ·show Tri ..;refine zAj hle ?_;refine zAd ?_;have hy:=Option.some.inj h;subst hy;unfold zAt;exact⟨_,Le.refl _ _,rfl,rfl⟩
def zSc (n:Nat) (xs:List AV) (r:Ret):Prop:=∃ (a0:List UInt8) (a1:Int) (y0:Bool),zC2 n a0 a1=some y0/\xs=[.s (.str a0),.s (.int .u8 a1)]/\r = .val (.s (.bool y0))
def zKN:zAy:=zAx fun xs r=>∃ n,zSc n xs r
theorem zM0:PSound Tryz.prog 154 zKN:=by
 have gok:=@gok0 Tryz.prog;refine zAz tokW Tryz.call154 Tryz.func154 rfl (fun xs r h=>by obtain⟨n,_,_,_,_,rfl,_⟩:=h; show 2<=17; decide) 17 rfl ?_;rintro xs r w0 G0 ⟨n,s1,c2,y0,h,rfl,rfl⟩ _;rw[zC2]at h;refine zAa ?_;refine zAb [] [] rfl ?_;show Tri ..;refine zAa ?_;refine zAa ?_;refine zAb [] [] rfl ?_;show Tri ..;obtain⟨fl,hl,ho1⟩:=zAc h;refine zBA (fl:=fl) (fun z=>match z with | _=>⟨ofL [],fun _=>none,0⟩) ?_ (fun z σ' hz hle=>?_)
 ·refine zAk (zAG (X:=Nat×Int) (fun y=>match y with | (k,i3)=>⟨ofL [(0,.s (.str s1)),(1,.s (.int .u8 c2)),(5,.s (.int .i64 i3))],fun _=>none,0⟩) (fun y=>zCr s1 c2 y.1 y.2=some fl) (fun y=>y.1) (n,0) hl ?_ ?_)
  ·exact(Le.forget _ ⟨rfl,rfl,rfl,trivial⟩)
  ·rintro⟨k,i3⟩ h;cases k with
   | zero=>cases h
   | succ k =>
    replace h:zCr s1 c2 (k+1) i3=some fl:=h;rw[zCr]at h;refine zAa ?_;refine zAa ?_;refine zAb [] [] rfl ?_;show Tri ..;refine zAh rfl h (fun hb h=>?_) (fun hb h=>?_)
    ·refine zAf ?_;show Tri ..;refine zAa ?_;refine zAk ?_;refine zAa ?_;refine zAb [] [14] rfl ?_;obtain⟨c4,hc4,h⟩:=zAc h;refine And.intro (zBr hc4).1 ?_;intro v5 hv5;obtain rfl:(c4.toNat:Int)=v5:=(hv5.trans (zBr hc4).2).symm;show Tri ..;refine zAh rfl h (fun hb h=>?_) (fun hb h=>?_)
     ·refine zAa ?_;refine zAb [] [] rfl ?_;show Tri ..;refine zAd ?_;cases h;replace h:some _=some _:=ho1;have hy:=Option.some.inj h;subst hy;unfold zAt;exact⟨_,Le.refl _ _,rfl,rfl⟩
     ·refine zAf ?_;show Tri ..;refine zAb [] [] rfl ?_;refine⟨(k,IntKind.i64.wrap (i3+1)),h,(Le.forget _ ⟨rfl,rfl,rfl,trivial⟩),Nat.lt_succ_self k⟩
    ·refine zAI ?_;cases h;exact⟨_,rfl,(Le.forget _ trivial)⟩
 ·subst hz;obtain _:=z;replace h:=ho1;show Tri ..;refine zAj hle ?_;refine zAa ?_;refine zAb [] [] rfl ?_;show Tri ..;refine zAd ?_;have hy:=Option.some.inj h;subst hy;unfold zAt;exact⟨_,Le.refl _ _,rfl,rfl⟩
def zKD (n:Nat) (xs:List AV) (r:Ret):Prop:=∃ (a0:Int) (y0:Bool),zD2 n a0=some y0/\xs=[.s (.int .u8 a0)]/\r = .val (.s (.bool y0))
def zGR:zAy:=zAx fun xs r=>∃ n,zKD n xs r
theorem zKk:PSound Tryz.prog 185 zGR:=by
 have gok:∀ f s,look? f [(186,zGS),(154,zKN)]=some s->PSound Tryz.prog f s:=zAv (by
  simp only[List.forall_mem_cons]
  exact⟨zIZ,zM0,by simp⟩)
 refine zAz tokW Tryz.call185 Tryz.func185 rfl (fun xs r h=>by obtain⟨n,_,_,_,rfl,_⟩:=h; show 1<=9; decide) 9 rfl ?_;rintro xs r w0 G0 ⟨n,c1,y0,h,rfl,rfl⟩ _;rw[zD2]at h;refine zAa ?_;refine zAb [] [] rfl ?_;show Tri ..;refine zAa ?_;obtain⟨x2,hj,h⟩:=zAc h;refine zAq ⟨ofL [(2,.s (.bool x2))],fun _=>none,0⟩ ?_ (fun σ' hle=>?_)
 ·replace h:=hj;refine zAb [] [5] rfl ?_;obtain⟨y3,hy3,h⟩:=zAc h;refine⟨_,⟨_,_,hy3,rfl,rfl⟩,?_⟩
  intro b hb;cases b with
  | true =>
   replace h:=zAD hb.symm h;cases h;exact(Le.forget _ ⟨rfl,trivial⟩)
  | false =>
   replace h:=zAC hb.symm h;obtain⟨y4,hy4,h⟩:=zAc h;refine⟨_,⟨_,_,_,_,hy4,rfl,rfl⟩,?_⟩
   cases h;exact(Le.forget _ ⟨rfl,trivial⟩)
 ·show Tri ..;refine zAj hle ?_;refine zAd ?_;have hy:=Option.some.inj h;subst hy;unfold zAt;exact⟨_,Le.refl _ _,rfl,rfl⟩
def zAA (p:List UInt8):List S:=[.str p]
def zL7 (xs:List AV) (r:Ret):Prop:=∃ (y0:List (List UInt8)),zEp=some y0/\xs=[]/\r = .val (.s (.sl 1 ((List.map zAA) y0)))
def zHV:zAy:=zAx fun xs r=>zL7 xs r
theorem zLs:PSound Tryz.prog 187 zHV:=by
 have gok:=@gok0 Tryz.prog;refine zAz tokW Tryz.call187 Tryz.func187 rfl (fun xs r h=>by obtain⟨_,_,rfl,_⟩:=h; show 0<=2; decide) 2 rfl ?_;rintro xs r w0 G0 ⟨y0,h,rfl,rfl⟩ _;rw[zEp]at h;refine zAa ?_;refine zAb [] [] rfl ?_;show Tri ..;refine zAa ?_;refine zAb [] [1] rfl ?_;intro r1 hr1
 obtain rfl:(List.map zAA) [[102,114,97,99],[114,111,111,116],[109,97,116,114,105,120],[102,101,110,99,101]]=r1:=(hr1.trans (by simp[List.map_append,List.map_take,List.map_drop,irow,brow,zAH,List.map_cons,List.map_nil,zAE,Nd.encs_eq,Nd.enc,CV.encs_eq,CV.enc,zAo,zAl,zAA])).symm;show Tri ..;refine zAd ?_;have hy:=Option.some.inj h;subst hy;unfold zAt;exact⟨_,Le.refl _ _,rfl,rfl⟩
def zTg (n:Nat) (xs:List AV) (r:Ret):Prop:=∃ (a0:List (List UInt8)) (a1:List UInt8) (y0:Bool),zEo n a0 a1=some y0/\xs=[.s (.sl 1 ((List.map zAA) a0)),.s (.str a1)]/\r = .val (.s (.bool y0))
def zNz:zAy:=zAx fun xs r=>∃ n,zTg n xs r
theorem zPy:PSound Tryz.prog 152 zNz:=by
 have gok:=@gok0 Tryz.prog;refine zAz tokW Tryz.call152 Tryz.func152 rfl (fun xs r h=>by obtain⟨n,_,_,_,_,rfl,_⟩:=h; show 2<=18; decide) 18 rfl ?_;rintro xs r w0 G0 ⟨n,l1,s2,y0,h,rfl,rfl⟩ _;rw[zEo]at h;refine zAa ?_;refine zAb [] [] rfl ?_;show Tri ..;refine zAa ?_;refine zAa ?_;refine zAb [] [] rfl ?_;show Tri ..;obtain⟨fl,hl,ho1⟩:=zAc h;refine zBA (fl:=fl) (fun z=>match z with | _=>⟨ofL [],fun _=>none,0⟩) ?_ (fun z σ' hz hle=>?_)
 ·refine zAk (zAG (X:=Nat×Int) (fun y=>match y with | (k,i3)=>⟨ofL [(0,.s (.sl 1 ((List.map zAA) l1))),(1,.s (.str s2)),(5,.s (.int .i64 i3))],fun _=>none,0⟩) (fun y=>zC1 l1 s2 y.1 y.2=some fl) (fun y=>y.1) (n,0) hl ?_ ?_)
  ·exact(Le.forget _ ⟨rfl,rfl,rfl,trivial⟩)
  ·rintro⟨k,i3⟩ h;cases k with
   | zero=>cases h
   | succ k =>
    replace h:zC1 l1 s2 (k+1) i3=some fl:=h;rw[zC1]at h;refine zAa ?_;refine zAa ?_;refine zAb [] [8] rfl ?_;intro n4 hn4;obtain rfl:(l1.length:Int)=n4:=(hn4.trans (congrArg (fun m:Nat=>(m:Int)) (rlen (fun _=>rfl) l1))).symm;show Tri ..;refine zAh rfl h (fun hb h=>?_) (fun hb h=>?_)
    ·refine zAf ?_;show Tri ..;refine zAa ?_;refine zAk ?_;refine zAa ?_;refine zAb [] [14] rfl ?_;obtain⟨e5,he5,h⟩:=zAc h;refine And.intro (zAB (fun _=>rfl) he5).1 ?_;intro r6 hr6;obtain rfl:[.str e5]=r6:=(hr6.trans (zAB (fun _=>rfl) he5).2.1).symm;show Tri ..;refine zAh rfl h (fun hb h=>?_) (fun hb h=>?_)
     ·refine zAa ?_;refine zAb [] [] rfl ?_;show Tri ..;refine zAd ?_;cases h;replace h:some _=some _:=ho1;have hy:=Option.some.inj h;subst hy;unfold zAt;exact⟨_,Le.refl _ _,rfl,rfl⟩
     ·refine zAf ?_;show Tri ..;refine zAb [] [] rfl ?_;refine⟨(k,IntKind.i64.wrap (i3+1)),h,(Le.forget _ ⟨rfl,rfl,rfl,trivial⟩),Nat.lt_succ_self k⟩
    ·refine zAI ?_;cases h;exact⟨_,rfl,(Le.forget _ trivial)⟩
 ·subst hz;obtain _:=z;replace h:=ho1;show Tri ..;refine zAj hle ?_;refine zAa ?_;refine zAb [] [] rfl ?_;show Tri ..;refine zAd ?_;have hy:=Option.some.inj h;subst hy;unfold zAt;exact⟨_,Le.refl _ _,rfl,rfl⟩
def zNv (xs:List AV) (r:Ret):Prop:=∃ (y0:List (List UInt8)),zDg=some y0/\xs=[]/\r = .val (.s (.sl 1 ((List.map zAA) y0)))
def zGn:zAy:=zAx fun xs r=>zNv xs r
theorem zH3:PSound Tryz.prog 153 zGn:=by
 have gok:=@gok0 Tryz.prog;refine zAz tokW Tryz.call153 Tryz.func153 rfl (fun xs r h=>by obtain⟨_,_,rfl,_⟩:=h; show 0<=2; decide) 2 rfl ?_;rintro xs r w0 G0 ⟨y0,h,rfl,rfl⟩ _;rw[zDg]at h;refine zAa ?_;refine zAb [] [] rfl ?_;show Tri ..;refine zAa ?_;refine zAb [] [1] rfl ?_;intro r1 hr1
 obtain rfl:(List.map zAA) [[104,97,116],[98,97,114],[118,101,99],[100,111,116],[116,105,108,100,101],[99,104,101,99,107]]=r1:=(hr1.trans (by simp[List.map_append,List.map_take,List.map_drop,irow,brow,zAH,List.map_cons,List.map_nil,zAE,Nd.encs_eq,Nd.enc,CV.encs_eq,CV.enc,zAo,zAl,zAA])).symm;show Tri ..;refine zAd ?_;have hy:=Option.some.inj h;subst hy;unfold zAt;exact⟨_,Le.refl _ _,rfl,rfl⟩
def zOB (n:Nat) (xs:List AV) (r:Ret):Prop:=∃ (a0:List UInt8) (y0:Bool),zEy n a0=some y0/\xs=[.s (.str a0)]/\r = .val (.s (.bool y0))
def zJN:zAy:=zAx fun xs r=>∃ n,zOB n xs r
theorem zN0:PSound Tryz.prog 150 zJN:=by
 have gok:∀ f s,look? f [(185,zGR),(186,zGS),(187,zHV),(152,zNz),(153,zGn)]=some s->PSound Tryz.prog f s:=zAv (by
  simp only[List.forall_mem_cons]
  exact⟨zKk,zIZ,zLs,zPy,zH3,by simp⟩)
 refine zAz tokW Tryz.call150 Tryz.func150 rfl (fun xs r h=>by obtain⟨n,_,_,_,rfl,_⟩:=h; show 1<=41; decide) 41 rfl ?_;rintro xs r w0 G0 ⟨n,s1,y0,h,rfl,rfl⟩ _;rw[zEy]at h;refine zAa ?_;refine zAb [] [] rfl ?_;show Tri ..;refine zAa ?_;refine zAa ?_;refine zAb [] [] rfl ?_;show Tri ..;refine zAh rfl h (fun hb h=>?_) (fun hb h=>?_)
 ·refine zAa ?_;refine zAb [] [8] rfl ?_;obtain⟨c2,hc2,h⟩:=zAc h;refine And.intro (zBr hc2).1 ?_;intro v3 hv3;obtain rfl:(c2.toNat:Int)=v3:=(hv3.trans (zBr hc2).2).symm;obtain⟨y4,hy4,h⟩:=zAc h;refine⟨_,⟨_,_,_,hy4,rfl,rfl⟩,?_⟩
  show Tri ..;refine zAd ?_;have hy:=Option.some.inj h;subst hy;unfold zAt;exact⟨_,Le.refl _ _,rfl,rfl⟩
 ·refine zAf ?_;show Tri ..;refine zAa ?_;refine zAa ?_;refine zAb [] [] rfl ?_;show Tri ..;obtain⟨fl,hl,ho1⟩:=zAc h;refine zBA (fl:=fl) (fun z=>match z with | _=>⟨ofL [(0,.s (.str s1))],fun _=>none,0⟩) ?_ (fun z σ' hz hle=>?_)
  ·refine zAk (zAG (X:=Nat×Int) (fun y=>match y with | (k,i5)=>⟨ofL [(0,.s (.str s1)),(3,.s (.int .i64 i5))],fun _=>none,0⟩) (fun y=>zBg s1 y.1 y.2=some fl) (fun y=>y.1) (n,0) hl ?_ ?_)
   ·exact(Le.forget _ ⟨rfl,rfl,trivial⟩)
   ·rintro⟨k,i5⟩ h;cases k with
    | zero=>cases h
    | succ k =>
     replace h:zBg s1 (k+1) i5=some fl:=h;rw[zBg]at h;refine zAa ?_;refine zAa ?_;refine zAb [] [] rfl ?_;show Tri ..;refine zAh rfl h (fun hb h=>?_) (fun hb h=>?_)
     ·refine zAf ?_;show Tri ..;refine zAa ?_;refine zAk ?_;refine zAa ?_;refine zAb [] [18] rfl ?_;obtain⟨c6,hc6,h⟩:=zAc h;refine And.intro (zBr hc6).1 ?_;intro v7 hv7;obtain rfl:(c6.toNat:Int)=v7:=(hv7.trans (zBr hc6).2).symm;obtain⟨y8,hy8,h⟩:=zAc h;refine⟨_,⟨_,_,hy8,rfl,rfl⟩,?_⟩
      show Tri ..;refine zAh rfl h (fun hb h=>?_) (fun hb h=>?_)
      ·refine zAa ?_;refine zAb [] [] rfl ?_;show Tri ..;refine zAd ?_;cases h;replace h:some _=some _:=ho1;have hy:=Option.some.inj h;subst hy;unfold zAt;exact⟨_,Le.refl _ _,rfl,rfl⟩
      ·refine zAf ?_;show Tri ..;refine zAb [] [] rfl ?_;refine⟨(k,IntKind.i64.wrap (i5+1)),h,(Le.forget _ ⟨rfl,rfl,trivial⟩),Nat.lt_succ_self k⟩
     ·refine zAI ?_;cases h;exact⟨_,rfl,(Le.forget _ ⟨rfl,trivial⟩)⟩
  ·subst hz;obtain _:=z;replace h:=ho1;show Tri ..;refine zAj hle ?_;refine zAa ?_;obtain⟨x9,hj,h⟩:=zAc h;refine zAq ⟨ofL [(2,.s (.bool x9))],fun _=>none,0⟩ ?_ (fun σ' hle=>?_)
   ·replace h:=hj;refine zAb [] [24,29,35] rfl ?_;intro b hb;cases b with
    | true =>
     replace h:=zAD hb.symm h;intro b hb;cases b with
     | true =>
      replace h:=zAD hb.symm h;obtain⟨y10,hy10,h⟩:=zAc h;refine⟨_,⟨_,hy10,rfl,rfl⟩,?_⟩
      obtain⟨y11,hy11,h⟩:=zAc h;refine⟨_,⟨_,_,_,_,hy11,rfl,rfl⟩,?_⟩
      intro b hb;cases b with
      | true =>
       replace h:=zAD hb.symm h;obtain⟨y12,hy12,h⟩:=zAc h;refine⟨_,⟨_,hy12,rfl,rfl⟩,?_⟩
       obtain⟨y13,hy13,h⟩:=zAc h;refine⟨_,⟨_,_,_,_,hy13,rfl,rfl⟩,?_⟩
       cases h;exact(Le.forget _ ⟨rfl,trivial⟩)
      | false =>
       replace h:=zAC hb.symm h;cases h;exact(Le.forget _ ⟨rfl,trivial⟩)
     | false =>
      replace h:=zAC hb.symm h;intro b hb;subst hb;cases h;exact(Le.forget _ ⟨rfl,trivial⟩)
    | false =>
     replace h:=zAC hb.symm h;intro b hb;subst hb;intro b hb;subst hb;cases h;exact(Le.forget _ ⟨rfl,trivial⟩)
   ·show Tri ..;refine zAj hle ?_;refine zAd ?_;have hy:=Option.some.inj h;subst hy;unfold zAt;exact⟨_,Le.refl _ _,rfl,rfl⟩
def zQc (xs:List AV) (r:Ret):Prop:=∃ (a0:Int) (y0:Bool),zFm a0=some y0/\xs=[.s (.int .u8 a0)]/\r = .val (.s (.bool y0))
def zKL:zAy:=zAx fun xs r=>zQc xs r
theorem zPx:PSound Tryz.prog 188 zKL:=by
 have gok:=@gok0 Tryz.prog;refine zAz tokW Tryz.call188 Tryz.func188 rfl (fun xs r h=>by obtain⟨_,_,_,rfl,_⟩:=h; show 1<=9; decide) 9 rfl ?_;rintro xs r w0 G0 ⟨c1,y0,h,rfl,rfl⟩ _;rw[zFm]at h;refine zAa ?_;refine zAb [] [] rfl ?_;show Tri ..;refine zAa ?_;obtain⟨x2,hj,h⟩:=zAc h;refine zAq ⟨ofL [(2,.s (.bool x2))],fun _=>none,0⟩ ?_ (fun σ' hle=>?_)
 ·replace h:=hj;refine zAb [] [5] rfl ?_;intro b hb;cases b with
  | true =>
   replace h:=zAD hb.symm h;cases h;exact(Le.forget _ ⟨rfl,trivial⟩)
  | false =>
   replace h:=zAC hb.symm h;cases h;exact(Le.forget _ ⟨rfl,trivial⟩)
 ·show Tri ..;refine zAj hle ?_;refine zAd ?_;have hy:=Option.some.inj h;subst hy;unfold zAt;exact⟨_,Le.refl _ _,rfl,rfl⟩
def zOA (n:Nat) (xs:List AV) (r:Ret):Prop:=∃ (a0:List UInt8) (y0:Bool),zEx n a0=some y0/\xs=[.s (.str a0)]/\r = .val (.s (.bool y0))
def zJM:zAy:=zAx fun xs r=>∃ n,zOA n xs r
theorem zNZ:PSound Tryz.prog 151 zJM:=by
 have gok:∀ f s,look? f [(188,zKL)]=some s->PSound Tryz.prog f s:=zAv (by
  simp only[List.forall_mem_cons]
  exact⟨zPx,by simp⟩)
 refine zAz tokW Tryz.call151 Tryz.func151 rfl (fun xs r h=>by obtain⟨n,_,_,_,rfl,_⟩:=h; show 1<=45; decide) 45 rfl ?_;rintro xs r w0 G0 ⟨n,s1,y0,h,rfl,rfl⟩ _;rw[zEx]at h;refine zAa ?_;refine zAb [] [] rfl ?_;show Tri ..;refine zAa ?_;refine zAb [] [] rfl ?_;show Tri ..;refine zAa ?_;refine zAa ?_;refine zAb [] [] rfl ?_;show Tri ..;obtain⟨fl,hl,ho1⟩:=zAc h;refine zBA (fl:=fl) (fun z=>match z with | points4=>⟨ofL [(0,.s (.str s1)),(3,.s (.int .i64 points4))],fun _=>none,0⟩) ?_ (fun points4 σ' hz hle=>?_)
 ·refine zAk (zAG (X:=Nat×Int×Int) (fun y=>match y with | (k,points2,i3)=>⟨ofL [(0,.s (.str s1)),(3,.s (.int .i64 points2)),(4,.s (.int .i64 i3))],fun _=>none,0⟩) (fun y=>zBQ s1 y.1 y.2.1 y.2.2=some fl) (fun y=>y.1) (n,0,0) hl ?_ ?_)
  ·exact(Le.forget _ ⟨rfl,rfl,rfl,trivial⟩)
  ·rintro⟨k,points2,i3⟩ h;cases k with
   | zero=>cases h
   | succ k =>
    replace h:zBQ s1 (k+1) points2 i3=some fl:=h;rw[zBQ]at h;refine zAa ?_;refine zAa ?_;refine zAb [] [] rfl ?_;show Tri ..;refine zAh rfl h (fun hb h=>?_) (fun hb h=>?_)
    ·refine zAf ?_;show Tri ..;refine zAa ?_;obtain⟨fl,hj,ho2⟩:=zAc h;refine zBA (fl:=fl) (fun z=>match z with | points5=>⟨ofL [(0,.s (.str s1)),(3,.s (.int .i64 points5)),(4,.s (.int .i64 i3))],fun _=>none,0⟩) ?_ (fun points5 σ' hz hle=>?_)
     ·replace h:=hj;refine zAk ?_;refine zAa ?_;obtain⟨x6,hj,h⟩:=zAc h;refine zAq ⟨ofL [(0,.s (.str s1)),(3,.s (.int .i64 points2)),(4,.s (.int .i64 i3)),(25,.s (.bool x6))],fun _=>none,0⟩ ?_ (fun σ' hle=>?_)
      ·replace h:=hj;refine zAb [] [13,15,19] rfl ?_;obtain⟨c7,hc7,h⟩:=zAc h;refine And.intro (zBr hc7).1 ?_;intro v8 hv8;obtain rfl:(c7.toNat:Int)=v8:=(hv8.trans (zBr hc7).2).symm;intro b hb;cases b with
       | true =>
        replace h:=zAD hb.symm h;intro b hb;cases b with
        | true =>
         replace h:=zAD hb.symm h;cases h;exact(Le.forget _ ⟨rfl,rfl,rfl,rfl,trivial⟩)
        | false =>
         replace h:=zAC hb.symm h;cases h;exact(Le.forget _ ⟨rfl,rfl,rfl,rfl,trivial⟩)
       | false =>
        replace h:=zAC hb.symm h;intro b hb;subst hb;cases h;exact(Le.forget _ ⟨rfl,rfl,rfl,rfl,trivial⟩)
      ·show Tri ..;refine zAj hle ?_;refine zAh rfl h (fun hb h=>?_) (fun hb h=>?_)
       ·refine zAb [] [] rfl ?_;cases h;exact⟨_,rfl,(Le.forget _ ⟨rfl,rfl,rfl,trivial⟩)⟩
       ·refine zAa ?_;refine zAb [] [30] rfl ?_;obtain⟨c9,hc9,h⟩:=zAc h;refine And.intro (zBr hc9).1 ?_;intro v10 hv10;obtain rfl:(c9.toNat:Int)=v10:=(hv10.trans (zBr hc9).2).symm;obtain⟨y11,hy11,h⟩:=zAc h;refine⟨_,⟨_,_,hy11,rfl,rfl⟩,?_⟩
        show Tri ..;refine zAh rfl h (fun hb h=>?_) (fun hb h=>?_)
        ·refine zAa ?_;refine zAb [] [] rfl ?_;show Tri ..;refine zAd ?_;cases h;replace h:some _=some _:=ho2;cases h;replace h:some _=some _:=ho1;have hy:=Option.some.inj h;subst hy;unfold zAt;exact⟨_,Le.refl _ _,rfl,rfl⟩
        ·refine zAf ?_;cases h;exact⟨_,rfl,(Le.forget _ ⟨rfl,rfl,rfl,trivial⟩)⟩
     ·subst hz;replace h:=ho2;show Tri ..;refine zAj hle ?_;refine zAb [] [] rfl ?_;refine⟨(k,points5,IntKind.i64.wrap (i3+1)),h,(Le.forget _ ⟨rfl,rfl,rfl,trivial⟩),Nat.lt_succ_self k⟩
    ·refine zAI ?_;cases h;exact⟨_,rfl,(Le.forget _ ⟨rfl,rfl,trivial⟩)⟩
 ·subst hz;replace h:=ho1;show Tri ..;refine zAj hle ?_;refine zAa ?_;obtain⟨x12,hj,h⟩:=zAc h;refine zAq ⟨ofL [(2,.s (.bool x12))],fun _=>none,0⟩ ?_ (fun σ' hle=>?_)
  ·replace h:=hj;refine zAb [] [36,41] rfl ?_;intro b hb;cases b with
   | true =>
    replace h:=zAD hb.symm h;intro b hb;cases b with
    | true =>
     replace h:=zAD hb.symm h;cases h;exact(Le.forget _ ⟨rfl,trivial⟩)
    | false =>
     replace h:=zAC hb.symm h;cases h;exact(Le.forget _ ⟨rfl,trivial⟩)
   | false =>
    replace h:=zAC hb.symm h;intro b hb;subst hb;cases h;exact(Le.forget _ ⟨rfl,trivial⟩)
  ·show Tri ..;refine zAj hle ?_;refine zAd ?_;have hy:=Option.some.inj h;subst hy;unfold zAt;exact⟨_,Le.refl _ _,rfl,rfl⟩
def zKE (n:Nat) (xs:List AV) (r:Ret):Prop:=∃ (a0:List UInt8) (y0:Bool),zCm n a0=some y0/\xs=[.s (.str a0)]/\r = .val (.s (.bool y0))
def zE6:zAy:=zAx fun xs r=>∃ n,zKE n xs r
theorem zGD:PSound Tryz.prog 34 zE6:=by
 have gok:=@gok0 Tryz.prog;refine zAz tokW Tryz.call34 Tryz.func34 rfl (fun xs r h=>by obtain⟨n,_,_,_,rfl,_⟩:=h; show 1<=20; decide) 20 rfl ?_;rintro xs r w0 G0 ⟨n,s1,y0,h,rfl,rfl⟩ _;rw[zCm]at h;refine zAa ?_;refine zAb [] [] rfl ?_;show Tri ..;refine zAa ?_;refine zAa ?_;refine zAb [] [] rfl ?_;show Tri ..;obtain⟨fl,hl,ho1⟩:=zAc h;refine zBA (fl:=fl) (fun z=>match z with | _=>⟨ofL [],fun _=>none,0⟩) ?_ (fun z σ' hz hle=>?_)
 ·refine zAk (zAG (X:=Nat×Int) (fun y=>match y with | (k,i2)=>⟨ofL [(0,.s (.str s1)),(3,.s (.int .i64 i2))],fun _=>none,0⟩) (fun y=>zA8 s1 y.1 y.2=some fl) (fun y=>y.1) (n,0) hl ?_ ?_)
  ·exact(Le.forget _ ⟨rfl,rfl,trivial⟩)
  ·rintro⟨k,i2⟩ h;cases k with
   | zero=>cases h
   | succ k =>
    replace h:zA8 s1 (k+1) i2=some fl:=h;rw[zA8]at h;refine zAa ?_;refine zAa ?_;refine zAb [] [] rfl ?_;show Tri ..;refine zAh rfl h (fun hb h=>?_) (fun hb h=>?_)
    ·refine zAf ?_;show Tri ..;refine zAa ?_;refine zAk ?_;refine zAa ?_;obtain⟨x3,hj,h⟩:=zAc h;refine zAq ⟨ofL [(0,.s (.str s1)),(3,.s (.int .i64 i2)),(19,.s (.bool x3))],fun _=>none,0⟩ ?_ (fun σ' hle=>?_)
     ·replace h:=hj;refine zAb [] [12,14,17] rfl ?_;obtain⟨c4,hc4,h⟩:=zAc h;refine And.intro (zBr hc4).1 ?_;intro v5 hv5;obtain rfl:(c4.toNat:Int)=v5:=(hv5.trans (zBr hc4).2).symm;intro b hb;cases b with
      | true =>
       replace h:=zAD hb.symm h;cases h;exact(Le.forget _ ⟨rfl,rfl,rfl,trivial⟩)
      | false =>
       replace h:=zAC hb.symm h;obtain⟨c6,hc6,h⟩:=zAc h;refine And.intro (zBr hc6).1 ?_;intro v7 hv7;obtain rfl:(c6.toNat:Int)=v7:=(hv7.trans (zBr hc6).2).symm;cases h;exact(Le.forget _ ⟨rfl,rfl,rfl,trivial⟩)
     ·show Tri ..;refine zAj hle ?_;refine zAh rfl h (fun hb h=>?_) (fun hb h=>?_)
      ·refine zAa ?_;refine zAb [] [] rfl ?_;show Tri ..;refine zAd ?_;cases h;replace h:some _=some _:=ho1;have hy:=Option.some.inj h;subst hy;unfold zAt;exact⟨_,Le.refl _ _,rfl,rfl⟩
      ·refine zAf ?_;show Tri ..;refine zAb [] [] rfl ?_;refine⟨(k,IntKind.i64.wrap (i2+1)),h,(Le.forget _ ⟨rfl,rfl,trivial⟩),Nat.lt_succ_self k⟩
    ·refine zAI ?_;cases h;exact⟨_,rfl,(Le.forget _ trivial)⟩
 ·subst hz;obtain _:=z;replace h:=ho1;show Tri ..;refine zAj hle ?_;refine zAa ?_;refine zAb [] [] rfl ?_;show Tri ..;refine zAd ?_;have hy:=Option.some.inj h;subst hy;unfold zAt;exact⟨_,Le.refl _ _,rfl,rfl⟩
def zRw (n:Nat) (xs:List AV) (r:Ret):Prop:=∃ (a0:Nd) (y0:Bool),zGg n a0=some y0/\xs=[.agg ((Nd.enc a0).map .s)]/\r = .val (.s (.bool y0))
def zMH:zAy:=zAx fun xs r=>∃ n,zRw n xs r
theorem zQE:PSound Tryz.prog 113 zMH:=by
 have gok:∀ f s,look? f [(150,zJN),(151,zJM),(34,zE6),(153,zGn),(152,zNz),(154,zKN)]=some s->PSound Tryz.prog f s:=zAv (by
  simp only[List.forall_mem_cons]
  exact⟨zN0,zNZ,zGD,zH3,zPy,zM0,by simp⟩)
 refine zAz tokW Tryz.call113 Tryz.func113 rfl (fun xs r h=>by obtain⟨n,_,_,_,rfl,_⟩:=h; show 1<=53; decide) 53 rfl ?_;rintro xs r w0 G0 ⟨n,⟨n1A,n1B,n1D,n1C⟩,y0,h,rfl,rfl⟩ _;rw[zGg]at h;refine zAa ?_;refine zAb [] [] rfl ?_;show Tri ..;refine zAa ?_;refine zAa ?_;refine zAb [] [] rfl ?_;show Tri ..;refine zAk ?_;refine zAa ?_;refine zAb [] [] rfl ?_;show Tri ..;refine zAh rfl h (fun hb h=>?_) (fun hb h=>?_)
 ·refine zAa ?_;refine zAb [] [] rfl ?_;obtain⟨y2,hy2,h⟩:=zAc h;refine⟨_,⟨_,_,_,hy2,rfl,rfl⟩,?_⟩
  show Tri ..;refine zAd ?_;have hy:=Option.some.inj h;subst hy;unfold zAt;exact⟨_,Le.refl _ _,rfl,rfl⟩
 ·refine zAa ?_;refine zAb [] [] rfl ?_;show Tri ..;refine zAh rfl h (fun hb h=>?_) (fun hb h=>?_)
  ·refine zAa ?_;refine zAb [] [] rfl ?_;obtain⟨y3,hy3,h⟩:=zAc h;refine⟨_,⟨_,_,_,hy3,rfl,rfl⟩,?_⟩
   show Tri ..;refine zAd ?_;have hy:=Option.some.inj h;subst hy;unfold zAt;exact⟨_,Le.refl _ _,rfl,rfl⟩
  ·refine zAa ?_;refine zAb [] [] rfl ?_;show Tri ..;refine zAh rfl h (fun hb h=>?_) (fun hb h=>?_)
   ·refine zAa ?_;obtain⟨x4,hj,h⟩:=zAc h;refine zAq ⟨ofL [(2,.s (.bool x4))],fun _=>none,0⟩ ?_ (fun σ' hle=>?_)
    ·replace h:=hj;refine zAb [] [21] rfl ?_;intro b hb;cases b with
     | true =>
      replace h:=zAD hb.symm h;obtain⟨y5,hy5,h⟩:=zAc h;refine⟨_,⟨_,_,_,hy5,rfl,rfl⟩,?_⟩
      cases h;exact(Le.forget _ ⟨rfl,trivial⟩)
     | false =>
      replace h:=zAC hb.symm h;cases h;exact(Le.forget _ ⟨rfl,trivial⟩)
    ·show Tri ..;refine zAj hle ?_;refine zAd ?_;have hy:=Option.some.inj h;subst hy;unfold zAt;exact⟨_,Le.refl _ _,rfl,rfl⟩
   ·refine zAa ?_;refine zAb [] [] rfl ?_;show Tri ..;refine zAh rfl h (fun hb h=>?_) (fun hb h=>?_)
    ·refine zAa ?_;refine zA2 [] [] [] rfl (by decide +kernel) ?_;obtain⟨y6,hy6,h⟩:=zAc h;refine⟨_,⟨_,hy6,rfl,rfl⟩,?_⟩
     obtain⟨y7,hy7,h⟩:=zAc h;refine⟨_,⟨_,_,_,_,hy7,rfl,rfl⟩,?_⟩
     show Tri ..;refine zAd ?_;have hy:=Option.some.inj h;subst hy;unfold zAt;exact⟨_,Le.refl _ _,rfl,rfl⟩
    ·refine zAa ?_;refine zAb [] [] rfl ?_;show Tri ..;refine zAh rfl h (fun hb h=>?_) (fun hb h=>?_)
     ·refine zAa ?_;obtain⟨x8,hj,h⟩:=zAc h;refine zAq ⟨ofL [(2,.s (.bool x8))],fun _=>none,0⟩ ?_ (fun σ' hle=>?_)
      ·replace h:=hj;refine zAb [] [38,41,44,47] rfl ?_;intro b hb;cases b with
       | true =>
        replace h:=zAD hb.symm h;obtain⟨c9,hc9,h⟩:=zAc h;refine And.intro (zBr hc9).1 ?_;intro v10 hv10;obtain rfl:(c9.toNat:Int)=v10:=(hv10.trans (zBr hc9).2).symm;obtain⟨y11,hy11,h⟩:=zAc h;refine⟨_,⟨_,_,_,_,hy11,rfl,rfl⟩,?_⟩
        intro b hb;cases b with
        | true =>
         replace h:=zAD hb.symm h;obtain⟨c12,hc12,h⟩:=zAc h;refine And.intro (zBr hc12).1 ?_;intro v13 hv13;obtain rfl:(c12.toNat:Int)=v13:=(hv13.trans (zBr hc12).2).symm;obtain⟨y14,hy14,h⟩:=zAc h;refine⟨_,⟨_,_,_,_,hy14,rfl,rfl⟩,?_⟩
         cases h;exact(Le.forget _ ⟨rfl,trivial⟩)
        | false =>
         replace h:=zAC hb.symm h;cases h;exact(Le.forget _ ⟨rfl,trivial⟩)
       | false =>
        replace h:=zAC hb.symm h;intro b hb;subst hb;cases h;exact(Le.forget _ ⟨rfl,trivial⟩)
      ·show Tri ..;refine zAj hle ?_;refine zAd ?_;have hy:=Option.some.inj h;subst hy;unfold zAt;exact⟨_,Le.refl _ _,rfl,rfl⟩
     ·refine zAf ?_;show Tri ..;refine zAa ?_;refine zAb [] [] rfl ?_;show Tri ..;refine zAd ?_;have hy:=Option.some.inj h;subst hy;unfold zAt;exact⟨_,Le.refl _ _,rfl,rfl⟩
def zRv (xs:List AV) (r:Ret):Prop:=∃ (a0:Nd) (y0:Bool),zGf a0=some y0/\xs=[.agg ((Nd.enc a0).map .s)]/\r = .val (.s (.bool y0))
def zMF:zAy:=zAx fun xs r=>zRv xs r
theorem zQC:PSound Tryz.prog 114 zMF:=by
 have gok:=@gok0 Tryz.prog;refine zAz tokW Tryz.call114 Tryz.func114 rfl (fun xs r h=>by obtain⟨_,_,_,rfl,_⟩:=h; show 1<=64; decide) 64 rfl ?_;rintro xs r w0 G0 ⟨⟨n1A,n1B,n1D,n1C⟩,y0,h,rfl,rfl⟩ _;rw[zGf]at h;refine zAa ?_;refine zAb [] [] rfl ?_;show Tri ..;refine zAa ?_;refine zAb [] [6] rfl ?_;intro n2 hn2;obtain rfl:(n1C.length:Int)=n2:=(hn2.trans (congrArg (fun m:Nat=>(m:Int)) (rlen Nd.encs_eq n1C))).symm;show Tri ..;refine zAa ?_;refine zAa ?_;refine zAb [] [] rfl ?_;show Tri ..;refine zAh rfl h (fun hb h=>?_) (fun hb h=>?_)
 ·refine zAa ?_;obtain⟨x3,hj,h⟩:=zAc h;refine zAq ⟨ofL [(2,.s (.bool x3))],fun _=>none,0⟩ ?_ (fun σ' hle=>?_)
  ·replace h:=hj;refine zAb [] [13,18,22,26] rfl ?_;intro b hb;cases b with
   | true =>
    replace h:=zAD hb.symm h;intro b hb;cases b with
    | true =>
     replace h:=zAD hb.symm h;intro b hb;cases b with
     | true =>
      replace h:=zAD hb.symm h;intro b hb;cases b with
      | true =>
       replace h:=zAD hb.symm h;obtain⟨hq,h⟩:=zAK h;refine And.intro hq ?_;cases h;exact(Le.forget _ ⟨rfl,trivial⟩)
      | false =>
       replace h:=zAC hb.symm h;cases h;exact(Le.forget _ ⟨rfl,trivial⟩)
     | false =>
      replace h:=zAC hb.symm h;intro b hb;subst hb;cases h;exact(Le.forget _ ⟨rfl,trivial⟩)
    | false =>
     replace h:=zAC hb.symm h;intro b hb;subst hb;intro b hb;subst hb;cases h;exact(Le.forget _ ⟨rfl,trivial⟩)
   | false =>
    replace h:=zAC hb.symm h;intro b hb;subst hb;intro b hb;subst hb;intro b hb;subst hb;cases h;exact(Le.forget _ ⟨rfl,trivial⟩)
  ·show Tri ..;refine zAj hle ?_;refine zAd ?_;have hy:=Option.some.inj h;subst hy;unfold zAt;exact⟨_,Le.refl _ _,rfl,rfl⟩
 ·refine zAf ?_;show Tri ..;refine zAa ?_;refine zAa ?_;refine zAb [] [] rfl ?_;show Tri ..;refine zAh rfl h (fun hb h=>?_) (fun hb h=>?_)
  ·refine zAa ?_;refine zAb [] [] rfl ?_;show Tri ..;refine zAd ?_;have hy:=Option.some.inj h;subst hy;unfold zAt;exact⟨_,Le.refl _ _,rfl,rfl⟩
  ·refine zAf ?_;show Tri ..;refine zAa ?_;refine zAa ?_;refine zAb [] [] rfl ?_;show Tri ..;obtain⟨fl,hj,ho1⟩:=zAc h;refine zBA (fl:=fl) (fun z=>match z with | _=>⟨ofL [],fun _=>none,0⟩) ?_ (fun z σ' hz hle=>?_)
   ·replace h:=hj;refine zAk ?_;refine zAa ?_;refine zAb [] [] rfl ?_;show Tri ..;refine zAh rfl h (fun hb h=>?_) (fun hb h=>?_)
    ·refine zAa ?_;refine zAb [] [] rfl ?_;show Tri ..;refine zAd ?_;cases h;replace h:some _=some _:=ho1;have hy:=Option.some.inj h;subst hy;unfold zAt;exact⟨_,Le.refl _ _,rfl,rfl⟩
    ·refine zAa ?_;refine zAa ?_;refine zAb [] [] rfl ?_;show Tri ..;obtain⟨x4,hj,h⟩:=zAc h;refine zAq ⟨ofL [(3,.s (.int .i64 (n1C.length:Int))),(37,.s (.int .i64 n1A)),(42,.s (.bool x4))],fun _=>none,0⟩ ?_ (fun σ' hle=>?_)
     ·replace h:=hj;refine zAh rfl h (fun hb h=>?_) (fun hb h=>?_)
      ·refine zAf ?_;cases h;exact(Le.forget _ ⟨rfl,rfl,rfl,trivial⟩)
      ·refine zAa ?_;refine zAb [] [] rfl ?_;show Tri ..;refine zAh rfl h (fun hb h=>?_) (fun hb h=>?_)
       ·refine zAf ?_;cases h;exact(Le.forget _ ⟨rfl,rfl,rfl,trivial⟩)
       ·refine zAb [] [] rfl ?_;cases h;exact(Le.forget _ ⟨rfl,rfl,rfl,trivial⟩)
     ·show Tri ..;refine zAj hle ?_;refine zAh rfl h (fun hb h=>?_) (fun hb h=>?_)
      ·refine zAa ?_;refine zAb [] [] rfl ?_;show Tri ..;refine zAd ?_;cases h;replace h:some _=some _:=ho1;have hy:=Option.some.inj h;subst hy;unfold zAt;exact⟨_,Le.refl _ _,rfl,rfl⟩
      ·refine zAa ?_;refine zAa ?_;refine zAb [] [] rfl ?_;show Tri ..;obtain⟨x5,hj,h⟩:=zAc h;refine zAq ⟨ofL [(3,.s (.int .i64 (n1C.length:Int))),(37,.s (.int .i64 n1A)),(48,.s (.bool x5))],fun _=>none,0⟩ ?_ (fun σ' hle=>?_)
       ·replace h:=hj;refine zAh rfl h (fun hb h=>?_) (fun hb h=>?_)
        ·refine zAf ?_;cases h;exact(Le.forget _ ⟨rfl,rfl,rfl,trivial⟩)
        ·refine zAa ?_;refine zAb [] [] rfl ?_;show Tri ..;refine zAh rfl h (fun hb h=>?_) (fun hb h=>?_)
         ·refine zAf ?_;cases h;exact(Le.forget _ ⟨rfl,rfl,rfl,trivial⟩)
         ·refine zAa ?_;refine zAb [] [] rfl ?_;show Tri ..;refine zAh rfl h (fun hb h=>?_) (fun hb h=>?_)
          ·refine zAf ?_;cases h;exact(Le.forget _ ⟨rfl,rfl,rfl,trivial⟩)
          ·refine zAb [] [] rfl ?_;cases h;exact(Le.forget _ ⟨rfl,rfl,rfl,trivial⟩)
       ·show Tri ..;refine zAj hle ?_;refine zAh rfl h (fun hb h=>?_) (fun hb h=>?_)
        ·refine zAa ?_;refine zAb [] [] rfl ?_;show Tri ..;refine zAd ?_;cases h;replace h:some _=some _:=ho1;have hy:=Option.some.inj h;subst hy;unfold zAt;exact⟨_,Le.refl _ _,rfl,rfl⟩
        ·refine zAa ?_;refine zAb [] [] rfl ?_;show Tri ..;refine zAh rfl h (fun hb h=>?_) (fun hb h=>?_)
         ·refine zAa ?_;refine zAb [] [] rfl ?_;show Tri ..;refine zAd ?_;cases h;replace h:some _=some _:=ho1;have hy:=Option.some.inj h;subst hy;unfold zAt;exact⟨_,Le.refl _ _,rfl,rfl⟩
         ·refine zAa ?_;refine zAa ?_;refine zAb [] [] rfl ?_;show Tri ..;obtain⟨x6,hj,h⟩:=zAc h;refine zAq ⟨ofL [(3,.s (.int .i64 (n1C.length:Int))),(59,.s (.bool x6))],fun _=>none,0⟩ ?_ (fun σ' hle=>?_)
          ·replace h:=hj;refine zAh rfl h (fun hb h=>?_) (fun hb h=>?_)
           ·refine zAf ?_;cases h;exact(Le.forget _ ⟨rfl,rfl,trivial⟩)
           ·refine zAb [] [] rfl ?_;cases h;exact(Le.forget _ ⟨rfl,rfl,trivial⟩)
          ·show Tri ..;refine zAj hle ?_;refine zAh rfl h (fun hb h=>?_) (fun hb h=>?_)
           ·refine zAa ?_;refine zAb [] [] rfl ?_;show Tri ..;refine zAd ?_;cases h;replace h:some _=some _:=ho1;have hy:=Option.some.inj h;subst hy;unfold zAt;exact⟨_,Le.refl _ _,rfl,rfl⟩
           ·refine zAf ?_;cases h;exact⟨_,rfl,(Le.forget _ trivial)⟩
   ·subst hz;obtain _:=z;replace h:=ho1;show Tri ..;refine zAj hle ?_;refine zAa ?_;refine zAb [] [] rfl ?_;show Tri ..;refine zAd ?_;have hy:=Option.some.inj h;subst hy;unfold zAt;exact⟨_,Le.refl _ _,rfl,rfl⟩
def zF1 (n:Nat) (xs:List AV) (r:Ret):Prop:=∃ (a0:Nd) (y0:Bool),zDh n a0=some y0/\xs=[.agg ((Nd.enc a0).map .s)]/\r = .val (.s (.bool y0))
theorem zOj (n:Nat) (ih:PSound Tryz.prog 76 (zAx (zF1 n))):PSound Tryz.prog 76 (zAx (zF1 (n+1))):=by
 have gok:∀ f s,look? f [(113,zMH),(114,zMF),(76,zAx (zF1 n))]=some s->PSound Tryz.prog f s:=zAv (by
  simp only[List.forall_mem_cons]
  exact⟨zQE,zQC,ih,by simp⟩)
 refine zAz tokW Tryz.call76 Tryz.func76 rfl (fun xs r h=>by obtain⟨_,_,_,rfl,_⟩:=h; show 1<=39; decide) 39 rfl ?_;rintro xs r w0 G0 ⟨⟨n1A,n1B,n1D,n1C⟩,y0,h,rfl,rfl⟩ _;rw[zDh]at h;refine zAa ?_;refine zAb [] [] rfl ?_;show Tri ..;refine zAa ?_;refine zAa ?_;obtain⟨x2,hj,h⟩:=zAc h;refine zAq ⟨ofL [(1,.s (.pt [.int .i64 n1A,.str n1B,.int .i64 n1D,.sl 4 (Nd.encs n1C)])),(11,.s (.bool x2))],fun _=>none,0⟩ ?_ (fun σ' hle=>?_)
 ·replace h:=hj;refine zAb [] [7] rfl ?_;obtain⟨y3,hy3,h⟩:=zAc h;refine⟨_,⟨_,_,_,hy3,rfl,rfl⟩,?_⟩
  intro b hb;cases b with
  | true =>
   replace h:=zAD hb.symm h;cases h;exact(Le.forget _ ⟨rfl,rfl,trivial⟩)
  | false =>
   replace h:=zAC hb.symm h;obtain⟨y4,hy4,h⟩:=zAc h;refine⟨_,⟨_,_,hy4,rfl,rfl⟩,?_⟩
   cases h;exact(Le.forget _ ⟨rfl,rfl,trivial⟩)
 ·show Tri ..;refine zAj hle ?_;refine zAh rfl h (fun hb h=>?_) (fun hb h=>?_)
  ·refine zAa ?_;refine zAb [] [] rfl ?_;show Tri ..;refine zAd ?_;have hy:=Option.some.inj h;subst hy;unfold zAt;exact⟨_,Le.refl _ _,rfl,rfl⟩
  ·refine zAf ?_;show Tri ..;refine zAa ?_;refine zAa ?_;refine zAb [] [] rfl ?_;show Tri ..;obtain⟨fl,hl,ho1⟩:=zAc h;refine zBA (fl:=fl) (fun z=>match z with | _=>⟨ofL [],fun _=>none,0⟩) ?_ (fun z σ' hz hle=>?_)
   ·refine zAk (zAG (X:=Nat×Int) (fun y=>match y with | (k,i5)=>⟨ofL [(1,.s (.pt [.int .i64 n1A,.str n1B,.int .i64 n1D,.sl 4 (Nd.encs n1C)])),(3,.s (.int .i64 i5))],fun _=>none,0⟩) (fun y=>zCz (zDh n) n1A n1C y.1 y.2=some fl) (fun y=>y.1) (n,0) hl ?_ ?_)
    ·exact(Le.forget _ ⟨rfl,rfl,trivial⟩)
    ·rintro⟨k,i5⟩ h;cases k with
     | zero=>cases h
     | succ k =>
      replace h:zCz (zDh n) n1A n1C (k+1) i5=some fl:=h;rw[zCz]at h;refine zAa ?_;refine zAa ?_;refine zAb [] [15] rfl ?_;intro n6 hn6;obtain rfl:(n1C.length:Int)=n6:=(hn6.trans (congrArg (fun m:Nat=>(m:Int)) (rlen Nd.encs_eq n1C))).symm;show Tri ..;refine zAh rfl h (fun hb h=>?_) (fun hb h=>?_)
      ·refine zAf ?_;show Tri ..;refine zAa ?_;refine zAk ?_;refine zAa ?_;obtain⟨x7,hj,h⟩:=zAc h;refine zAq ⟨ofL [(1,.s (.pt [.int .i64 n1A,.str n1B,.int .i64 n1D,.sl 4 (Nd.encs n1C)])),(3,.s (.int .i64 i5)),(38,.s (.bool x7))],fun _=>none,0⟩ ?_ (fun σ' hle=>?_)
       ·replace h:=hj;refine zA2 [] [22,30,34] [] rfl (by decide +kernel) ?_;obtain⟨⟨e8A,e8B,e8D,e8C⟩,he8,h⟩:=zAc h;refine And.intro (zAB Nd.encs_eq he8).1 ?_;intro r9 hr9;obtain rfl:[.int .i64 e8A,.str e8B,.int .i64 e8D,.sl 4 (Nd.encs e8C)]=r9:=(hr9.trans (zAB Nd.encs_eq he8).2.1).symm;intro b hb;cases b with
        | true =>
         replace h:=zAD hb.symm h;cases h;exact(Le.forget _ ⟨rfl,rfl,rfl,trivial⟩)
        | false =>
         replace h:=zAC hb.symm h;obtain⟨⟨e10A,e10B,e10D,e10C⟩,he10,h⟩:=zAc h;refine And.intro (zAB Nd.encs_eq he10).1 ?_;intro r11 hr11;obtain rfl:[.int .i64 e10A,.str e10B,.int .i64 e10D,.sl 4 (Nd.encs e10C)]=r11:=(hr11.trans (zAB Nd.encs_eq he10).2.1).symm;obtain⟨y12,hy12,h⟩:=zAc h;refine⟨_,⟨_,_,hy12,rfl,rfl⟩,?_⟩
         cases h;exact(Le.forget _ ⟨rfl,rfl,rfl,trivial⟩)
       ·show Tri ..;refine zAj hle ?_;refine zAh rfl h (fun hb h=>?_) (fun hb h=>?_)
        ·refine zAa ?_;refine zAb [] [] rfl ?_;show Tri ..;refine zAd ?_;cases h;replace h:some _=some _:=ho1;have hy:=Option.some.inj h;subst hy;unfold zAt;exact⟨_,Le.refl _ _,rfl,rfl⟩
        ·refine zAf ?_;show Tri ..;refine zAb [] [] rfl ?_;refine⟨(k,IntKind.i64.wrap (i5+1)),h,(Le.forget _ ⟨rfl,rfl,trivial⟩),Nat.lt_succ_self k⟩
      ·refine zAI ?_;cases h;exact⟨_,rfl,(Le.forget _ trivial)⟩
   ·subst hz;obtain _:=z;replace h:=ho1;show Tri ..;refine zAj hle ?_;refine zAa ?_;refine zAb [] [] rfl ?_;show Tri ..;refine zAd ?_;have hy:=Option.some.inj h;subst hy;unfold zAt;exact⟨_,Le.refl _ _,rfl,rfl⟩
theorem zOQ:∀ n,PSound Tryz.prog 76 (zAx (zF1 n)):=by
 intro n
 induction n with
 | zero=>exact zBq Tryz.call76 (fun xs r h=>by obtain⟨_,_,h,_⟩:=h; cases h)
 | succ n ih=>exact zOj n ih
def zME:zAy:=zAx fun xs r=>∃ n,zF1 n xs r
theorem zQB:PSound Tryz.prog 76 zME:=zBM zOQ
def zE0 (n:Nat) (xs:List AV) (r:Ret):Prop:=∃ (a0:Nd) (y0:Int),zCw n a0=some y0/\xs=[.agg ((Nd.enc a0).map .s)]/\r = .val (.s (.int .i64 y0))
theorem zMy (n:Nat) (ih:PSound Tryz.prog 77 (zAx (zE0 n))):PSound Tryz.prog 77 (zAx (zE0 (n+1))):=by
 have gok:∀ f s,look? f [(77,zAx (zE0 n))]=some s->PSound Tryz.prog f s:=zAv (by
  simp only[List.forall_mem_cons]
  exact⟨ih,by simp⟩)
 refine zAz tokW Tryz.call77 Tryz.func77 rfl (fun xs r h=>by obtain⟨_,_,_,rfl,_⟩:=h; show 1<=21; decide) 21 rfl ?_;rintro xs r w0 G0 ⟨⟨n1A,n1B,n1D,n1C⟩,y0,h,rfl,rfl⟩ _;rw[zCw]at h;refine zAa ?_;refine zAb [] [] rfl ?_;show Tri ..;refine zAa ?_;refine zAb [] [] rfl ?_;show Tri ..;refine zAa ?_;refine zAa ?_;refine zAb [] [] rfl ?_;show Tri ..;obtain⟨out4,hl,h⟩:=zAc h;refine zAq ⟨ofL [(3,.s (.int .i64 out4))],fun _=>none,0⟩ ?_ (fun σ' hle=>?_)
 ·refine zAk (zAG (X:=Nat×Int×Int) (fun y=>match y with | (k,out2,i3)=>⟨ofL [(1,.s (.pt [.int .i64 n1A,.str n1B,.int .i64 n1D,.sl 4 (Nd.encs n1C)])),(3,.s (.int .i64 out2)),(4,.s (.int .i64 i3))],fun _=>none,0⟩) (fun y=>zB8 (zCw n) n1C y.1 y.2.1 y.2.2=some out4) (fun y=>y.1) (n,1,0) hl ?_ ?_)
  ·exact(Le.forget _ ⟨rfl,rfl,rfl,trivial⟩)
  ·rintro⟨k,out2,i3⟩ h;cases k with
   | zero=>cases h
   | succ k =>
    replace h:zB8 (zCw n) n1C (k+1) out2 i3=some out4:=h;rw[zB8]at h;refine zAa ?_;refine zAa ?_;refine zAb [] [8] rfl ?_;intro n5 hn5;obtain rfl:(n1C.length:Int)=n5:=(hn5.trans (congrArg (fun m:Nat=>(m:Int)) (rlen Nd.encs_eq n1C))).symm;show Tri ..;refine zAh rfl h (fun hb h=>?_) (fun hb h=>?_)
    ·refine zAf ?_;show Tri ..;refine zAa ?_;refine zAk ?_;refine zAb [] [16] rfl ?_;obtain⟨⟨e6A,e6B,e6D,e6C⟩,he6,h⟩:=zAc h;refine And.intro (zAB Nd.encs_eq he6).1 ?_;intro r7 hr7;obtain rfl:[.int .i64 e6A,.str e6B,.int .i64 e6D,.sl 4 (Nd.encs e6C)]=r7:=(hr7.trans (zAB Nd.encs_eq he6).2.1).symm;obtain⟨y8,hy8,h⟩:=zAc h;refine⟨_,⟨_,_,hy8,rfl,rfl⟩,?_⟩
     show Tri ..;refine zAb [] [] rfl ?_;refine⟨(k,IntKind.i64.wrap (out2+y8),IntKind.i64.wrap (i3+1)),h,(Le.forget _ ⟨rfl,rfl,rfl,trivial⟩),Nat.lt_succ_self k⟩
    ·refine zAI ?_;cases h;exact(Le.forget _ ⟨rfl,trivial⟩)
 ·show Tri ..;refine zAj hle ?_;refine zAa ?_;refine zAb [] [] rfl ?_;show Tri ..;refine zAd ?_;have hy:=Option.some.inj h;subst hy;unfold zAt;exact⟨_,Le.refl _ _,rfl,rfl⟩
theorem zNA:∀ n,PSound Tryz.prog 77 (zAx (zE0 n)):=by
 intro n
 induction n with
 | zero=>exact zBq Tryz.call77 (fun xs r h=>by obtain⟨_,_,h,_⟩:=h; cases h)
 | succ n ih=>exact zMy n ih
def zKJ:zAy:=zAx fun xs r=>∃ n,zE0 n xs r
theorem zPv:PSound Tryz.prog 77 zKJ:=zBM zNA
def zE1 (n:Nat) (xs:List AV) (r:Ret):Prop:=∃ (a0:Nd) (y0:Int),zCx n a0=some y0/\xs=[.agg ((Nd.enc a0).map .s)]/\r = .val (.s (.int .i64 y0))
theorem zMz (n:Nat) (ih:PSound Tryz.prog 78 (zAx (zE1 n))):PSound Tryz.prog 78 (zAx (zE1 (n+1))):=by
 have gok:∀ f s,look? f [(78,zAx (zE1 n))]=some s->PSound Tryz.prog f s:=zAv (by
  simp only[List.forall_mem_cons]
  exact⟨ih,by simp⟩)
 refine zAz tokW Tryz.call78 Tryz.func78 rfl (fun xs r h=>by obtain⟨_,_,_,rfl,_⟩:=h; show 1<=22; decide) 22 rfl ?_;rintro xs r w0 G0 ⟨⟨n1A,n1B,n1D,n1C⟩,y0,h,rfl,rfl⟩ _;rw[zCx]at h;refine zAa ?_;refine zAb [] [] rfl ?_;show Tri ..;refine zAa ?_;refine zAb [] [] rfl ?_;show Tri ..;refine zAa ?_;refine zAa ?_;refine zAb [] [] rfl ?_;show Tri ..;obtain⟨out4,hl,h⟩:=zAc h;refine zAq ⟨ofL [(3,.s (.int .i64 out4))],fun _=>none,0⟩ ?_ (fun σ' hle=>?_)
 ·refine zAk (zAG (X:=Nat×Int×Int) (fun y=>match y with | (k,out2,i3)=>⟨ofL [(1,.s (.pt [.int .i64 n1A,.str n1B,.int .i64 n1D,.sl 4 (Nd.encs n1C)])),(3,.s (.int .i64 out2)),(4,.s (.int .i64 i3))],fun _=>none,0⟩) (fun y=>zB9 (zCx n) n1C y.1 y.2.1 y.2.2=some out4) (fun y=>y.1) (n,0,0) hl ?_ ?_)
  ·exact(Le.forget _ ⟨rfl,rfl,rfl,trivial⟩)
  ·rintro⟨k,out2,i3⟩ h;cases k with
   | zero=>cases h
   | succ k =>
    replace h:zB9 (zCx n) n1C (k+1) out2 i3=some out4:=h;rw[zB9]at h;refine zAa ?_;refine zAa ?_;refine zAb [] [8] rfl ?_;intro n5 hn5;obtain rfl:(n1C.length:Int)=n5:=(hn5.trans (congrArg (fun m:Nat=>(m:Int)) (rlen Nd.encs_eq n1C))).symm;show Tri ..;refine zAh rfl h (fun hb h=>?_) (fun hb h=>?_)
    ·refine zAf ?_;show Tri ..;refine zAa ?_;refine zAk ?_;refine zAb [] [16] rfl ?_;obtain⟨⟨e6A,e6B,e6D,e6C⟩,he6,h⟩:=zAc h;refine And.intro (zAB Nd.encs_eq he6).1 ?_;intro r7 hr7;obtain rfl:[.int .i64 e6A,.str e6B,.int .i64 e6D,.sl 4 (Nd.encs e6C)]=r7:=(hr7.trans (zAB Nd.encs_eq he6).2.1).symm;obtain⟨y8,hy8,h⟩:=zAc h;refine⟨_,⟨_,_,hy8,rfl,rfl⟩,?_⟩
     show Tri ..;refine zAb [] [] rfl ?_;refine⟨(k,(if out2<y8 then y8 else out2),IntKind.i64.wrap (i3+1)),h,(Le.forget _ ⟨rfl,rfl,rfl,trivial⟩),Nat.lt_succ_self k⟩
    ·refine zAI ?_;cases h;exact(Le.forget _ ⟨rfl,trivial⟩)
 ·show Tri ..;refine zAj hle ?_;refine zAa ?_;refine zAb [] [] rfl ?_;show Tri ..;refine zAd ?_;have hy:=Option.some.inj h;subst hy;unfold zAt;exact⟨_,Le.refl _ _,rfl,rfl⟩
theorem zNB:∀ n,PSound Tryz.prog 78 (zAx (zE1 n)):=by
 intro n
 induction n with
 | zero=>exact zBq Tryz.call78 (fun xs r h=>by obtain⟨_,_,h,_⟩:=h; cases h)
 | succ n ih=>exact zMz n ih
def zKK:zAy:=zAx fun xs r=>∃ n,zE1 n xs r
theorem zPw:PSound Tryz.prog 78 zKK:=zBM zNB
def zQe (n:Nat) (xs:List AV) (r:Ret):Prop:=∃ (a0:Nd) (y0:Bool),zA7 n a0=some y0/\xs=[.agg ((Nd.enc a0).map .s)]/\r = .val (.s (.bool y0))
def zDz:zAy:=zAx fun xs r=>∃ n,zQe n xs r
theorem zDP:PSound Tryz.prog 35 zDz:=by
 have gok:∀ f s,look? f [(76,zME),(77,zKJ),(78,zKK)]=some s->PSound Tryz.prog f s:=zAv (by
  simp only[List.forall_mem_cons]
  exact⟨zQB,zPv,zPw,by simp⟩)
 refine zAz tokW Tryz.call35 Tryz.func35 rfl (fun xs r h=>by obtain⟨n,_,_,_,rfl,_⟩:=h; show 1<=20; decide) 20 rfl ?_;rintro xs r w0 G0 ⟨n,⟨n1A,n1B,n1D,n1C⟩,y0,h,rfl,rfl⟩ _;rw[zA7]at h;refine zAa ?_;refine zAb [] [] rfl ?_;show Tri ..;refine zAa ?_;obtain⟨x2,hj,h⟩:=zAc h;refine zAq ⟨ofL [(2,.s (.bool x2))],fun _=>none,0⟩ ?_ (fun σ' hle=>?_)
 ·replace h:=hj;refine zAb [] [6,10,15] rfl ?_;intro b hb;cases b with
  | true =>
   replace h:=zAD hb.symm h;obtain⟨y3,hy3,h⟩:=zAc h;refine⟨_,⟨_,_,_,hy3,rfl,rfl⟩,?_⟩
   intro b hb;cases b with
   | true =>
    replace h:=zAD hb.symm h;obtain⟨y4,hy4,h⟩:=zAc h;refine⟨_,⟨_,_,_,hy4,rfl,rfl⟩,?_⟩
    intro b hb;cases b with
    | true =>
     replace h:=zAD hb.symm h;obtain⟨y5,hy5,h⟩:=zAc h;refine⟨_,⟨_,_,_,hy5,rfl,rfl⟩,?_⟩
     cases h;exact(Le.forget _ ⟨rfl,trivial⟩)
    | false =>
     replace h:=zAC hb.symm h;cases h;exact(Le.forget _ ⟨rfl,trivial⟩)
   | false =>
    replace h:=zAC hb.symm h;intro b hb;subst hb;cases h;exact(Le.forget _ ⟨rfl,trivial⟩)
  | false =>
   replace h:=zAC hb.symm h;intro b hb;subst hb;intro b hb;subst hb;cases h;exact(Le.forget _ ⟨rfl,trivial⟩)
 ·show Tri ..;refine zAj hle ?_;refine zAd ?_;have hy:=Option.some.inj h;subst hy;unfold zAt;exact⟨_,Le.refl _ _,rfl,rfl⟩
def zD8 (n:Nat) (xs:List AV) (r:Ret):Prop:=∃ (a0:Nd) (a1:Nd) (y0:Bool),zBe n a0 a1=some y0/\xs=[.agg ((Nd.enc a0).map .s),.agg ((Nd.enc a1).map .s)]/\r = .val (.s (.bool y0))
def zCh (n:Nat) (xs:List AV) (r:Ret):Prop:=∃ (a0:List Nd) (a1:List Nd) (y0:Bool),zBR n a0 a1=some y0/\xs=[.s (.sl 4 (Nd.encs a0)),.s (.sl 4 (Nd.encs a1))]/\r = .val (.s (.bool y0))
theorem zMA (n:Nat) (ih_r09_Equal:PSound Tryz.prog 16 (zAx (zD8 n))) (ih_r09_SameItems:PSound Tryz.prog 38 (zAx (zCh n))):PSound Tryz.prog 16 (zAx (zD8 (n+1))):=by
 have gok:∀ f s,look? f [(38,zAx (zCh n))]=some s->PSound Tryz.prog f s:=zAv (by
  simp only[List.forall_mem_cons]
  exact⟨ih_r09_SameItems,by simp⟩)
 refine zAz tokW Tryz.call16 Tryz.func16 rfl (fun xs r h=>by obtain⟨_,_,_,_,rfl,_⟩:=h; show 2<=31; decide) 31 rfl ?_;rintro xs r w0 G0 ⟨⟨a1A,a1B,a1D,a1C⟩,⟨b2A,b2B,b2D,b2C⟩,y0,h,rfl,rfl⟩ _;rw[zBe]at h;refine zAa ?_;refine zAb [] [] rfl ?_;show Tri ..;refine zAa ?_;obtain⟨x3,hj,h⟩:=zAc h;refine zAq ⟨ofL [(4,.s (.bool x3))],fun _=>none,0⟩ ?_ (fun σ' hle=>?_)
 ·replace h:=hj;refine zAb [] [10,17,24] rfl ?_;intro b hb;cases b with
  | true =>
   replace h:=zAD hb.symm h;intro b hb;cases b with
   | true =>
    replace h:=zAD hb.symm h;intro b hb;cases b with
    | true =>
     replace h:=zAD hb.symm h;obtain⟨y4,hy4,h⟩:=zAc h;refine⟨_,⟨_,_,_,hy4,rfl,rfl⟩,?_⟩
     cases h;exact(Le.forget _ ⟨rfl,trivial⟩)
    | false =>
     replace h:=zAC hb.symm h;cases h;exact(Le.forget _ ⟨rfl,trivial⟩)
   | false =>
    replace h:=zAC hb.symm h;intro b hb;subst hb;cases h;exact(Le.forget _ ⟨rfl,trivial⟩)
  | false =>
   replace h:=zAC hb.symm h;intro b hb;subst hb;intro b hb;subst hb;cases h;exact(Le.forget _ ⟨rfl,trivial⟩)
 ·show Tri ..;refine zAj hle ?_;refine zAd ?_;have hy:=Option.some.inj h;subst hy;unfold zAt;exact⟨_,Le.refl _ _,rfl,rfl⟩
theorem zI9 (n:Nat) (ih_r09_Equal:PSound Tryz.prog 16 (zAx (zD8 n))) (ih_r09_SameItems:PSound Tryz.prog 38 (zAx (zCh n))):PSound Tryz.prog 38 (zAx (zCh (n+1))):=by
 have gok:∀ f s,look? f [(16,zAx (zD8 n))]=some s->PSound Tryz.prog f s:=zAv (by
  simp only[List.forall_mem_cons]
  exact⟨ih_r09_Equal,by simp⟩)
 refine zAz tokW Tryz.call38 Tryz.func38 rfl (fun xs r h=>by obtain⟨_,_,_,_,rfl,_⟩:=h; show 2<=27; decide) 27 rfl ?_;rintro xs r w0 G0 ⟨a1,b2,y0,h,rfl,rfl⟩ _;rw[zBR]at h;refine zAa ?_;refine zAb [] [] rfl ?_;show Tri ..;refine zAa ?_;refine zAa ?_;refine zAb [] [7,9] rfl ?_;intro n3 hn3;obtain rfl:(a1.length:Int)=n3:=(hn3.trans (congrArg (fun m:Nat=>(m:Int)) (rlen Nd.encs_eq a1))).symm;intro n4 hn4;obtain rfl:(b2.length:Int)=n4:=(hn4.trans (congrArg (fun m:Nat=>(m:Int)) (rlen Nd.encs_eq b2))).symm;show Tri ..;refine zAh rfl h (fun hb h=>?_) (fun hb h=>?_)
 ·refine zAa ?_;refine zAb [] [] rfl ?_;show Tri ..;refine zAd ?_;have hy:=Option.some.inj h;subst hy;unfold zAt;exact⟨_,Le.refl _ _,rfl,rfl⟩
 ·refine zAf ?_;show Tri ..;refine zAa ?_;refine zAa ?_;refine zAb [] [] rfl ?_;show Tri ..;obtain⟨fl,hl,ho1⟩:=zAc h;refine zBA (fl:=fl) (fun z=>match z with | _=>⟨ofL [],fun _=>none,0⟩) ?_ (fun z σ' hz hle=>?_)
  ·refine zAk (zAG (X:=Nat×Int) (fun y=>match y with | (k,i5)=>⟨ofL [(0,.s (.sl 4 (Nd.encs a1))),(1,.s (.sl 4 (Nd.encs b2))),(5,.s (.int .i64 i5))],fun _=>none,0⟩) (fun y=>zBf (zBe n) a1 b2 y.1 y.2=some fl) (fun y=>y.1) (n,0) hl ?_ ?_)
   ·exact(Le.forget _ ⟨rfl,rfl,rfl,trivial⟩)
   ·rintro⟨k,i5⟩ h;cases k with
    | zero=>cases h
    | succ k =>
     replace h:zBf (zBe n) a1 b2 (k+1) i5=some fl:=h;rw[zBf]at h;refine zAa ?_;refine zAa ?_;refine zAb [] [13] rfl ?_;intro n6 hn6;obtain rfl:(a1.length:Int)=n6:=(hn6.trans (congrArg (fun m:Nat=>(m:Int)) (rlen Nd.encs_eq a1))).symm;show Tri ..;refine zAh rfl h (fun hb h=>?_) (fun hb h=>?_)
     ·refine zAf ?_;show Tri ..;refine zAa ?_;refine zAk ?_;refine zAa ?_;refine zA2 [] [19,23] [] rfl (by decide +kernel) ?_;obtain⟨⟨e7A,e7B,e7D,e7C⟩,he7,h⟩:=zAc h;refine And.intro (zAB Nd.encs_eq he7).1 ?_;intro r8 hr8;obtain rfl:[.int .i64 e7A,.str e7B,.int .i64 e7D,.sl 4 (Nd.encs e7C)]=r8:=(hr8.trans (zAB Nd.encs_eq he7).2.1).symm;obtain⟨⟨e9A,e9B,e9D,e9C⟩,he9,h⟩:=zAc h;refine And.intro (zAB Nd.encs_eq he9).1 ?_;intro r10 hr10
      obtain rfl:[.int .i64 e9A,.str e9B,.int .i64 e9D,.sl 4 (Nd.encs e9C)]=r10:=(hr10.trans (zAB Nd.encs_eq he9).2.1).symm;obtain⟨y11,hy11,h⟩:=zAc h;refine⟨_,⟨_,_,_,hy11,rfl,rfl⟩,?_⟩
      show Tri ..;refine zAh rfl h (fun hb h=>?_) (fun hb h=>?_)
      ·refine zAa ?_;refine zAb [] [] rfl ?_;show Tri ..;refine zAd ?_;cases h;replace h:some _=some _:=ho1;have hy:=Option.some.inj h;subst hy;unfold zAt;exact⟨_,Le.refl _ _,rfl,rfl⟩
      ·refine zAf ?_;show Tri ..;refine zAb [] [] rfl ?_;refine⟨(k,IntKind.i64.wrap (i5+1)),h,(Le.forget _ ⟨rfl,rfl,rfl,trivial⟩),Nat.lt_succ_self k⟩
     ·refine zAI ?_;cases h;exact⟨_,rfl,(Le.forget _ trivial)⟩
  ·subst hz;obtain _:=z;replace h:=ho1;show Tri ..;refine zAj hle ?_;refine zAa ?_;refine zAb [] [] rfl ?_;show Tri ..;refine zAd ?_;have hy:=Option.some.inj h;subst hy;unfold zAt;exact⟨_,Le.refl _ _,rfl,rfl⟩
theorem zHX:∀ n,PSound Tryz.prog 16 (zAx (zD8 n))/\PSound Tryz.prog 38 (zAx (zCh n)):=by
 intro n
 induction n with
 | zero =>
  refine⟨?_,?_⟩
  ·exact zBq Tryz.call16 (fun xs r h=>by obtain⟨_,_,_,h,_⟩:=h; rw[zBe]at h; cases h)
  ·exact zBq Tryz.call38 (fun xs r h=>by obtain⟨_,_,_,h,_⟩:=h; rw[zBR]at h; cases h)
 | succ n ih =>
  obtain⟨ih_r09_Equal,ih_r09_SameItems⟩:=ih;exact⟨zMA n ih_r09_Equal ih_r09_SameItems,zI9 n ih_r09_Equal ih_r09_SameItems⟩
def zIa:zAy:=zAx fun xs r=>∃ n,zD8 n xs r
theorem zJ1:PSound Tryz.prog 16 zIa:=zBM (fun n=>(zHX n).1)
def zGT:zAy:=zAx fun xs r=>∃ n,zCh n xs r
theorem zKl:PSound Tryz.prog 38 zGT:=zBM (fun n=>(zHX n).2)
def zRt (n:Nat) (xs:List AV) (r:Ret):Prop:=∃ (a0:Nd) (a1:List Int) (y0:Nd) (y1:Int),zGc n a0 a1=some (y0,y1)/\xs=[.agg ((Nd.enc a0).map .s),.s (.sl 1 (a1.map (irow .i64)))]/\r = .val (.tup [.agg ((Nd.enc y0).map .s),.s (.int .i64 y1)])
def zMC:zAy:=zAx fun xs r=>∃ n,zRt n xs r
theorem zQz:PSound Tryz.prog 146 zMC:=by
 have gok:∀ f s,look? f [(73,zCp),(178,zKI),(53,zE2)]=some s->PSound Tryz.prog f s:=zAv (by
  simp only[List.forall_mem_cons]
  exact⟨zCC,zPu,zFD,by simp⟩)
 refine zAz tokW Tryz.call146 Tryz.func146 rfl (fun xs r h=>by obtain⟨n,_,_,_,_,_,rfl,_⟩:=h; show 2<=_; decide) _ rfl ?_;rintro xs r w0 G0 ⟨f,⟨k,t,c,ks⟩,p,y0,y1,h,rfl,rfl⟩ _;rw[zGc]at h;obtain⟨b,hb,h⟩:=zAc h;refine zAa ?_;refine zAb [4] [] rfl ?_;show Tri ..;refine zAa ?_;refine zAa ?_;refine zAb [] [] rfl ?_;refine⟨_,⟨f,_,_,hb,rfl,rfl⟩,?_⟩
 show Tri ..;cases b with
 | false =>
  refine zAQ rfl (fun _=>?_) (fun h=>by cases h)
  refine zAa ?_;refine zAb [] [] rfl ?_;show Tri ..;refine zAd ?_;obtain⟨rfl,rfl⟩:=Prod.mk.inj (Option.some.inj h)
  unfold zAt;exact⟨_,Le.refl _ _,rfl,rfl⟩
 | true =>
  refine zAQ rfl (fun h=>by cases h) (fun _=>?_)
  refine zAf ?_;show Tri ..;replace h:(match zBl (.mk k t c ks) p with | some r=>(zBm r).bind fun r=>some (r,0) | none=>some (zCT,8))=some (y0,y1):=h;refine zAa ?_;refine zAb [] [] rfl ?_;cases hf:zBl (.mk k t c ks) p with
  | none =>
   rw[hf]at h;refine⟨.val (.tup [.junk,.s (.bool false)]),⟨.mk k t c ks,p,rfl,by rw[hf]; rfl⟩,?_⟩
   show Tri ..;refine zAa ?_;refine zAa ?_;refine zAb [] [] rfl ?_;show Tri ..;refine zAQ rfl (fun _=>?_) (fun h=>by cases h)
   refine zAa ?_;refine zAb [] [] rfl ?_;show Tri ..;refine zAd ?_;obtain⟨rfl,rfl⟩:=Prod.mk.inj (Option.some.inj h)
   unfold zAt;exact⟨_,Le.refl _ _,rfl,rfl⟩
  | some z =>
   obtain⟨k2,t2,c2,ks2⟩:=z;rw[hf]at h;refine⟨.val (.tup [.s (.pt (Nd.enc (.mk k2 t2 c2 ks2))),.s (.bool true)]),⟨.mk k t c ks,p,rfl,by rw[hf]; rfl⟩,?_⟩
   show Tri ..;refine zAa ?_;refine zAa ?_;refine zAb [] [] rfl ?_;show Tri ..;refine zAQ rfl (fun h=>by cases h) (fun _=>?_)
   refine zAf ?_;show Tri ..;obtain⟨⟨k3,t3,c3,ks3⟩,hd,h⟩:=zAc h;obtain⟨rfl,rfl⟩:=Prod.mk.inj (Option.some.inj h)
   refine zAa ?_;refine zAb [] [] rfl ?_;refine⟨_,⟨_,_,hd,rfl,rfl⟩,?_⟩
   show Tri ..;refine zAd ?_;unfold zAt;exact⟨_,Le.refl _ _,rfl,rfl⟩
theorem zS3 {T:Nat->Option TI}{own:Bool}{o:Oper}{σ:St}{e t e0:Nat}{args:Array Operand}{ts:Array Nat}{y:Operand}{v:AV}{ks:List Nd}{keys:List Nat} (hv:VAt σ.hp e v ks keys) (ho:o.op = .call { callee:=.builtin .len,args:=args,argTypes:=ts }) (ha:args.toList=[y]) (hts:ts.toList=[t]) (ht:tk T t = .slice e0)
  (hy:opd T σ.env t y=v):step1 T own o σ=some (none,.s (.int .i64 (ks.length:Int)),σ):=by
 rcases hv with ⟨rfl,rfl,_⟩ | ⟨q,rows,keys',w,rfl,hq,hlen,_,_⟩
 ·have e1:zCo T own o σ.env=some (none,.s (.int .i64 0)) :=(by simp only[zCo,ho,ha,hts,pLen,ht,hy]; rfl);simp only[step1,e1]; rfl
 ·rw[zLK ho ha hts ht hy hq,hlen]
theorem zSQ {k c:Int}{tx:List UInt8}{ks:List Nd}{k2 c2:Int}{tx2:List UInt8}{ks2:List Nd}{z r:Nd}{i s:Int}{p:List Int} (hx:ks[i.toNat]? = some (.mk k2 tx2 c2 ks2)) (hz:ks2[s.toNat]? = some z) :
  putL (.mk k tx c ks) (i::s::p) r = .mk k tx c (ks.set i.toNat (.mk k2 tx2 c2 (ks2.set s.toNat (putL z p r)))):=by
 rw[putL,hx]
 simp only[hz]
theorem Hole.here {hp:Nat->Option Ob}{e:Nat}{p p1:AV}{y:Nd}{keys:List Nat}{F:Nd->Nd} (hn:(zBb p::keys).Nodup) (h:Hole hp e p keys p1 y F):∃ keys0 w0,At hp e p1 y keys0 [] w0/\isL 4 p1/\(zBb p1::keys0).Nodup:=by
 obtain⟨keys0,rest,w0,a1,a2,a3,a4,_⟩:=h;obtain⟨hb,hnk⟩:=List.nodup_cons.1 hn;obtain⟨n0,n1,n01⟩:=List.nodup_append.1 (a1.nodup_iff.1 hnk)
 refine⟨keys0,w0,a2,a3,List.nodup_cons.2 ⟨fun hm=>?_,n0⟩⟩
 rcases a4 with rfl | a4
 ·exact hb (a1.mem_iff.2 (List.mem_append_left _ hm))
 ·exact n01 _ hm _ a4 rfl
theorem Hole.step {hp:Nat->Option Ob}{e q i:Nat}{p p1:AV}{k c:Int}{tx:List UInt8}{ks:List Nd}{x:Nd}{keys:List Nat}{F:Nd->Nd} (hn:(zBb p::keys).Nodup) (h:Hole hp e p keys p1 (.mk k tx c ks) F) (hx:ks[i]? = some x) (hc:zAO hp p1=some (zA5 k tx c (.orow q))) :
  Hole hp e p keys (.rp q 4 i 0) x (fun r=>F (.mk k tx c (ks.set i r))) :=
 Hole.trans hn h fun keys0 w0 ha hl hn0=>by
  obtain⟨b,rows,h1,_,_,h4⟩:=Hole.kid ha hl hn0 hx;rw[hc]at h1;have:q=b :=(by simpa [zA5] using h1);rw[this]; exact h4
theorem zTM {t r:Nd}:putL t [] r=r:=by cases t; rfl
def zOp (xs:List AV) (hp:Nat->Option Ob) (n:Nat) (Φ:AV->(Nat->Option Ob)->Nat->Prop):Prop :=
 ∃ (p:AV) (t:Nd) (path:List Int) (keys:List Nat) (w:Nat),xs=[p,.s (.sl 1 (path.map (irow .i64)))]/\isL 4 p/\At hp 24 p t keys [] w/\(zBb p::keys).Nodup /\
  (zBl t path=none->Φ (.tup [.junk,.s (.bool false)]) hp n)/\∀ p1 y F,zBl t path=some y->Hole hp 24 p keys p1 y F->(∀ r,putL t path r=F r)->Φ (.tup [p1,.s (.bool true)]) hp n
def zKw:zAy:=zPd zOp
set_option maxHeartbeats 600000 in
theorem zNI:PSound Tryz.prog 178 zKw:=by
 have gok:=@gok0 Tryz.prog;refine zMR tokW Tryz.call178 Tryz.func178 rfl (fun xs hp n Φ h=>by obtain⟨_,_,_,_,_,rfl,_⟩:=h; show 2<=_; decide) _ rfl ?_;rintro xs hp n Φ w0 G0 B0 ⟨p0,t0,path0,keys,w,rfl,hl0,hat,hnd,hΦ1,hΦ2⟩ _ hhp;refine zAa ?_;refine zAb [] [] rfl ?_;show Tri ..;refine zAa ?_;refine zAk (zAG (X:=AV×Nd×List Int×(Nd->Nd)) (fun x=>match x with | (p,y,q,F)=>⟨ofL [(0,p),(1,.s (.sl 1 (q.map (irow .i64)))),(4,.s .np),(5,.s (.bool false))],hp,n⟩)
  (fun x=>match x with | (p,y,q,F)=>zBl t0 path0=zBl y q/\Hole hp 24 p0 keys p y F/\∀ r,putL t0 path0 r=F (putL y q r)) (fun x=>match x with | (p,y,q,F)=>q.length) (p0,t0,path0,id) ⟨rfl,Hole.refl hat hl0,fun _=>rfl⟩ (Le.forget [(0,p0),(1,.s (.sl 1 (path0.map (irow .i64)))),(4,.s .np),(5,.s (.bool false))] ⟨rfl,rfl,rfl,rfl,trivial⟩) ?_)
 rintro⟨p,⟨k,t,c,ks⟩,q,F⟩ hI;have hI:zBl t0 path0=zBl (.mk k t c ks) q/\Hole hp 24 p0 keys p (.mk k t c ks) F/\∀ r,putL t0 path0 r=F (putL (.mk k t c ks) q r):=hI
 obtain⟨hI1,hI2,hI3⟩:=hI;have hlp:isL 4 p :=(by obtain⟨_,_,_,_,_,h,_⟩:=hI2; exact h);refine zAa ?_;refine zAa ?_;refine zAb [] [] rfl ?_;show Tri ..;refine zAQ rfl (fun hb=>?_) (fun hb=>?_)
 ·refine zAf ?_;show Tri ..
  match q,hI1,hI3,hb with
  | [],_,_,hb=>cases hb
  | [_],_,_,hb=>cases hb
  | i::s::q,hI1,hI3,hb =>
   refine zAj (Le.forgetH [(0,p),(1,.s (.sl 1 ((i::s::q).map (irow .i64)))),(4,.s .np),(5,.s (.bool false))] hp n ⟨rfl,rfl,rfl,rfl,trivial⟩ (fun _=>rfl) rfl) ?_;refine zAa ?_;refine zAk ?_;refine zAa ?_;refine zLQ (by exact tokW) (by exact gok) (by exact mixed) [] [] [1,2,4,5] rfl (by decide +kernel) ?_;refine And.intro (show(0:Int)<=0/\(0:Int)<((((i::s::q).map (irow .i64)).length:Nat):Int) by simp only[List.map_cons,List.length_cons]; omega) ?_;refine And.intro (show(0:Int)<=1/\(1:Int)<((((i::s::q).map (irow .i64)).length:Nat):Int) by simp only[List.map_cons,List.length_cons]; omega) ?_;show Tri ..
   refine zAj (Le.forgetH [(0,p),(1,.s (.sl 1 ((i::s::q).map (irow .i64)))),(4,.s .np),(5,.s (.bool false)),(6,.s (.int .i64 i)),(7,.s (.int .i64 s))] hp n ⟨rfl,rfl,rfl,rfl,rfl,rfl,trivial⟩ (fun _=>rfl) rfl) ?_;refine zAa ?_;refine zAa ?_
   by_cases hi:i<0
   ·refine zAb [] [21] rfl ?_;intro b hb;obtain rfl:true=b:=(hb.trans (decide_eq_true hi)).symm;show Tri ..;refine zAQ rfl (fun _=>?_) (fun h=>by cases h)
    refine zAa ?_;refine zAb [] [] rfl ?_;show Tri ..;refine zAd ?_;unfold zHK;exact⟨_,Le.forget [(5,.s (.bool false))] ⟨rfl,trivial⟩,_,rfl,hΦ1 (hI1.trans (zGo (fun h=>by omega)))⟩
   obtain⟨keys1,w1,hat1,_,hnd1⟩:=hI2.here hnd;obtain⟨v,hcv,hv⟩:=hat1.full;refine zAb [] [] rfl ?_;refine zAe rfl rfl rfl rfl rfl rfl trivial ?_;refine zAe rfl rfl rfl rfl rfl rfl trivial ?_;rw[show decide (i<0)=false from decide_eq_false hi]
   refine zAe rfl rfl rfl rfl rfl rfl trivial ?_;refine zCQ (g:=22) rfl rfl rfl ?_;refine zAe rfl rfl rfl rfl rfl rfl trivial ?_;refine zCQ (g:=22) rfl rfl rfl ?_;refine zAe rfl rfl rfl rfl rfl (zCP hlp (.inr rfl) rfl rfl) trivial ?_;refine zCQ (g:=22) rfl rfl rfl ?_;refine zAe rfl rfl rfl rfl rfl (zEl hlp rfl rfl) trivial ?_;refine zCQ (g:=22) rfl rfl rfl ?_;refine zAe rfl rfl rfl rfl rfl (zEF hlp rfl rfl rfl rfl rfl rfl rfl) trivial ?_;refine zCQ (g:=22) rfl rfl rfl ?_;refine zDt (off:=3) (sz:=4) rfl rfl rfl rfl rfl rfl rfl hlp rfl hcv rfl ?_;refine zCQ (g:=22) rfl rfl rfl ?_
   refine zAe rfl rfl rfl rfl rfl (zS3 hv rfl rfl rfl rfl rfl) trivial ?_;refine zCQ (g:=22) rfl rfl rfl ?_;refine zAe rfl rfl rfl rfl rfl rfl trivial ?_
   by_cases hi2:(ks.length:Int)<=i
   ·rw[show decide ((ks.length:Int)<=i)=true from decide_eq_true hi2]
    refine zAe rfl rfl rfl rfl rfl rfl trivial ?_;show Tri ..;refine zAQ rfl (fun _=>?_) (fun h=>by cases h)
    refine zAa ?_;refine zAb [] [] rfl ?_;show Tri ..;refine zAd ?_;unfold zHK;exact⟨_,Le.forget [(5,.s (.bool false))] ⟨rfl,trivial⟩,_,rfl,hΦ1 (hI1.trans (zGo (n:=.mk k t c ks) (fun h=>by have:i<(ks.length:Int):=h.2; omega)))⟩
   rw[show decide ((ks.length:Int)<=i)=false from decide_eq_false hi2]
   refine zAe rfl rfl rfl rfl rfl rfl trivial ?_;show Tri ..;refine zAQ rfl (fun h=>by cases h) (fun _=>?_)
   refine zAf ?_;show Tri ..;have hi0:i.toNat<ks.length :=(by omega);obtain⟨⟨k2,t2,c2,ks2⟩,hx⟩:∃ x,ks[i.toNat]? = some x:=⟨_,List.getElem?_eq_getElem hi0⟩
   obtain⟨b1,rows1,hc1,hr1,hlen1,hole1⟩:=Hole.kid hat1 hlp hnd1 hx;refine zAj (Le.forgetH [(0,p),(1,.s (.sl 1 ((i::s::q).map (irow .i64)))),(4,.s .np),(5,.s (.bool false)),(6,.s (.int .i64 i)),(7,.s (.int .i64 s))] hp n ⟨rfl,rfl,rfl,rfl,rfl,rfl,trivial⟩ (fun _=>rfl) rfl) ?_;refine zAa ?_;refine zAb [] [] rfl ?_;refine zAe rfl rfl rfl rfl rfl (zCP hlp (.inr rfl) rfl rfl) trivial ?_;refine zAe rfl rfl rfl rfl rfl (zEl hlp rfl rfl) trivial ?_;refine zAe rfl rfl rfl rfl rfl (zEF hlp rfl rfl rfl rfl rfl rfl rfl) trivial ?_;refine zDt (off:=3) (sz:=4) rfl rfl rfl rfl rfl rfl rfl hlp rfl hc1 rfl ?_
   refine zAe rfl rfl rfl rfl rfl rfl trivial ?_;refine zAe rfl rfl rfl rfl rfl (zOg rfl rfl rfl rfl rfl rfl hr1 rfl) ⟨by omega,by rw[hlen1]; omega⟩ ?_;refine zAe rfl rfl rfl rfl rfl rfl trivial ?_;show Tri ..;refine zAj (Le.forgetH [(0,p),(1,.s (.sl 1 ((i::s::q).map (irow .i64)))),(4,.s .np),(5,.s (.bool false)),(6,.s (.int .i64 i)),(7,.s (.int .i64 s)),(8,.rp b1 4 i.toNat 0)] hp n ⟨rfl,rfl,rfl,rfl,rfl,rfl,rfl,trivial⟩ (fun _=>rfl) rfl) ?_;refine zAa ?_;refine zAa ?_
   by_cases hs:s<0
   ·refine zAb [] [38] rfl ?_;intro b hb;obtain rfl:true=b:=(hb.trans (decide_eq_true hs)).symm;show Tri ..;refine zAQ rfl (fun _=>?_) (fun h=>by cases h)
    refine zAa ?_;refine zAb [] [] rfl ?_;show Tri ..;refine zAd ?_;unfold zHK;exact⟨_,Le.forget [(5,.s (.bool false))] ⟨rfl,trivial⟩,_,rfl,hΦ1 (hI1.trans (zGp (n:=.mk k t c ks) (by omega) hx (fun h=>by omega)))⟩
   have hl2:isL 4 (.rp b1 4 i.toNat 0):=.inl ⟨b1,i.toNat,rfl⟩
   have hI4:=Hole.step hnd hI2 hx hc1;obtain⟨keys2,w2,hat2,_,hnd2⟩:=hI4.here hnd;obtain⟨v2,hcv2,hv2⟩:=hat2.full;refine zAb [] [] rfl ?_;refine zAe rfl rfl rfl rfl rfl rfl trivial ?_;refine zAe rfl rfl rfl rfl rfl rfl trivial ?_;rw[show decide (s<0)=false from decide_eq_false hs]
   refine zAe rfl rfl rfl rfl rfl rfl trivial ?_;refine zCQ (g:=39) rfl rfl rfl ?_;refine zAe rfl rfl rfl rfl rfl rfl trivial ?_;refine zCQ (g:=39) rfl rfl rfl ?_;refine zAe rfl rfl rfl rfl rfl (zCP hl2 (.inr rfl) rfl rfl) trivial ?_;refine zCQ (g:=39) rfl rfl rfl ?_;refine zAe rfl rfl rfl rfl rfl (zEl hl2 rfl rfl) trivial ?_;refine zCQ (g:=39) rfl rfl rfl ?_;refine zAe rfl rfl rfl rfl rfl (zEF hl2 rfl rfl rfl rfl rfl rfl rfl) trivial ?_;refine zCQ (g:=39) rfl rfl rfl ?_;refine zDt (off:=3) (sz:=4) rfl rfl rfl rfl rfl rfl rfl hl2 rfl hcv2 rfl ?_;refine zCQ (g:=39) rfl rfl rfl ?_
   refine zAe rfl rfl rfl rfl rfl (zS3 hv2 rfl rfl rfl rfl rfl) trivial ?_;refine zCQ (g:=39) rfl rfl rfl ?_;refine zAe rfl rfl rfl rfl rfl rfl trivial ?_
   by_cases hs2:(ks2.length:Int)<=s
   ·rw[show decide ((ks2.length:Int)<=s)=true from decide_eq_true hs2]
    refine zAe rfl rfl rfl rfl rfl rfl trivial ?_;show Tri ..;refine zAQ rfl (fun _=>?_) (fun h=>by cases h)
    refine zAa ?_;refine zAb [] [] rfl ?_;show Tri ..;refine zAd ?_;unfold zHK;exact⟨_,Le.forget [(5,.s (.bool false))] ⟨rfl,trivial⟩,_,rfl,hΦ1 (hI1.trans (zGp (n:=.mk k t c ks) (by omega) hx (fun h=>by have:s<(ks2.length:Int):=h.2; omega)))⟩
   rw[show decide ((ks2.length:Int)<=s)=false from decide_eq_false hs2]
   refine zAe rfl rfl rfl rfl rfl rfl trivial ?_;show Tri ..;refine zAQ rfl (fun h=>by cases h) (fun _=>?_)
   refine zAf ?_;show Tri ..;have hs0:s.toNat<ks2.length :=(by omega);obtain⟨z,hz⟩:∃ z,ks2[s.toNat]? = some z:=⟨_,List.getElem?_eq_getElem hs0⟩
   obtain⟨b2,rows2,hc2,hr2,hlen2,hole2⟩:=Hole.kid hat2 hl2 hnd2 hz;refine zAj (Le.forgetH [(0,p),(1,.s (.sl 1 ((i::s::q).map (irow .i64)))),(4,.s .np),(5,.s (.bool false)),(6,.s (.int .i64 i)),(7,.s (.int .i64 s)),(8,.rp b1 4 i.toNat 0)] hp n ⟨rfl,rfl,rfl,rfl,rfl,rfl,rfl,trivial⟩ (fun _=>rfl) rfl) ?_;refine zAb [] [] rfl ?_;refine zAe rfl rfl rfl rfl rfl (zCP hl2 (.inr rfl) rfl rfl) trivial ?_;refine zAe rfl rfl rfl rfl rfl (zEl hl2 rfl rfl) trivial ?_;refine zAe rfl rfl rfl rfl rfl (zEF hl2 rfl rfl rfl rfl rfl rfl rfl) trivial ?_;refine zDt (off:=3) (sz:=4) rfl rfl rfl rfl rfl rfl rfl hl2 rfl hc2 rfl ?_
   refine zAe rfl rfl rfl rfl rfl rfl trivial ?_;refine zAe rfl rfl rfl rfl rfl (zOg rfl rfl rfl rfl rfl rfl hr2 rfl) ⟨by omega,by rw[hlen2]; omega⟩ ?_;refine zAe rfl rfl rfl rfl rfl rfl trivial ?_;show Tri ..;refine zAj (Le.forgetH [(0,.rp b2 4 s.toNat 0),(1,.s (.sl 1 ((i::s::q).map (irow .i64)))),(4,.s .np),(5,.s (.bool false))] hp n ⟨rfl,rfl,rfl,rfl,trivial⟩ (fun _=>rfl) rfl) ?_;refine zAb [] [] rfl ?_;have h2l:(2:Int)<=((((i::s::q).map (irow .i64)).length:Nat):Int) :=(by simp only[List.map_cons,List.length_cons]; omega);refine zAe rfl rfl rfl rfl rfl rfl trivial ?_
   refine zAe rfl rfl rfl rfl rfl rfl ⟨by decide,h2l,Int.le_refl _⟩ ?_;refine zAe rfl rfl rfl rfl rfl rfl trivial ?_;have hI5:=Hole.step hnd hI4 hz hc2;refine⟨(.rp b2 4 s.toNat 0,z,q,fun r=>F (.mk k t c (ks.set i.toNat (.mk k2 t2 c2 (ks2.set s.toNat r))))),⟨?_,hI5,?_⟩,Le.forgetH [(0,.rp b2 4 s.toNat 0),(1,.s (.sl 1 (q.map (irow .i64)))),(4,.s .np),(5,.s (.bool false))] hp n ⟨rfl,congrArg (fun z=>AV.s (.sl 1 z)) ?_,rfl,rfl,trivial⟩ (fun _=>rfl) rfl,?_⟩
   ·exact hI1.trans (zMO (n:=.mk k t c ks) (by omega) hx (by omega) hz)
   ·intro r;exact(hI3 r).trans (congrArg F (zSQ hx hz))
   ·show List.drop 2 (List.take ((((i::s::q).map (irow .i64)).length:Nat):Int).toNat ((i::s::q).map (irow .i64)))=_;rw[Int.toNat_natCast,List.take_length]; rfl
   ·show q.length<q.length+1+1
    omega
 ·refine zAI ?_;show Tri ..;refine zAj (Le.forgetH [(0,p),(1,.s (.sl 1 (q.map (irow .i64)))),(4,.s .np),(5,.s (.bool false))] hp n ⟨rfl,rfl,rfl,rfl,trivial⟩ (fun _=>rfl) rfl) ?_;refine zAa ?_;refine zAb [] [] rfl ?_;refine zAe rfl rfl rfl rfl rfl (zCP hlp (.inr rfl) rfl rfl) trivial ?_
  match q,hI1,hI3,hb with
  | [],hI1,hI3,_ =>
   refine zAe rfl rfl rfl rfl rfl rfl trivial ?_;refine zAe rfl rfl rfl rfl rfl rfl trivial ?_;refine zAe rfl rfl rfl rfl rfl rfl trivial ?_;refine zAe rfl rfl rfl rfl rfl (zCP hlp (.inl rfl) rfl rfl) trivial ?_;refine zAe rfl rfl rfl rfl rfl rfl trivial ?_;show Tri ..;refine zAd ?_;have hd:AV.deep p=p:=by rcases hlp with ⟨_,_,rfl⟩ | ⟨_,rfl⟩ <;> rfl
   unfold zHK;refine⟨_,Le.forget [(4,p),(5,.s (.bool true))] ⟨rfl,rfl,trivial⟩,.tup [p,.s (.bool true)],?_,hΦ2 p (.mk k t c ks) F (hI1.trans rfl) hI2 fun r=>(hI3 r).trans (by rw[zTM])⟩
   show some (AV.tup [AV.deep p,.s (.bool true)])=_;rw[hd]
  | [i],hI1,_,_ =>
   refine zAe rfl rfl rfl rfl rfl rfl trivial ?_;refine zAe rfl rfl rfl rfl rfl rfl trivial ?_;refine zAe rfl rfl rfl rfl rfl rfl trivial ?_;refine zAe rfl rfl rfl rfl rfl (zCP hlp (.inl rfl) rfl rfl) trivial ?_;refine zAe rfl rfl rfl rfl rfl rfl trivial ?_;show Tri ..;refine zAd ?_;unfold zHK;exact⟨_,Le.forget [(5,.s (.bool false))] ⟨rfl,trivial⟩,_,rfl,hΦ1 (hI1.trans rfl)⟩
  | i::s::p,_,_,hb=>exact absurd (of_decide_eq_false hb) (by simp only[List.map_cons,List.length_cons]; omega)
theorem zHx {T:Nat->Option TI}{σ:St}{t ty q bt u:Nat}{i:TI}{cells:List AV} (h1:σ.env t = .op q 0) (h2:σ.hp q=some (.box bt cells)) (h3:T ty=some i) (ha:i.k.agg=true) (hz:i.size=cells.length):zKm T σ [.cell t ty,.tmp u]=some (.tup [AV.deep (.agg cells),(σ.env u).deep]):=by
 have hb:Nat.ble i.size cells.length=true :=(by rw[hz]; exact Nat.ble_eq_true_of_le (Nat.le_refl _));simp only[zKm,zHr,zPO,h1,h2,h3,ha,hb]
 rw[hz,List.take_length]
theorem Hole.base {hp:Nat->Option Ob}{e:Nat}{p p1:AV}{y:Nd}{keys:List Nat}{F:Nd->Nd} (h:Hole hp e p keys p1 y F):zBb p1=zBb p∨zBb p1∈keys:=by
 obtain⟨keys0,rest,w0,a1,a2,a3,a4,_⟩:=h;rcases a4 with rfl | a4
 ·exact .inl rfl
 ·exact .inr (a1.mem_iff.2 (List.mem_append_right _ a4))
theorem At.ofV {hp:Nat->Option Ob}{e:Nat}{p v:AV}{k c:Int}{t:List UInt8}{ks:List Nd}{keys:List Nat} (hc:zAO hp p=some (zA5 k t c v)) (h:VAt hp e v ks keys):∃ w,At hp e p (.mk k t c ks) keys [] w:=by
 rcases h with ⟨rfl,rfl,rfl⟩ | ⟨q,rows,keys',w,rfl,h1,h2,rfl,h3⟩
 ·exact⟨0,by simp only[At]; exact⟨_,hc,.inr (.inl (by simp))⟩⟩
 ·exact⟨w,by simp only[At]; exact⟨_,hc,.inr (.inr ⟨q,rows,keys',rfl,h1,h2,rfl,h3⟩)⟩⟩
def zQa (n:Nat) (xs:List AV) (r:Ret):Prop:=∃ (a0:Nd) (a1:List Int) (a2:Nd) (y0:Nd) (y1:Int),zEg n a0 a1 a2=some (y0,y1)/\xs=[.agg ((Nd.enc a0).map .s),.s (.sl 1 (a1.map (irow .i64))),.agg ((Nd.enc a2).map .s)]/\r = .val (.tup [.agg ((Nd.enc y0).map .s),.s (.int .i64 y1)])
def zKH:zAy:=zAx fun xs r=>∃ n,zQa n xs r
set_option maxHeartbeats 600000 in
theorem zPt:PSound Tryz.prog 148 zKH:=by
 have gok:∀ f s,look? f [(73,zCp),(178,zKw),(53,zKv)]=some s->PSound Tryz.prog f s:=zAv (by
  simp only[List.forall_mem_cons]
  exact⟨zCC,zNI,zGq,by simp⟩)
 refine zAz tokW Tryz.call148 Tryz.func148 rfl (fun xs r h=>by obtain⟨n,_,_,_,_,_,_,rfl,_⟩:=h; show 3<=_; decide) _ rfl ?_;rintro xs r w0 G0 ⟨f,⟨k,t,c,ks⟩,path,⟨rk,rt,rc,rks⟩,y0,y1,h,rfl,rfl⟩ _;rw[zEg]at h;obtain⟨b,hb,h⟩:=zAc h;refine zAa ?_;refine zAb [6] [] rfl ?_;show Tri ..;refine zAa ?_;refine zAa ?_;refine zAb [] [] rfl ?_;refine⟨_,⟨f,_,_,hb,rfl,rfl⟩,?_⟩
 show Tri ..;cases b with
 | false =>
  refine zAQ rfl (fun _=>?_) (fun h=>by cases h)
  refine zAa ?_;refine zAb [] [] rfl ?_;show Tri ..;refine zAd ?_;obtain⟨rfl,rfl⟩:=Prod.mk.inj (Option.some.inj h)
  unfold zAt;exact⟨_,Le.refl _ _,rfl,rfl⟩
 | true =>
  refine zAQ rfl (fun h=>by cases h) (fun _=>?_)
  refine zAf ?_;show Tri ..;rw[if_pos rfl]at h;obtain⟨n1,hn1,h⟩:=zAc h;obtain⟨hcnt,hn1⟩:=zAK hn1;obtain rfl:=Option.some.inj hn1;refine zAa ?_;refine zAb [8] [] rfl ?_;refine⟨_,⟨k,c,t,ks,hcnt,rfl,fun v hp' n' keys h1 h2 h3 h4 h5=>?_⟩,fun _ _ _ h=>h⟩
  have hv1:v.one=true/\∀ m,n'<m->v.lt m=true:=by
   rcases h3 with ⟨_,rfl,_⟩ | ⟨q,_,_,_,rfl,_,_,hk,_⟩
   ·exact⟨rfl,fun _ _=>rfl⟩
   ·exact⟨rfl,fun m hm=>decide_eq_true (Nat.lt_trans (h5 q (by rw[hk]; exact List.mem_cons_self)).2 hm)⟩
  refine zPi (d:=16) ?_;refine zAe rfl rfl rfl rfl rfl rfl trivial ?_;refine zF6 (sz:=4) (cs:=[.s (.int .i64 0),.s (.str []),.s (.int .i64 0),.nl 4]) (cs':=zA5 k t c v) (p:=.op n' 0) rfl rfl rfl rfl rfl (.inr ⟨n',rfl⟩) rfl (zDL (bt:=24) (by show(bif Nat.beq n' n' then _ else hp' n')=_; rw[Nat.beq_refl]; rfl)) rfl rfl rfl (by simp only[zA5,List.all_cons,List.all_nil,hv1.1]; rfl) (by have h0:v.lt (n'+1)=true:=hv1.2 _ (Nat.lt_succ_self _); show AV.ltAll (n'+1) (zA5 k t c v)=true; simp only[zA5,AV.ltAll,h0]; rfl) ?_;show Tri ..
  refine zHu [(1,.s (.sl 1 (path.map (irow .i64)))),(5,.s (.pt (Nd.enc (.mk rk rt rc rks)))),(6,.op 0 0),(8,.op n' 0)] (n'+1) ⟨rfl,rfl,rfl,rfl,trivial⟩ rfl fun H hH=>?_
  have g1:H n'=some (.box 24 (zA5 k t c v)):=(hH n').trans (by
   show putC (fun m=>bif Nat.beq m n' then some (Ob.box 24 [.s (.int .i64 0),.s (.str []),.s (.int .i64 0),.nl 4]) else hp' m) (.op n' 0) (zA5 k t c v) n'=_;rw[zFp (bt:=24) (cs:=[.s (.int .i64 0),.s (.str []),.s (.int .i64 0),.nl 4]) (by simp only[Nat.beq_refl,cond_true])]
   simp only[Nat.beq_refl,cond_true])
  have g2:∀ m,m<n'->H m=hp' m:=fun m hm=>(hH m).trans (by
   show putC (fun m=>bif Nat.beq m n' then some (Ob.box 24 [.s (.int .i64 0),.s (.str []),.s (.int .i64 0),.nl 4]) else hp' m) (.op n' 0) (zA5 k t c v) m=_;rw[zBz (show m ≠ n' by omega),zDI (show m ≠ n' by omega)]; rfl)
  clear hH
  have g0:H 0=some (.box 24 [.s (.int .i64 0),.s (.str []),.s (.int .i64 0),.nl 4]):=(g2 0 h1).trans (h2 0 (Nat.lt_succ_self 0))
  obtain⟨w,hat⟩:=At.ofV (zDL g1) (h3.frame fun m hm=>g2 m (h5 m hm).2)
  have hnd:(zBb (.op n' 0)::keys).Nodup:=List.nodup_cons.2 ⟨fun hm=>Nat.lt_irrefl _ (h5 n' hm).2,h4⟩
  refine zAa ?_;refine zAb [] [] rfl ?_;refine⟨_,⟨.op n' 0,.mk k t c ks,path,keys,w,rfl,.inr ⟨n',rfl⟩,hat,hnd,fun hf=>?_,fun p1 y F hf hole hF=>?_⟩,fun _ _ _ h=>h⟩
  ·rw[hf]at h;show Tri ..;refine zAa ?_;refine zAa ?_;refine zAb [] [] rfl ?_;show Tri ..;refine zAQ rfl (fun _=>?_) (fun h=>by cases h)
   obtain⟨rfl,rfl⟩:=Prod.mk.inj (Option.some.inj h)
   refine zAj (Le.forgetH [(6,.op 0 0)] H (n'+1) ⟨rfl,trivial⟩ (fun _=>rfl) rfl) ?_;refine zAa ?_;refine zAb [] [] rfl ?_;refine zAe rfl rfl rfl rfl rfl rfl trivial ?_;refine zF6 (sz:=4) (cs:=[.s (.int .i64 0),.s (.str []),.s (.int .i64 0),.nl 4]) (cs':=[.s (.int .i64 0),.s (.str []),.s (.int .i64 0),.nl 4]) (p:=.op 0 0) rfl rfl rfl rfl rfl (.inr ⟨0,rfl⟩) rfl (zDL (bt:=24) g0) rfl rfl rfl rfl rfl ?_;refine zAe rfl rfl rfl rfl rfl rfl trivial ?_;show Tri ..;refine zAd ?_;unfold zAt
   refine⟨_,Le.refl _ _,(zHx (bt:=24) (cells:=[.s (.int .i64 0),.s (.str []),.s (.int .i64 0),.nl 4]) rfl ?_ rfl rfl rfl).trans rfl,rfl⟩
   show putC H (.op 0 0) _ 0=_;rw[zFp (bt:=24) (cs:=[.s (.int .i64 0),.s (.str []),.s (.int .i64 0),.nl 4]) g0]; rfl
  ·rw[hf]at h;obtain⟨keys1,w1,hat1,hl1,hnd1⟩:=hole.here hnd;refine zPi (d:=19) ?_;refine zAe rfl rfl rfl rfl rfl rfl trivial ?_;refine zAe rfl rfl rfl rfl rfl rfl trivial ?_;refine zAe rfl rfl rfl rfl rfl rfl trivial ?_;refine zAe rfl rfl rfl rfl rfl (zCP hl1 (.inl rfl) rfl rfl) trivial ?_;refine zAe rfl rfl rfl rfl rfl rfl trivial ?_;show Tri ..;refine zAj (Le.forgetH [(5,.s (.pt (Nd.enc (.mk rk rt rc rks)))),(6,.op 0 0),(8,.op n' 0),(9,p1),(10,.s (.bool true))] H (n'+1) ⟨rfl,rfl,rfl,rfl,rfl,trivial⟩ (fun _=>rfl) rfl) ?_;refine zAa ?_;refine zAa ?_;refine zAb [] [] rfl ?_;show Tri ..
   refine zAQ rfl (fun h=>by cases h) (fun _=>?_)
   refine zAf ?_;show Tri ..;obtain⟨b2,hb2,h⟩:=zAc h;refine zAa ?_;refine zAa ?_;refine zAb [] [] rfl ?_;refine⟨_,⟨f,_,_,hb2,rfl,rfl⟩,?_⟩
   show Tri ..;cases b2 with
   | false =>
    refine zAQ rfl (fun _=>?_) (fun h=>by cases h)
    obtain⟨rfl,rfl⟩:=Prod.mk.inj (Option.some.inj h)
    refine zAj (Le.forgetH [(6,.op 0 0)] H (n'+1) ⟨rfl,trivial⟩ (fun _=>rfl) rfl) ?_;refine zAa ?_;refine zAb [] [] rfl ?_;refine zAe rfl rfl rfl rfl rfl rfl trivial ?_;refine zF6 (sz:=4) (cs:=[.s (.int .i64 0),.s (.str []),.s (.int .i64 0),.nl 4]) (cs':=[.s (.int .i64 0),.s (.str []),.s (.int .i64 0),.nl 4]) (p:=.op 0 0) rfl rfl rfl rfl rfl (.inr ⟨0,rfl⟩) rfl (zDL (bt:=24) g0) rfl rfl rfl rfl rfl ?_;refine zAe rfl rfl rfl rfl rfl rfl trivial ?_;show Tri ..;refine zAd ?_;unfold zAt
    refine⟨_,Le.refl _ _,(zHx (bt:=24) (cells:=[.s (.int .i64 0),.s (.str []),.s (.int .i64 0),.nl 4]) rfl ?_ rfl rfl rfl).trans rfl,rfl⟩
    show putC H (.op 0 0) _ 0=_;rw[zFp (bt:=24) (cs:=[.s (.int .i64 0),.s (.str []),.s (.int .i64 0),.nl 4]) g0]; rfl
   | true =>
    refine zAQ rfl (fun h=>by cases h) (fun _=>?_)
    refine zAf ?_;show Tri ..;rw[if_pos rfl]at h;obtain⟨n2,hn2,h⟩:=zAc h;obtain⟨hcnt2,hn2⟩:=zAK hn2;obtain rfl:=Option.some.inj hn2;refine zAj (Le.forgetH [(5,.s (.pt (Nd.enc (.mk rk rt rc rks)))),(6,.op 0 0),(8,.op n' 0),(9,p1)] H (n'+1) ⟨rfl,rfl,rfl,rfl,trivial⟩ (fun _=>rfl) rfl) ?_;refine zAa ?_;refine zAb [] [] rfl ?_;refine zAe rfl rfl rfl rfl rfl (zCP hl1 (.inr rfl) rfl rfl) trivial ?_;refine zAe rfl rfl rfl rfl rfl rfl trivial ?_;refine⟨_,⟨rk,rc,rt,rks,hcnt2,rfl,fun v2 hp2 n2 keys2 q1 q2 q3 q4 q5=>?_⟩,fun _ _ _ h=>h⟩
    refine zPi (d:=31) ?_;refine zAe rfl rfl rfl rfl rfl (zEl hl1 rfl rfl) trivial ?_;have hb1:zBb p1<n'+1:=by
     rcases hole.base with h | h
     ·have:zBb p1=n':=h
      omega
     ·have:=(h5 _ h).2; omega
    obtain⟨yk,yt,yc,yks⟩:=y;obtain⟨vy,hcy,_⟩:=hat1.full;have hcy2:zAO hp2 p1=some (zA5 yk yt yc vy):=(zBW hl1 (q2 _ hb1)).trans hcy;have hv2:v2.one=true/\v2.lt n2=true:=by
     rcases q3 with ⟨_,rfl,_⟩ | ⟨q,_,_,_,rfl,_,_,hk,_⟩
     ·exact⟨rfl,rfl⟩
     ·exact⟨rfl,decide_eq_true (q5 q (by rw[hk]; exact List.mem_cons_self)).2⟩
    refine zF6 (sz:=4) (cs':=zA5 rk rt rc v2) rfl rfl rfl rfl rfl hl1 rfl hcy2 rfl rfl rfl (by simp only[zA5,List.all_cons,List.all_nil,hv2.1]; rfl) (by show AV.ltAll n2 (zA5 rk rt rc v2)=true; simp only[zA5,AV.ltAll,hv2.2]; rfl) ?_;show Tri ..;refine zHu [(6,.op 0 0),(8,.op n' 0)] n2 ⟨rfl,rfl,trivial⟩ rfl fun H2 hH2=>?_
    have hH2:∀ m,H2 m=putC hp2 p1 (zA5 rk rt rc v2) m:=hH2
    have hcp:zAO H2 p1=some (zA5 rk rt rc v2):=(zBW hl1 (hH2 _)).trans (zIc hl1 hcy2)
    have hb2k:∀ m∈keys2,H2 m=hp2 m:=fun m hm=>(hH2 m).trans (zBz (by have hm1:n'+1<=m:=(q5 m hm).1; omega))
    obtain⟨w3,hat3⟩:=At.ofV hcp (q3.frame hb2k)
    obtain⟨keys0,rest,w0',a1,a2,a3,a4,a5⟩:=hole;have hrest:∀ m,m=n'∨m∈rest->m<n'+1:=fun m hm=>by
     rcases hm with rfl | hm
     ·omega
     ·have:=(h5 m (a1.mem_iff.2 (List.mem_append_right _ hm))).2; omega
    obtain⟨keys3,w4,hperm,hfin⟩:=a5 H2 (.mk rk rt rc rks) keys2 w3 (Sim.put (c:=zA5 rk rt rc v2) hl1 hcy fun m hm=>(hH2 m).trans (zHw hl1 (q2 m (hrest m hm)) (q2 _ hb1))) hat3;have hput:F (.mk rk rt rc rks)=putL (.mk k t c ks) path (.mk rk rt rc rks):=(hF _).symm;rw[hput]at hfin;have hn0:∀ m,m=n'∨m∈keys3->m ≠ 0:=fun m hm=>by
     have e1:1<=n':=h1;rcases hm with rfl | hm
     ·omega
     ·rcases List.mem_append.1 (hperm.mem_iff.1 hm) with hm | hm
      ·have e2:1<=m:=(h5 m (a1.mem_iff.2 (List.mem_append_right _ hm))).1
       omega
      ·have e2:n'+1<=m:=(q5 m hm).1
       omega
    have hatD:At (fun m=>bif Nat.beq m 0 then none else H2 m) 24 (.op n' 0) (putL (.mk k t c ks) path (.mk rk rt rc rks)) keys3 [] w4:=hfin.frame (.inr ⟨n',rfl⟩) fun m hm=>by rw[zDI (hn0 m hm)]; rfl
    obtain⟨cs,hcs,hrd⟩:=hatD.rd;rcases zCt (sz:=4) (.inr ⟨n',rfl⟩) hcs with ⟨q,i,e,rows,h1,_⟩ | ⟨q,bt,h1,hbt⟩
    ·cases h1
    cases h1;refine zAj (Le.givePart [(6,.op 0 0),(8,.s (.pt (Nd.enc (putL (.mk k t c ks) path (.mk rk rt rc rks)))))] (fun m=>bif Nat.beq m 0 then none else H2 m) (fun m=>bif Nat.beq m 0 then H2 m else none) (fun m ob hm=>by
     cases e:Nat.beq m 0 with
     | true=>rw[e]at hm; cases hm
     | false=>rw[e]at hm; exact hm) (fun m ob hm=>by
     cases e:Nat.beq m 0 with
     | true=>rw[e]at hm; exact hm
     | false=>rw[e]at hm; cases hm) (fun m ob ob' h1 h2=>by
     cases e:Nat.beq m 0 with
     | true=>rw[e]at h1; cases h1
     | false=>rw[e]at h2; cases h2) ⟨.inl rfl,.inr (Rd.box (off:=0) hbt hrd.1 hrd.2),trivial⟩) ?_
    have hb0:0 ≠ zBb p1:=by
     rcases a4 with rfl | a4
     ·exact Ne.symm (hn0 n' (.inl rfl))
     ·exact Ne.symm (hn0 _ (.inr (hperm.mem_iff.2 (List.mem_append_left _ a4))))
    have g3:H2 0=some (.box 24 [.s (.int .i64 0),.s (.str []),.s (.int .i64 0),.nl 4]):=(hH2 0).trans ((zBz hb0).trans ((q2 0 (Nat.succ_pos n')).trans g0))
    clear hrd hcs hatD hfin hput
    generalize putL (.mk k t c ks) path (.mk rk rt rc rks)=T1 at *;obtain⟨k9,t9,c9,ks9⟩:=T1;obtain⟨b3,hb3,h⟩:=zAc h;refine zHu [(6,.op 0 0),(8,.s (.pt (Nd.enc (.mk k9 t9 c9 ks9))))] n2 ⟨rfl,rfl,trivial⟩ rfl fun H3 hH3=>?_
    have g4:H3 0=some (.box 24 [.s (.int .i64 0),.s (.str []),.s (.int .i64 0),.nl 4]):=(hH3 0).trans g3;refine zAa ?_;refine zAa ?_;refine zAb [] [] rfl ?_;refine⟨_,⟨f,_,_,hb3,rfl,rfl⟩,?_⟩
    show Tri ..;cases b3 with
    | false =>
     refine zAQ rfl (fun _=>?_) (fun h=>by cases h)
     obtain⟨rfl,rfl⟩:=Prod.mk.inj (Option.some.inj h)
     refine zAj (Le.forgetH [(6,.op 0 0)] H3 n2 ⟨rfl,trivial⟩ (fun _=>rfl) rfl) ?_;refine zAa ?_;refine zAb [] [] rfl ?_;refine zAe rfl rfl rfl rfl rfl rfl trivial ?_;refine zF6 (sz:=4) (cs:=[.s (.int .i64 0),.s (.str []),.s (.int .i64 0),.nl 4]) (cs':=[.s (.int .i64 0),.s (.str []),.s (.int .i64 0),.nl 4]) (p:=.op 0 0) rfl rfl rfl rfl rfl (.inr ⟨0,rfl⟩) rfl (zDL (bt:=24) g4) rfl rfl rfl rfl rfl ?_;refine zAe rfl rfl rfl rfl rfl rfl trivial ?_;show Tri ..;refine zAd ?_;unfold zAt
     refine⟨_,Le.refl _ _,(zHx (bt:=24) (cells:=[.s (.int .i64 0),.s (.str []),.s (.int .i64 0),.nl 4]) rfl ?_ rfl rfl rfl).trans rfl,rfl⟩
     show putC H3 (.op 0 0) _ 0=_;rw[zFp (bt:=24) (cs:=[.s (.int .i64 0),.s (.str []),.s (.int .i64 0),.nl 4]) g4]; rfl
    | true =>
     refine zAQ rfl (fun h=>by cases h) (fun _=>?_)
     obtain⟨rfl,rfl⟩:=Prod.mk.inj (Option.some.inj h)
     refine zAf ?_;show Tri ..;refine zAj (Le.forgetH [(6,.op 0 0),(8,.s (.pt (Nd.enc (.mk k9 t9 c9 ks9))))] H3 n2 ⟨rfl,rfl,trivial⟩ (fun _=>rfl) rfl) ?_;refine zAa ?_;refine zAb [] [] rfl ?_;refine zAe rfl rfl rfl rfl rfl rfl trivial ?_;refine zF6 (sz:=4) (cs:=[.s (.int .i64 0),.s (.str []),.s (.int .i64 0),.nl 4]) (cs':=zA5 k9 t9 c9 (.s (.sl 4 (Nd.encs ks9)))) (p:=.op 0 0) rfl rfl rfl rfl rfl (.inr ⟨0,rfl⟩) rfl (zDL (bt:=24) g4) rfl rfl rfl rfl rfl ?_;refine zAe rfl rfl rfl rfl rfl rfl trivial ?_;show Tri ..;refine zAd ?_;unfold zAt
     refine⟨_,Le.refl _ _,(zHx (bt:=24) (cells:=zA5 k9 t9 c9 (.s (.sl 4 (Nd.encs ks9)))) rfl ?_ rfl rfl rfl).trans rfl,rfl⟩
     show putC H3 (.op 0 0) _ 0=_;rw[zFp (bt:=24) (cs:=[.s (.int .i64 0),.s (.str []),.s (.int .i64 0),.nl 4]) g4]; rfl
end Go.Proofs.YtgplhldfbkmmgaaGreat
namespace Go.Abs
theorem PSound.giveTop {P:Program}{f e sz:Nat}{R:List AV->(Nat->Option Ob)->Nat->(AV->(Nat->Option Ob)->Nat->Prop)->Prop}{S:List AV->List S->List (List S)->Prop} (h:PSound P f (zPd R))
  (hS:∀ xs cs rs,S xs cs rs->R xs (fun _=>none) 0 fun x hp n=>∃ q rows hpD,x = .agg (cs.map .s++[.orow q])/\hp q=some (.arow e sz rows)/\rows.length=rs.length/\(∀ r∈rs,r.length=sz)/\(∀ k ob,hpD k=some ob->hp k=some ob/\k ≠ q) /\
   ∀ (i:Nat) x s,rows.flatten[i]? = some x->rs.flatten[i]? = some s->Rd hpD x s) :
  PSound P f (zEj fun xs os x os'=>∃ cs rs,os=[]/\x = .agg (cs.map .s++[.orow 0])/\os'=[some (.row e sz rs)]/\S xs cs rs):=by
 refine PSound.ofOwn h.1 fun G w β xs vs os x os' hlt hgl hv hxl hob ⟨cs,rs,ho,hx,ho',hs⟩=>?_
 subst ho; subst hx; subst ho'
 refine(h.2.2.2 R rfl G w β xs vs (fun _=>none) 0 _ hlt hgl hv hxl ⟨fun k ob hk=>(by cases hk),fun k ob hk=>(by cases hk),fun k k' ob ob' hk=>(by cases hk)⟩ (hS xs cs rs hs)).mono ?_;rintro e' w' ⟨v,G',β',x,hp',n',rfl,⟨q,rows,hpD,rfl,hq,hlen,hsz,hD,hrd⟩,hn,hfr,hsub,hnew,hlt',hx,hxl,hob,hst⟩
 let c:Cx:=zEu P w β (fun _=>none) 0 G 0
 have hk:Keep G G' w w':=⟨hsub,fun b hb=>hfr.old b (hlt b hb) (by rintro⟨k,ob,h,_⟩; cases h)⟩
 have hc:Conc c G' β' ⟨fun _=>.junk,hpD,n'⟩ { tmps:=#[],defers:=[] } w':={
  defers:=rfl
  size:=rfl
  env:=fun t=>by simp only[AVal]
  envlt:=fun t=>rfl
  hp:=fun k ob hk=>hob.obs k ob (hD k ob hk).1
  hplt:=fun k ob hk=>hob.lts k ob (hD k ob hk).1
  inj:=fun k k' ob ob' hk hk'=>hob.inj k k' ob ob' (hD k ob hk).1 (hD k' ob' hk').1
  lt:=hlt'
  sub:=hsub
  new:=hnew
  fr:=hfr
  stay:=⟨hn,hst⟩
  glob:=hgl.keep hk }
 have hmine:∀ b,c.mine b->w.heap.size<=b:=fun b hb=>by
  rcases hb with ⟨k,ob,h,_⟩ | h
  ·cases h
  ·exact h
 have hk':Keep G' (allG G' β' hpD) w' w':=⟨fun _ h=>.inl h,fun _ _=>rfl⟩
 refine⟨v,allG G' β' hpD,fun _=>β' q,rfl,⟨hfr.os,hfr.tape,hfr.output,hfr.size,fun b hb _=>hfr.old b hb (by rintro⟨k,ob,h,_⟩; cases h)⟩,fun b hb=>.inl (hsub b hb),fun b hb=>?_,fun b hb=>?_,?_,?_,Nat.zero_le _,⟨fun i ob hi=>?_,fun i j ob ob' hi hj hne=>?_⟩,fun i ob hi=>absurd hi (Nat.not_lt_zero _)⟩
 ·rcases hb with hb | ⟨k,ob,h1,h2⟩
  ·exact(hnew b hb).imp id fun h=>.inr (hmine b h)
  ·exact .inr (.inr (hmine b (row_block (hc.hp k ob h1) b h2).2))
 ·rcases hb with hb | ⟨k,ob,h1,h2⟩
  ·exact hlt' b hb
  ·exact hc.blk_lt h1 h2
 ·simp only[AVal]at hx ⊢;obtain⟨us,rfl,hus⟩:=hx;refine⟨us,rfl,AVals.mk (by rw[hus.length]; simp) fun i y u hy hu=>?_⟩
  rw[List.getElem?_append]at hy
  by_cases hi:i<(cs.map AV.s).length
  ·rw[if_pos hi]at hy;obtain⟨u',hu',hr⟩:=hus.get (i:=i) (x:=y) (by rw[List.getElem?_append,if_pos hi]; exact hy)
   rw[hu]at hu'; cases hu'
   rw[List.getElem?_map]at hy;obtain⟨s,_,rfl⟩:=Option.map_eq_some_iff.1 hy;simp only[AVal]at hr ⊢;exact hr.keep hk'
  ·rw[if_neg hi]at hy;have h0:i - (cs.map AV.s).length=0 :=(by have:=(List.getElem?_eq_some_iff.1 hy).1; simpa using this);rw[h0]at hy;cases hy;obtain⟨u',hu',hr⟩:=hus.get (i:=i) (x:=.orow q) (by rw[List.getElem?_append,if_neg hi,h0]; rfl)
   rw[hu]at hu'; cases hu'
   simp only[AVal]at hr ⊢;exact hr
 ·simp only[AV.lt]
  refine zDV fun i y hy=>?_
  rw[List.getElem?_append]at hy;split at hy
  ·rw[List.getElem?_map]at hy;obtain⟨s,_,rfl⟩:=Option.map_eq_some_iff.1 hy
   rfl
  ·rename_i hi
   have h0:i - (cs.map AV.s).length=0 :=(by have:=(List.getElem?_eq_some_iff.1 hy).1; simpa using this);rw[h0]at hy;cases hy
   rfl
 ·match i,hi with
  | 0,hi =>
   cases hi;refine⟨?_,rfl⟩
   obtain⟨hl,hz,ho⟩:=hob.obs q _ hq;refine⟨hsz,hz,?_⟩
   rcases ho with ⟨h1,rfl⟩ | ⟨b,cap,cur,h1,h2,h3,h4,h5,h6,h7⟩
   ·exact .inl ⟨h1,List.length_eq_zero_iff.1 (by simpa using hlen.symm)⟩
   ·refine .inr ⟨b,cap,cur,by rw[← hlen]; exact h1,by rw[← hlen]; exact h2,h3,h4,?_,.inr (hmine b h6),fun i s hi=>?_⟩
    ·rintro(hb | ⟨k,ob,g1,g2⟩)
     ·exact h5 hb
     ·exact hob.inj k q ob _ (hD k ob g1).1 hq (hD k ob g1).2 b g2 (by rw[h1]; rfl)
    ·have hfl:=zAR hl;have hfs:=zAR hsz;have hil:i<rows.flatten.length :=(by rw[hfl,hlen,← hfs]; exact(List.getElem?_eq_some_iff.1 hi).1);obtain⟨u,hu,hr',_⟩:=h7 i _ (List.getElem?_eq_getElem hil)
     exact⟨u,hu,(hrd i _ s (List.getElem?_eq_getElem hil) hi).rep hc hr'⟩
  | i+1,hi=>simp at hi
 ·match i,j,hi,hj with
  | 0,0,_,_=>exact absurd rfl hne
  | 0,j+1,_,hj=>simp at hj
  | i+1,_,hi,_=>simp at hi
end Go.Abs
namespace Go.Proofs.YtgplhldfbkmmgaaGreat
open Go.Abs
theorem VAt.rd {hp:Nat->Option Ob}{e:Nat}{v:AV}{ks:List Nd}{keys:List Nat} (h:VAt hp e v ks keys):Rd hp v (.sl 4 (Nd.encs ks)):=by
 rcases h with ⟨rfl,rfl,_⟩ | ⟨q,rows,keys',w,rfl,hq,hlen,rfl,h⟩
 ·exact .s _
 ·exact Rd.rows hq hlen fun j x hj=>(by have:=LAt.rd h j x hj; rwa [Nat.zero_add]at this)
def zRx (xs:List AV) (cs:List S) (rs:List (List S)):Prop:=∃ (a0:Nd) (k c:Int) (t:List UInt8) (ks:List Nd),zCj a0=some (.mk k t c ks)/\xs=[.agg ((Nd.enc a0).map .s)]/\cs=[.int .i64 k,.str t,.int .i64 c]/\rs=Nd.encs ks
theorem zLk:PSound Tryz.prog 53 (zEj fun xs os x os'=>∃ cs rs,os=[]/\x = .agg (cs.map .s++[.orow 0])/\os'=[some (.row 24 4 rs)]/\zRx xs cs rs):=by
 refine PSound.giveTop zGq fun xs cs rs ⟨⟨k0,t0,c0,ks0⟩,k,c,t,ks,hm,hx,hcs,hrs⟩=>?_
 subst hx; subst hcs; subst hrs
 obtain⟨⟨hq,hne⟩,hm⟩:=zAK hm;cases hm;refine⟨k0,c0,t0,ks0,hq,rfl,fun v hp' n' keys _ _ hv hnd _=>?_⟩
 rcases hv with ⟨rfl,_⟩ | ⟨q,rows,keys',w,rfl,hq,hlen,rfl,hl⟩
 ·exact absurd rfl hne
 refine⟨q,rows,fun k=>if k∈keys' then hp' k else none,rfl,hq,by rw[Nd.encs_eq,List.length_map]; exact hlen,fun r hr=>?_,fun k ob hk=>?_,zQM fun j r s hr hs=>?_⟩
 ·rw[Nd.encs_eq]at hr;obtain⟨x,_,rfl⟩:=List.mem_map.1 hr;cases x; rfl
 ·dsimp only at hk;split at hk
  ·rename_i hm
   exact⟨hk,fun e=>(List.nodup_cons.1 hnd).1 (by rw[← e]; exact hm)⟩
  ·cases hk
 ·rw[Nd.encs_eq,List.getElem?_map]at hs;cases hx:ks0[j]? with
  | none=>rw[hx]at hs; cases hs
  | some x =>
   rw[hx]at hs; cases hs
   obtain⟨keys0,rest,w0,hperm,hat,_⟩:=LAt.hole (i:=0) hl hnd hx;rw[Nat.zero_add]at hat;obtain⟨k2,t2,c2,ks2⟩:=x;obtain⟨v,hc,hv⟩:=hat.full;rw[zET hq,hr]at hc;cases hc;exact RdC.node (VAt.rd (hv.frame fun k hk=>by
    show(if k∈keys' then hp' k else none)=hp' k;rw[if_pos (hperm.mem_iff.2 (List.mem_append_left _ hk))]))
def zKy (xs:List AV) (os:List Ob) (x:AV) (os':List (Option Ob)):Prop:=∃ (a0:Nd) (y0:Nd),zCj a0=some y0/\xs=[.agg ((Nd.enc a0).map .s)]/\os=[]/\x = .agg (match y0 with | .mk k t c _=>[.s (.int .i64 k),.s (.str t),.s (.int .i64 c),.orow 0])/\os'=[some (.row 24 4 (match y0 with | .mk _ _ _ ks=>Nd.encs ks))]
def zE3:zAy:=zEj (fun xs os x os'=>zKy xs os x os')
theorem zGC:PSound Tryz.prog 53 zE3 :=
 PSound.ofOwn zLk.1 fun G w β xs vs os x os' h1 h2 h3 h4 h5 ⟨a0,⟨k,t,c,ks⟩,hm,hx,ho,hr,ho'⟩ =>
  zLk.2.2.1 _ rfl G w β xs vs os x os' h1 h2 h3 h4 h5 ⟨[.int .i64 k,.str t,.int .i64 c],Nd.encs ks,ho,hr,ho',a0,k,c,t,ks,hm,hx,rfl,rfl⟩
end Go.Proofs.YtgplhldfbkmmgaaGreat
namespace Go.Proofs
open Go.RowKit Go.Lib
theorem Tryz.Grow_nil_sNode (w:World) :
  Calls Tryz.prog 206 #[.slice none 0 0,.int .i64 0] w fun e w'=>e = .returned (.slice none 0 0)/\w'=w:=by
 have h2:wrap64 0=0:=by unfold wrap64; omega
 go_enter Tryz.func206,Tryz.ntmps206
 go_wp2
 go_ret
 exact⟨rfl,rfl⟩
set_option maxHeartbeats 4000000 in
theorem Tryz.Grow_new_sNode (i0:TypeInfo) (z:Value) (hi0:Tryz.prog.info? 24=some i0) (hz0:i0.zero=some z) (hs0:0<i0.size)
  (n:Nat) (w:World) (hroom:0<n) (hbig:n * i0.bytes<=140737488355328) (h63:n<=4611686018427387904) :
  Calls Tryz.prog 206 #[.slice none 0 0,.int .i64 n] w fun e w' =>
   e = .returned (.slice (some ⟨w.heap.size,0,none⟩) 0 (grownCap w n 0 24)) /\
   w'=w.drew.alloc (.cells (#[]++Builtin.zeroCells z.cells n++Builtin.zeroCells z.cells (grownCap w n 0 24 - n)) 24):=by
 have h1:¬ ((n:Int)<0) :=(by omega);have h2:wrap64 0=0 :=(by unfold wrap64; omega);have h3:wrap64 (n:Int)=(n:Int) :=(by unfold wrap64; omega);have h4:(n:Int) > 0 :=(by omega);have hold:(Builtin.firstCells i0.size 0 (.slice none 0 0)).run Tryz.prog w.drew = .ok ([]:List Value).toArray w.drew:=run_firstCells_none w.drew i0.size 0 0 0;have hrz:∀ ty,(Builtin.append_ #[22,3] ty #[.slice none 0 0,.int .i64 (n:Int)]).run Tryz.prog w =
   .ok (.slice (some ⟨w.heap.size,0,none⟩) n (grownCap w n 0 24)) (w.drew.alloc (.cells (#[]++Builtin.zeroCells z.cells n++Builtin.zeroCells z.cells (grownCap w n 0 24 - n)) 24)):=fun ty=>by
  have h:=Lib.run_append_grow_zeros w 22 3 ty 24 i0 z .i64 .i64 Tryz.underlying22 Tryz.underlying3 hi0 hz0 none 0 0 [] hold n (by omega) hs0 (by omega) (by omega) (by omega)
   (by rw[Nat.zero_add]; exact growslice_fits hroom hbig)
  rw[Nat.zero_add]at h;exact h
 have hGn:n<=grownCap w n 0 24:=grownCap_ge w _ _ _;obtain⟨G,hG⟩:∃ G,G=grownCap w n 0 24:=⟨_,rfl⟩
 rw[← hG]at hrz hGn ⊢;have hG63:G<=9223372036854775807:=by
  have:=grownCap_le_maxLen w n 0 24 (by unfold maxLen; omega)
  rw[← hG]at this;unfold maxLen at this
  omega
 clear hold hG
 go_enter Tryz.func206,Tryz.ntmps206
 go_wp2_with (at_builtin; refine Lib.wpList_append_run _ rfl _ _ _ _ rfl _ _ rfl rfl _ _ (hrz _) ?_)
 all_goals (go_ret; exact⟨rfl,rfl⟩)
end Go.Proofs
namespace Go.Proofs.YtgplhldfbkmmgaaGreat
open Go.Abs
theorem zUO (z:Array Value) (n:Nat):(Builtin.zeroCells z n).size=n * z.size:=by simp[Builtin.zeroCells]
def zH7 (xs:List AV) (r:Ret):Prop:=∃ (a0:Int) (y0:List Nd),zDD a0=some y0/\xs=[.nl 4,.s (.int .i64 a0)]/\r = .row 24 4 (Nd.encs y0)
def zE8:zAy:=zVc fun xs r=>zH7 xs r
theorem zHH:PSound Tryz.prog 206 zE8 :=
 ⟨Tryz.call206,fun G w xs vs r hl hg _ hv ⟨a0,y0,hm,hx,hr⟩=>by
  subst hx; subst hr
  obtain⟨⟨q1,q2⟩,hm⟩:=zAK hm;obtain rfl:=Option.some.inj hm;obtain⟨n,rfl⟩:=Int.eq_ofNat_of_zero_le q1;simp only[AVals,AVal,Rep]at hv;obtain⟨_,_,rfl,rfl,_,_,rfl,rfl,rfl⟩:=hv
  by_cases h0:n=0
  ·subst h0;exact(Tryz.Grow_nil_sNode w).mono fun e w' ⟨h1,h2⟩=>by
    subst h2;exact⟨_,G,h1,Ext.refl hl,fun r hr=>(by cases hr),by decide,.inl ⟨rfl,rfl⟩⟩
  obtain⟨d,info,z,b1,b2,b3,b4,b5,b6,b7,b8,b9,b10⟩:=tokW 24 _ rfl;have i1:info.size=4:=b4;have i2:info.bytes=56:=b5;have hzs:z.cells.size=4:=zJf b7 b8 b9;refine(Tryz.Grow_new_sNode info z b3 b6 (by omega) n w (by omega) (by rw[i2]; omega) (by omega)).mono fun e w' ⟨h1,h2⟩=>?_
  have hge:n<=grownCap w n 0 24 :=(by unfold grownCap Question.cut; simp);generalize grownCap w n 0 24=g at *;refine⟨_,G,h1,?_,fun r hr=>(by cases hr),by decide,.inr ⟨w.heap.size,g,#[]++Builtin.zeroCells z.cells n++Builtin.zeroCells z.cells (g - n),rfl,Nat.zero_le _,?_,by rw[h2]; exact RowBlk.laid (zDa w.drew _),fun h=>Nat.lt_irrefl _ (hl _ h),Nat.le_refl _,fun i s hi=>by cases hi⟩⟩
  ·rw[h2]
   exact(Ext.drew hl).trans (Ext.own (w:=w.drew) hl _)
  ·simp only[Array.size_append,Array.size_empty,zUO,hzs]
   omega,
 fun R hR=>(by cases hR),fun R hR=>(by cases hR)⟩
def zHD (xs:List AV) (r:Ret):Prop:=∃ (a0:List Nd) (y0:List Nd),zDq a0=some y0/\xs=[.s (.sl 4 (Nd.encs a0))]/\r = .val (.s (.sl 4 (Nd.encs y0)))
def zEN:zAy:=zAx fun xs r=>zHD xs r
theorem zHk:PSound Tryz.prog 199 zEN:=by
 have gok:=@gok0 Tryz.prog;refine zAz tokW Tryz.call199 Tryz.func199 rfl (fun xs r h=>by obtain⟨_,_,_,rfl,_⟩:=h; show 1<=_; decide) _ rfl ?_;rintro xs r w0 G0 ⟨l,y,h,rfl,rfl⟩ _;obtain⟨hq,h⟩:=zAK h;obtain rfl:=Option.some.inj h;have hlen:(Nd.encs l).length=l.length:=rlen Nd.encs_eq l;refine zAa ?_;refine zAb [] [] rfl ?_;show Tri ..;refine zAa ?_;refine zAa ?_;refine zAb [] [] rfl ?_;intro b hb;show Tri ..;cases b with
 | true =>
  have hl:=hb rfl;refine zAQ rfl (fun _=>?_) (fun h=>by cases h)
  refine zAa ?_;refine zAb [] [] rfl ?_;show Tri ..;refine zAd ?_;unfold zAt;exact⟨_,Le.refl _ _,congrArg (fun z=>some (AV.s (.sl 4 z))) hl.symm,rfl⟩
 | false =>
  refine zAQ rfl (fun h=>by cases h) (fun _=>?_)
  refine zAf ?_;show Tri ..;refine zAa ?_;refine zAb [5,7] [] rfl ?_;refine And.intro (show(([]:List (List S)).length+(Nd.encs l).length) * 56<=140737488355328/\([]:List (List S)).length+(Nd.encs l).length<=9223372036854775807 from by rw[hlen]; simp only[List.length_nil]; omega) ?_;show Tri ..;refine zAd ?_;unfold zAt;exact⟨_,Le.giveRow 1 (e:=24) (sz:=4) (rows:=Nd.encs l) rfl,rfl,rfl⟩
def zAp (p:List Nd):List S:=[.sl 4 (Nd.encs p)]
def zGM (n:Nat) (xs:List AV) (r:Ret):Prop:=∃ (a0:List (List Nd)) (y0:List Nd),zBx n a0=some y0/\xs=[.s (.sl 1 ((List.map zAp) a0))]/\r = .row 24 4 (Nd.encs y0)
def zEs:zAy:=zAx fun xs r=>∃ n,zGM n xs r
theorem zGI:PSound Tryz.prog 202 zEs:=by
 have gok:∀ f s,look? f [(206,zE8)]=some s->PSound Tryz.prog f s:=zAv (by
  simp only[List.forall_mem_cons]
  exact⟨zHH,by simp⟩)
 refine zAz tokW Tryz.call202 Tryz.func202 rfl (fun xs r h=>by obtain⟨n,_,_,_,rfl,_⟩:=h; show 1<=36; decide) 36 rfl ?_;rintro xs r w0 G0 ⟨n,slices1,y0,h,rfl,rfl⟩ _;rw[zBx]at h;refine zAa ?_;refine zAb [2] [] rfl ?_;show Tri ..;refine zAj (Le.rnm [] [(0,.s (.sl 1 ((List.map zAp) slices1)))] [] 0 ⟨rfl,trivial⟩ trivial) ?_;refine zAa ?_;refine zAb [] [] rfl ?_;show Tri ..;refine zAa ?_;refine zAa ?_;refine zAb [] [10] rfl ?_;intro n2 hn2;obtain rfl:(slices1.length:Int)=n2:=(hn2.trans (congrArg (fun m:Nat=>(m:Int)) (rlen (fun _=>rfl) slices1))).symm;show Tri ..
 obtain⟨size5,hl,h⟩:=zAc h;refine zAq ⟨ofL [(0,.s (.sl 1 ((List.map zAp) slices1))),(3,.s (.int .i64 size5))],fun _=>none,0⟩ ?_ (fun σ' hle=>?_)
 ·refine zAk (zAG (X:=Nat×Int×Int) (fun y=>match y with | (k,x3,size4)=>⟨ofL [(0,.s (.sl 1 ((List.map zAp) slices1))),(3,.s (.int .i64 size4)),(9,.s (.sl 1 ((List.map zAp) slices1))),(10,.s (.int .i64 (slices1.length:Int))),(11,.s (.int .i64 x3))],fun _=>none,0⟩) (fun y=>zAS slices1 y.1 y.2.1 y.2.2=some size5) (fun y=>y.1) (n,0,0) hl ?_ ?_)
  ·exact(Le.forget _ ⟨rfl,rfl,rfl,rfl,rfl,trivial⟩)
  ·rintro⟨k,x3,size4⟩ h;cases k with
   | zero=>cases h
   | succ k =>
    replace h:zAS slices1 (k+1) x3 size4=some size5:=h;rw[zAS]at h;refine zAa ?_;refine zAb [] [] rfl ?_;show Tri ..;refine zAa ?_;refine zAh rfl h (fun hb h=>?_) (fun hb h=>?_)
    ·refine zAf ?_;show Tri ..;refine zAa ?_;refine zAk ?_;refine zAa ?_;refine zAb [] [13] rfl ?_;obtain⟨e6,he6,h⟩:=zAc h;refine And.intro (zAB (fun _=>rfl) he6).1 ?_;intro r7 hr7;obtain rfl:[.sl 4 (Nd.encs e6)]=r7:=(hr7.trans (zAB (fun _=>rfl) he6).2.1).symm;show Tri ..;refine zAa ?_;refine zAb [] [17] rfl ?_;intro n8 hn8;obtain rfl:(e6.length:Int)=n8:=(hn8.trans (congrArg (fun m:Nat=>(m:Int)) (rlen Nd.encs_eq e6))).symm;show Tri ..;refine zAa ?_;refine zAb [] [] rfl ?_;show Tri ..;refine zAh rfl h (fun hb h=>?_) (fun hb h=>?_)
     ·cases h
     ·refine zAf ?_;show Tri ..;refine zAb [] [] rfl ?_;refine⟨(k,IntKind.i64.wrap (x3+1),IntKind.i64.wrap (size4+(e6.length:Int))),h,(Le.forget _ ⟨rfl,rfl,rfl,rfl,rfl,trivial⟩),Nat.lt_succ_self k⟩
    ·refine zAI ?_;cases h;exact(Le.forget _ ⟨rfl,rfl,trivial⟩)
 ·show Tri ..;refine zAj hle ?_;refine zAa ?_;refine zAb [24] [] rfl ?_;obtain⟨y9,hy9,h⟩:=zAc h;refine⟨_,⟨_,_,hy9,rfl,rfl⟩,?_⟩
  show Tri ..;refine zAa ?_;refine zAa ?_;refine zAb [] [26] rfl ?_;intro n10 hn10;obtain rfl:(slices1.length:Int)=n10:=(hn10.trans (congrArg (fun m:Nat=>(m:Int)) (rlen (fun _=>rfl) slices1))).symm;show Tri ..;obtain⟨l14,hl,h⟩:=zAc h;refine zAq ⟨ofL [(6,.orow 0)],ofH [(0,.row 24 4 (Nd.encs l14))],1⟩ ?_ (fun σ' hle=>?_)
  ·refine zAk (zAG (X:=Nat×Int×(List Nd)) (fun y=>match y with | (k,x11,l13)=>⟨ofL [(6,.orow 0),(25,.s (.sl 1 ((List.map zAp) slices1))),(26,.s (.int .i64 (slices1.length:Int))),(27,.s (.int .i64 x11))],ofH [(0,.row 24 4 (Nd.encs l13))],1⟩) (fun y=>zAT slices1 y.1 y.2.1 y.2.2=some l14) (fun y=>y.1) (n,0,y9) hl ?_ ?_)
   ·exact(Le.rnm [(0,0)] _ _ _ ⟨rfl,rfl,rfl,rfl,trivial⟩ ⟨rfl,⟨_,rfl,rfl⟩,trivial⟩)
   ·rintro⟨k,x11,l13⟩ h;cases k with
    | zero=>cases h
    | succ k =>
     replace h:zAT slices1 (k+1) x11 l13=some l14:=h;rw[zAT]at h;refine zAa ?_;refine zAb [] [] rfl ?_;show Tri ..;refine zAa ?_;refine zAh rfl h (fun hb h=>?_) (fun hb h=>?_)
     ·refine zAf ?_;show Tri ..;refine zAa ?_;refine zAk ?_;refine zAa ?_;refine zAb [] [29] rfl ?_;obtain⟨e15,he15,h⟩:=zAc h;refine And.intro (zAB (fun _=>rfl) he15).1 ?_;intro r16 hr16;obtain rfl:[.sl 4 (Nd.encs e15)]=r16:=(hr16.trans (zAB (fun _=>rfl) he15).2.1).symm;show Tri ..;refine zAb [33] [] rfl ?_;obtain⟨hq,h⟩:=zAK h;refine And.intro (show((Nd.encs l13).length+(Nd.encs e15).length) * 56<=140737488355328/\(Nd.encs l13).length+(Nd.encs e15).length<=9223372036854775807 from by simp only[List.length_append,List.length_cons,List.length_nil,List.length_map,rlen Nd.encs_eq]at hq ⊢; omega) ?_
      show Tri ..;refine zAj (Le.rnm [(1,0)] [(6,.orow 0),(25,.s (.sl 1 ((List.map zAp) slices1))),(26,.s (.int .i64 (slices1.length:Int))),(27,.s (.int .i64 x11))] [(0,.row 24 4 (Nd.encs (l13++e15)))] 1 ⟨rfl,rfl,rfl,rfl,trivial⟩ ⟨rfl,⟨_,rfl,congrArg (Ob.row 24 4) (by simp[List.map_append,List.map_take,List.map_drop,irow,brow,zAH,List.map_cons,List.map_nil,zAE,Nd.encs_eq,Nd.enc,CV.encs_eq,CV.enc,zAo,zAl,zAA,zAp])⟩,trivial⟩) ?_;refine zAb [] [] rfl ?_
      refine⟨(k,IntKind.i64.wrap (x11+1),l13++e15),h,(Le.rnm [(0,0)] _ _ _ ⟨rfl,rfl,rfl,rfl,trivial⟩ ⟨rfl,⟨_,rfl,rfl⟩,trivial⟩),Nat.lt_succ_self k⟩
     ·refine zAI ?_;cases h;exact(Le.rnm [(0,0)] _ _ _ ⟨rfl,trivial⟩ ⟨rfl,⟨_,rfl,rfl⟩,trivial⟩)
  ·show Tri ..;refine zAj hle ?_;refine zAa ?_;refine zAb [] [] rfl ?_;show Tri ..;refine zAd ?_;have hy:=Option.some.inj h;subst hy;unfold zAt;exact⟨_,Le.refl _ _,0,rfl,rfl⟩
def zAm (p:(zO8×List Nd)):List S:=[.int .i64 p.1.1,.sl 1 ((List.map (irow .i64)) p.1.2.1),.int .i64 p.1.2.2.1,.int .i64 p.1.2.2.2.1,.sl 4 (Nd.encs p.1.2.2.2.2.1),.int .i64 p.1.2.2.2.2.2.1,.str p.1.2.2.2.2.2.2.1,.str p.1.2.2.2.2.2.2.2,.sl 4 (Nd.encs p.2)]
def zIx (n:Nat) (xs:List AV) (r:Ret):Prop:=∃ (a0:(zO8×List Nd)) (a1:Int) (a2:List Nd) (y0:List Nd),zAW n a0 a1 a2=some y0/\xs=[.agg ((zAm a0).map .s),.s (.int .i64 a1),.s (.sl 4 (Nd.encs a2))]/\r = .val (.s (.sl 4 (Nd.encs y0)))
def zBy:zAy:=zAx fun xs r=>∃ n,zIx n xs r
theorem zBS:PSound Tryz.prog 196 zBy:=by
 have gok:∀ f s,look? f [(202,zEs)]=some s->PSound Tryz.prog f s:=zAv (by
  simp only[List.forall_mem_cons]
  exact⟨zGI,by simp⟩)
 refine zAz tokW Tryz.call196 Tryz.func196 rfl (fun xs r h=>by obtain⟨n,_,_,_,_,_,rfl,_⟩:=h; show 3<=24; decide) 24 rfl ?_;rintro xs r w0 G0 ⟨n,⟨⟨c1X,c1Ac,c1J,c1Y,c1P,c1Q,c1Ab,c1Aa⟩,c1K⟩,n2,nodes3,y0,h,rfl,rfl⟩ _;rw[zAW]at h;refine zAa ?_;refine zAb [] [] rfl ?_;show Tri ..;refine zAa ?_;refine zA2 [] [12,21,22] [] rfl (by decide +kernel) ?_;obtain⟨hq,h⟩:=zAK h;refine And.intro ⟨hq.1,hq.2.1,Int.le_trans hq.2.2 (Int.ofNat_le.2 (Nat.le_of_eq (rlen Nd.encs_eq _).symm))⟩ ?_;intro r4 hr4
 obtain rfl:Nd.encs ((c1K.take c1J.toNat).drop (0:Int).toNat)=r4:=(hr4.trans (rcut Nd.encs_eq _ _ _)).symm;obtain⟨hq,h⟩:=zAK h;refine And.intro ⟨hq.1,Int.le_trans hq.2.1 (Int.ofNat_le.2 (Nat.le_of_eq (rlen Nd.encs_eq _).symm)),Int.le_refl _⟩ ?_;intro r5 hr5;obtain rfl:Nd.encs ((c1K.take (c1K.length:Int).toNat).drop (IntKind.i64.wrap (c1J+n2)).toNat)=r5:=(hr5.trans ((congrArg (fun m:Nat=>((Nd.encs c1K).take m).drop (IntKind.i64.wrap (c1J+n2)).toNat) (rlen Nd.encs_eq _)).trans (rcut Nd.encs_eq _ _ _))).symm;intro r6 hr6
 obtain rfl:(List.map zAp) [(c1K.take c1J.toNat).drop (0:Int).toNat,nodes3,(c1K.take (c1K.length:Int).toNat).drop (IntKind.i64.wrap (c1J+n2)).toNat]=r6:=(hr6.trans (by simp[List.map_append,List.map_take,List.map_drop,irow,brow,zAH,List.map_cons,List.map_nil,zAE,Nd.encs_eq,Nd.enc,CV.encs_eq,CV.enc,zAo,zAl,zAA,zAp])).symm;obtain⟨y7,hy7,h⟩:=zAc h;refine⟨_,⟨_,_,_,hy7,rfl,rfl⟩,?_⟩
 show Tri ..;refine zAd ?_;have hy:=Option.some.inj h;subst hy;unfold zAt;exact⟨_,Le.refl _ _,rfl,rfl⟩
def zDG (n:Nat) (xs:List AV) (r:Ret):Prop:=∃ (a0:Nd) (a1:Nd) (y0:Bool),zBI n a0 a1=some y0/\xs=[.agg ((Nd.enc a0).map .s),.agg ((Nd.enc a1).map .s)]/\r = .val (.s (.bool y0))
def zA3 (n:Nat) (xs:List AV) (r:Ret):Prop:=∃ (a0:List Nd) (a1:List Nd) (y0:Bool),zAU n a0 a1=some y0/\xs=[.s (.sl 4 (Nd.encs a0)),.s (.sl 4 (Nd.encs a1)),.s (.fn 198)]/\r = .val (.s (.bool y0))
theorem zLO (n:Nat) (ih_node_Equal:PSound Tryz.prog 198 (zAx (zDG n))) (ih_slices_EqualFunc_sNode:PSound Tryz.prog 197 (zAx (zA3 n))):PSound Tryz.prog 198 (zAx (zDG (n+1))):=by
 have gok:∀ f s,look? f [(197,zAx (zA3 n))]=some s->PSound Tryz.prog f s:=zAv (by
  simp only[List.forall_mem_cons]
  exact⟨ih_slices_EqualFunc_sNode,by simp⟩)
 refine zAz tokW Tryz.call198 Tryz.func198 rfl (fun xs r h=>by obtain⟨_,_,_,_,rfl,_⟩:=h; show 2<=31; decide) 31 rfl ?_;rintro xs r w0 G0 ⟨⟨a1A,a1B,a1D,a1C⟩,⟨b2A,b2B,b2D,b2C⟩,y0,h,rfl,rfl⟩ _;rw[zBI]at h;refine zAa ?_;refine zAb [] [] rfl ?_;show Tri ..;refine zAa ?_;obtain⟨x3,hj,h⟩:=zAc h;refine zAq ⟨ofL [(4,.s (.bool x3))],fun _=>none,0⟩ ?_ (fun σ' hle=>?_)
 ·replace h:=hj;refine zAb [] [10,17,24] rfl ?_;intro b hb;cases b with
  | true =>
   replace h:=zAD hb.symm h;intro b hb;cases b with
   | true =>
    replace h:=zAD hb.symm h;intro b hb;cases b with
    | true =>
     replace h:=zAD hb.symm h;obtain⟨y4,hy4,h⟩:=zAc h;refine⟨_,⟨_,_,_,hy4,rfl,rfl⟩,?_⟩
     cases h;exact(Le.forget _ ⟨rfl,trivial⟩)
    | false =>
     replace h:=zAC hb.symm h;cases h;exact(Le.forget _ ⟨rfl,trivial⟩)
   | false =>
    replace h:=zAC hb.symm h;intro b hb;subst hb;cases h;exact(Le.forget _ ⟨rfl,trivial⟩)
  | false =>
   replace h:=zAC hb.symm h;intro b hb;subst hb;intro b hb;subst hb;cases h;exact(Le.forget _ ⟨rfl,trivial⟩)
 ·show Tri ..;refine zAj hle ?_;refine zAd ?_;have hy:=Option.some.inj h;subst hy;unfold zAt;exact⟨_,Le.refl _ _,rfl,rfl⟩
theorem zFq (n:Nat) (ih_node_Equal:PSound Tryz.prog 198 (zAx (zDG n))) (ih_slices_EqualFunc_sNode:PSound Tryz.prog 197 (zAx (zA3 n))):PSound Tryz.prog 197 (zAx (zA3 (n+1))):=by
 have gok:∀ f s,look? f [(198,zAx (zDG n))]=some s->PSound Tryz.prog f s:=zAv (by
  simp only[List.forall_mem_cons]
  exact⟨ih_node_Equal,by simp⟩)
 refine zAz tokW Tryz.call197 Tryz.func197 rfl (fun xs r h=>by obtain⟨_,_,_,_,rfl,_⟩:=h; show 3<=32; decide) 32 rfl ?_;rintro xs r w0 G0 ⟨s11,s22,y0,h,rfl,rfl⟩ _;rw[zAU]at h;refine zAa ?_;refine zAb [] [] rfl ?_;show Tri ..;refine zAa ?_;refine zAa ?_;refine zAb [] [11,13] rfl ?_;intro n3 hn3;obtain rfl:(s11.length:Int)=n3:=(hn3.trans (congrArg (fun m:Nat=>(m:Int)) (rlen Nd.encs_eq s11))).symm;intro n4 hn4;obtain rfl:(s22.length:Int)=n4:=(hn4.trans (congrArg (fun m:Nat=>(m:Int)) (rlen Nd.encs_eq s22))).symm;show Tri ..;refine zAh rfl h (fun hb h=>?_) (fun hb h=>?_)
 ·refine zAa ?_;refine zAb [] [] rfl ?_;show Tri ..;refine zAd ?_;have hy:=Option.some.inj h;subst hy;unfold zAt;exact⟨_,Le.refl _ _,rfl,rfl⟩
 ·refine zAf ?_;show Tri ..;refine zAa ?_;refine zAa ?_;refine zAb [] [16] rfl ?_;intro n5 hn5;obtain rfl:(s11.length:Int)=n5:=(hn5.trans (congrArg (fun m:Nat=>(m:Int)) (rlen Nd.encs_eq s11))).symm;show Tri ..;obtain⟨fl,hl,ho1⟩:=zAc h;refine zBA (fl:=fl) (fun z=>match z with | _=>⟨ofL [],fun _=>none,0⟩) ?_ (fun z σ' hz hle=>?_)
  ·refine zAk (zAG (X:=Nat×Int) (fun y=>match y with | (k,x6)=>⟨ofL [(1,.s (.sl 4 (Nd.encs s22))),(2,.s (.fn 198)),(15,.s (.sl 4 (Nd.encs s11))),(16,.s (.int .i64 (s11.length:Int))),(17,.s (.int .i64 x6))],fun _=>none,0⟩) (fun y=>zAM (zBI n) s11 s22 y.1 y.2=some fl) (fun y=>y.1) (n,0) hl ?_ ?_)
   ·exact(Le.forget _ ⟨rfl,rfl,rfl,rfl,rfl,trivial⟩)
   ·rintro⟨k,x6⟩ h;cases k with
    | zero=>cases h
    | succ k =>
     replace h:zAM (zBI n) s11 s22 (k+1) x6=some fl:=h;rw[zAM]at h;refine zAa ?_;refine zAb [] [] rfl ?_;show Tri ..;refine zAa ?_;refine zAh rfl h (fun hb h=>?_) (fun hb h=>?_)
     ·refine zAf ?_;show Tri ..;refine zAa ?_;refine zAk ?_;refine zAa ?_;refine zAb [8] [20] rfl ?_;obtain⟨⟨e7A,e7B,e7D,e7C⟩,he7,h⟩:=zAc h;refine And.intro (zAB Nd.encs_eq he7).1 ?_;intro r8 hr8;obtain rfl:[.int .i64 e7A,.str e7B,.int .i64 e7D,.sl 4 (Nd.encs e7C)]=r8:=(hr8.trans (zAB Nd.encs_eq he7).2.1).symm;show Tri ..;refine zAj (Le.giveBox 0 [.int .i64 e7A,.str e7B,.int .i64 e7D,.sl 4 (Nd.encs e7C)] rfl rfl) ?_;refine zAa ?_;refine zAb [9] [24] rfl ?_;obtain⟨⟨e9A,e9B,e9D,e9C⟩,he9,h⟩:=zAc h;refine And.intro (zAB Nd.encs_eq he9).1 ?_
      intro r10 hr10;obtain rfl:[.int .i64 e9A,.str e9B,.int .i64 e9D,.sl 4 (Nd.encs e9C)]=r10:=(hr10.trans (zAB Nd.encs_eq he9).2.1).symm;show Tri ..;refine zAj (Le.giveBox 1 [.int .i64 e9A,.str e9B,.int .i64 e9D,.sl 4 (Nd.encs e9C)] rfl rfl) ?_;refine zAa ?_;refine zAb [] [] rfl ?_;obtain⟨y11,hy11,h⟩:=zAc h;refine⟨_,⟨_,_,_,hy11,rfl,rfl⟩,?_⟩
      show Tri ..;refine zAh rfl h (fun hb h=>?_) (fun hb h=>?_)
      ·refine zAa ?_;refine zAb [] [] rfl ?_;show Tri ..;refine zAd ?_;cases h;replace h:some _=some _:=ho1;have hy:=Option.some.inj h;subst hy;unfold zAt;exact⟨_,Le.refl _ _,rfl,rfl⟩
      ·refine zAf ?_;show Tri ..;refine zAb [] [] rfl ?_;refine⟨(k,IntKind.i64.wrap (x6+1)),h,(Le.rnm [] _ [] 0 ⟨rfl,rfl,rfl,rfl,rfl,trivial⟩ trivial),Nat.lt_succ_self k⟩
     ·refine zAI ?_;cases h;exact⟨_,rfl,(Le.forget _ trivial)⟩
  ·subst hz;obtain _:=z;replace h:=ho1;show Tri ..;refine zAj hle ?_;refine zAa ?_;refine zAb [] [] rfl ?_;show Tri ..;refine zAd ?_;have hy:=Option.some.inj h;subst hy;unfold zAt;exact⟨_,Le.refl _ _,rfl,rfl⟩
theorem zGV:∀ n,PSound Tryz.prog 198 (zAx (zDG n))/\PSound Tryz.prog 197 (zAx (zA3 n)):=by
 intro n
 induction n with
 | zero =>
  refine⟨?_,?_⟩
  ·exact zBq Tryz.call198 (fun xs r h=>by obtain⟨_,_,_,h,_⟩:=h; rw[zBI]at h; cases h)
  ·exact zBq Tryz.call197 (fun xs r h=>by obtain⟨_,_,_,h,_⟩:=h; rw[zAU]at h; cases h)
 | succ n ih =>
  obtain⟨ih_node_Equal,ih_slices_EqualFunc_sNode⟩:=ih;exact⟨zLO n ih_node_Equal ih_slices_EqualFunc_sNode,zFq n ih_node_Equal ih_slices_EqualFunc_sNode⟩
def zJH:zAy:=zAx fun xs r=>∃ n,zDG n xs r
theorem zNU:PSound Tryz.prog 198 zJH:=zBM (fun n=>(zGV n).1)
def zDH:zAy:=zAx fun xs r=>∃ n,zA3 n xs r
theorem zFY:PSound Tryz.prog 197 zDH:=zBM (fun n=>(zGV n).2)
def zFI (n:Nat) (xs:List AV) (r:Ret):Prop:=∃ (a0:(zO8×List Nd)) (y0:List Nd) (y1:Int),zA9 n a0=some (y0,y1)/\xs=[.agg ((zAm a0).map .s)]/\r = .val (.tup [.s (.sl 4 (Nd.encs y0)),.s (.int .i64 y1)])
def zFK:zAy:=zAx fun xs r=>∃ n,zFI n xs r
theorem zFs:PSound Tryz.prog 183 zFK:=by
 have gok:∀ f s,look? f [(53,zE3),(195,zFy),(198,zJH),(196,zBy)]=some s->PSound Tryz.prog f s:=zAv (by
  simp only[List.forall_mem_cons]
  exact⟨zGC,zGv,zNU,zBS,by simp⟩)
 refine zAz tokW Tryz.call183 Tryz.func183 rfl (fun xs r h=>by obtain⟨n,_,_,_,_,rfl,_⟩:=h; show 1<=54; decide) 54 rfl ?_;rintro xs r w0 G0 ⟨n,⟨⟨c1X,c1Ac,c1J,c1Y,c1P,c1Q,c1Ab,c1Aa⟩,c1K⟩,y0,y1,h,rfl,rfl⟩ _;rw[zA9]at h;refine zAa ?_;refine zAb [] [] rfl ?_;show Tri ..;refine zAa ?_;refine zAb [4] [11] rfl ?_;obtain⟨⟨e2A,e2B,e2D,e2C⟩,he2,h⟩:=zAc h;refine And.intro (zAB Nd.encs_eq he2).1 ?_;intro r3 hr3
 obtain rfl:[.int .i64 e2A,.str e2B,.int .i64 e2D,.sl 4 (Nd.encs e2C)]=r3:=(hr3.trans (zAB Nd.encs_eq he2).2.1).symm;obtain⟨⟨y4A,y4B,y4D,y4C⟩,hy4,h⟩:=zAc h;refine⟨_,_,⟨_,_,hy4,rfl,rfl,rfl,rfl⟩,?_⟩
 show Tri ..;refine zAa ?_;refine zAa ?_;refine zA2 [] [] [3,4] rfl (by decide +kernel) ?_;obtain⟨y5,hy5,h⟩:=zAc h;refine⟨_,⟨_,_,hy5,rfl,rfl⟩,?_⟩
 show Tri ..;refine zAh rfl h (fun hb h=>?_) (fun hb h=>?_)
 ·refine zAa ?_;refine zAb [] [] rfl ?_;show Tri ..;refine zAd ?_;obtain⟨hj1,hk1⟩:=pij h;subst hj1 hk1;unfold zAt;exact⟨_,Le.refl _ _,rfl,rfl⟩
 ·refine zAf ?_;show Tri ..;refine zAa ?_;refine zAb [] [] rfl ?_;obtain⟨⟨e6A,e6B,e6D,e6C⟩,he6,h⟩:=zAc h;refine And.intro (zAB Nd.encs_eq he6).1 ?_;refine And.intro (zAB Nd.encs_eq he6).2.2 ?_;refine⟨_,(zAB Nd.encs_eq he6).2.1,?_⟩
  show Tri ..;refine zAa ?_;refine zAb [] [] rfl ?_;obtain⟨⟨e7A,e7B,e7D,e7C⟩,he7,h⟩:=zAc h;refine And.intro (zAB Nd.encs_eq he7).1 ?_;have hset8:=(rset (R:=Nd.encs) (f:=Nd.enc) Nd.encs_eq he7 (Nd.mk e7A e7B e7D []) 3 4 [.sl 4 (Nd.encs [])] rfl)
  have hat8:=at_set he7 (Nd.mk e7A e7B e7D [])
  refine And.intro (zAB Nd.encs_eq he7).2.2 ?_;show Tri ..;refine zAj (Le.rnm [(1,0),(0,1)] [(1,.s (.pt [.int .i64 c1X,.sl 1 ((List.map (irow .i64)) c1Ac),.int .i64 c1J,.int .i64 c1Y,.sl 4 (Nd.encs c1P),.int .i64 c1Q,.str c1Ab,.str c1Aa,.sl 4 (Nd.encs c1K)])),(4,.op 0 0),(5,.s (.sl 4 (Nd.encs e6C)))] [(0,.box 24 [.s (.int .i64 y4A),.s (.str y4B),.s (.int .i64 y4D),.orow 1]),(1,.row 24 4 (Nd.encs (y4C.set c1Q.toNat (Nd.mk e7A e7B e7D []))))] 2 ⟨rfl,rfl,rfl,trivial⟩ ⟨rfl,⟨_,rfl,rfl⟩,rfl,⟨_,rfl,congrArg (Ob.row 24 4) hset8⟩,trivial⟩) ?_;refine zAa ?_
  refine zAa ?_;obtain⟨x9,hj,h⟩:=zAc h;refine zAq ⟨ofL [(1,.s (.pt [.int .i64 c1X,.sl 1 ((List.map (irow .i64)) c1Ac),.int .i64 c1J,.int .i64 c1Y,.sl 4 (Nd.encs c1P),.int .i64 c1Q,.str c1Ab,.str c1Aa,.sl 4 (Nd.encs c1K)])),(5,.s (.sl 4 (Nd.encs e6C))),(50,.s (.bool x9))],fun _=>none,0⟩ ?_ (fun σ' hle=>?_)
  ·replace h:=hj;refine zA2 [] [36,41,46] [7,13] rfl (by decide +kernel) ?_;intro n10 hn10;obtain rfl:(e6C.length:Int)=n10:=(hn10.trans (congrArg (fun m:Nat=>(m:Int)) (rlen Nd.encs_eq e6C))).symm;intro b hb;cases b with
   | true =>
    replace h:=zAD hb.symm h;cases h;exact(Le.rnm [] _ [] 0 ⟨rfl,rfl,rfl,trivial⟩ trivial)
   | false =>
    replace h:=zAC hb.symm h;obtain⟨⟨e11A,e11B,e11D,e11C⟩,he11,h⟩:=zAc h;refine And.intro (zAB Nd.encs_eq he11).1 ?_;intro r12 hr12;obtain rfl:[.int .i64 e11A,.str e11B,.int .i64 e11D,.sl 4 (Nd.encs e11C)]=r12:=(hr12.trans (zAB Nd.encs_eq he11).2.1).symm;obtain⟨y13,hy13,h⟩:=zAc h;refine⟨_,⟨_,_,_,_,hy13,rfl,rfl⟩,?_⟩
    cases h;exact(Le.rnm [] _ [] 0 ⟨rfl,rfl,rfl,trivial⟩ trivial)
  ·show Tri ..;refine zAj hle ?_;refine zAh rfl h (fun hb h=>?_) (fun hb h=>?_)
   ·refine zAa ?_;refine zAb [] [] rfl ?_;show Tri ..;refine zAd ?_;obtain⟨hj1,hk1⟩:=pij h;subst hj1 hk1;unfold zAt;exact⟨_,Le.refl _ _,rfl,rfl⟩
   ·refine zAf ?_;show Tri ..;refine zAa ?_;refine zAb [] [] rfl ?_;obtain⟨y14,hy14,h⟩:=zAc h;refine⟨_,⟨_,_,_,_,_,hy14,rfl,rfl⟩,?_⟩
    show Tri ..;refine zAd ?_;obtain⟨hj1,hk1⟩:=pij h;subst hj1 hk1;unfold zAt;exact⟨_,Le.refl _ _,rfl,rfl⟩
def zFJ (xs:List AV) (r:Ret):Prop:=∃ (a0:(zO8×List Nd)) (y0:List Nd) (y1:Int),zBa a0=some (y0,y1)/\xs=[.agg ((zAm a0).map .s)]/\r = .val (.tup [.s (.sl 4 (Nd.encs y0)),.s (.int .i64 y1)])
def zFL:zAy:=zAx fun xs r=>zFJ xs r
theorem zFt:PSound Tryz.prog 183 zFL:=by
 have gok:∀ f s,look? f [(53,zE2),(195,zFy)]=some s->PSound Tryz.prog f s:=zAv (by
  simp only[List.forall_mem_cons]
  exact⟨zFD,zGv,by simp⟩)
 refine zAz tokW Tryz.call183 Tryz.func183 rfl (fun xs r h=>by obtain⟨_,_,_,_,rfl,_⟩:=h; show 1<=54; decide) 54 rfl ?_;rintro xs r w0 G0 ⟨⟨⟨c1X,c1Ac,c1J,c1Y,c1P,c1Q,c1Ab,c1Aa⟩,c1K⟩,y0,y1,h,rfl,rfl⟩ _;rw[zBa]at h;refine zAa ?_;refine zAb [] [] rfl ?_;show Tri ..;refine zAa ?_;refine zAb [4] [11] rfl ?_;obtain⟨⟨e2A,e2B,e2D,e2C⟩,he2,h⟩:=zAc h;refine And.intro (zAB Nd.encs_eq he2).1 ?_;intro r3 hr3;obtain rfl:[.int .i64 e2A,.str e2B,.int .i64 e2D,.sl 4 (Nd.encs e2C)]=r3:=(hr3.trans (zAB Nd.encs_eq he2).2.1).symm
 obtain⟨⟨y4A,y4B,y4D,y4C⟩,hy4,h⟩:=zAc h;refine⟨_,⟨_,_,hy4,rfl,rfl⟩,?_⟩
 show Tri ..;refine zAa ?_;refine zAa ?_;refine zA2 [] [] [3] rfl (by decide +kernel) ?_;obtain⟨y5,hy5,h⟩:=zAc h;refine⟨_,⟨_,_,hy5,rfl,rfl⟩,?_⟩
 show Tri ..;refine zAh rfl h (fun hb h=>?_) (fun hb h=>?_)
 ·refine zAa ?_;refine zAb [] [] rfl ?_;show Tri ..;refine zAd ?_;obtain⟨hj1,hk1⟩:=pij h;subst hj1 hk1;unfold zAt;exact⟨_,Le.refl _ _,rfl,rfl⟩
 ·refine zAf ?_;show Tri ..;refine zAa ?_;cases h
def zIy (n:Nat) (xs:List AV) (r:Ret):Prop:=∃ (a0:(zO8×List Nd)) (y0:List Nd) (y1:Int),zCR n a0=some (y0,y1)/\xs=[.agg ((zAm a0).map .s)]/\r = .val (.tup [.s (.sl 4 (Nd.encs y0)),.s (.int .i64 y1)])
def zFu:zAy:=zAx fun xs r=>∃ n,zIy n xs r
theorem zIk:PSound Tryz.prog 182 zFu:=by
 have gok:∀ f s,look? f [(53,zE3),(199,zEN),(196,zBy)]=some s->PSound Tryz.prog f s:=zAv (by
  simp only[List.forall_mem_cons]
  exact⟨zGC,zHk,zBS,by simp⟩)
 refine zAz tokW Tryz.call182 Tryz.func182 rfl (fun xs r h=>by obtain⟨n,_,_,_,_,rfl,_⟩:=h; show 1<=39; decide) 39 rfl ?_;rintro xs r w0 G0 ⟨n,⟨⟨c1X,c1Ac,c1J,c1Y,c1P,c1Q,c1Ab,c1Aa⟩,c1K⟩,y0,y1,h,rfl,rfl⟩ _;rw[zCR]at h;refine zAa ?_;refine zAb [] [] rfl ?_;show Tri ..;refine zAa ?_;refine zAb [4] [8] rfl ?_;obtain⟨⟨e2A,e2B,e2D,e2C⟩,he2,h⟩:=zAc h;refine And.intro (zAB Nd.encs_eq he2).1 ?_;intro r3 hr3;obtain rfl:[.int .i64 e2A,.str e2B,.int .i64 e2D,.sl 4 (Nd.encs e2C)]=r3:=(hr3.trans (zAB Nd.encs_eq he2).2.1).symm
 obtain⟨⟨y4A,y4B,y4D,y4C⟩,hy4,h⟩:=zAc h;refine⟨_,_,⟨_,_,hy4,rfl,rfl,rfl,rfl⟩,?_⟩
 show Tri ..;refine zAa ?_;refine zA2 [] [28] [1,19,21] rfl (by decide +kernel) ?_;obtain⟨hq,h⟩:=zAK h;refine And.intro ⟨hq.1,hq.2.1,Int.le_trans hq.2.2 (Int.ofNat_le.2 (Nat.le_of_eq (rlen Nd.encs_eq _).symm))⟩ ?_;intro r5 hr5;obtain rfl:Nd.encs ((c1K.take (IntKind.i64.wrap (c1J+c1Y)).toNat).drop c1J.toNat)=r5:=(hr5.trans (rcut Nd.encs_eq _ _ _)).symm;obtain⟨y6,hy6,h⟩:=zAc h;refine⟨_,⟨_,_,hy6,rfl,rfl⟩,?_⟩
 obtain⟨⟨e7A,e7B,e7D,e7C⟩,he7,h⟩:=zAc h;refine And.intro (zAB Nd.encs_eq he7).1 ?_;have hset8:=(rset (R:=Nd.encs) (f:=Nd.enc) Nd.encs_eq he7 (Nd.mk e7A e7B e7D y6) 3 4 [.sl 4 (Nd.encs y6)] rfl)
 have hat8:=at_set he7 (Nd.mk e7A e7B e7D y6)
 refine And.intro (zAB Nd.encs_eq he7).2.2 ?_;show Tri ..
 refine zAj (Le.trans (Le.trans (Le.trans (Le.rnm [(1,0),(0,1)] [(1,.s (.pt [.int .i64 c1X,.sl 1 ((List.map (irow .i64)) c1Ac),.int .i64 c1J,.int .i64 c1Y,.sl 4 (Nd.encs c1P),.int .i64 c1Q,.str c1Ab,.str c1Aa,.sl 4 (Nd.encs c1K)])),(4,.op 0 0)] [(0,.box 24 [.s (.int .i64 y4A),.s (.str y4B),.s (.int .i64 y4D),.orow 1]),(1,.row 24 4 (Nd.encs (y4C.set c1Q.toNat (Nd.mk e7A e7B e7D y6))))] 2 ⟨rfl,rfl,trivial⟩ ⟨rfl,⟨_,rfl,rfl⟩,rfl,⟨_,rfl,congrArg (Ob.row 24 4) hset8⟩,trivial⟩) (Le.giveRow 1 rfl)) (Le.rnm [(0,0)] [(1,.s (.pt [.int .i64 c1X,.sl 1 ((List.map (irow .i64)) c1Ac),.int .i64 c1J,.int .i64 c1Y,.sl 4 (Nd.encs c1P),.int .i64 c1Q,.str c1Ab,.str c1Aa,.sl 4 (Nd.encs c1K)])),(4,.op 0 0)] [(0,.box 24 [.s (.int .i64 y4A),.s (.str y4B),.s (.int .i64 y4D),.s (.sl 4 (Nd.encs (y4C.set c1Q.toNat (Nd.mk e7A e7B e7D y6))))])] 1 ⟨rfl,rfl,trivial⟩ ⟨rfl,⟨_,rfl,rfl⟩,trivial⟩)) (Le.giveBox 0 [.int .i64 y4A,.str y4B,.int .i64 y4D,.sl 4 (Nd.encs (y4C.set c1Q.toNat (Nd.mk e7A e7B e7D y6)))] rfl rfl)) ?_
 refine zAa ?_;refine zAb [] [37] rfl ?_;intro r9 hr9;obtain rfl:Nd.encs [Nd.mk y4A y4B y4D (y4C.set c1Q.toNat (Nd.mk e7A e7B e7D y6))]=r9:=(hr9.trans (by simp[List.map_append,List.map_take,List.map_drop,irow,brow,zAH,List.map_cons,List.map_nil,zAE,Nd.encs_eq,Nd.enc,CV.encs_eq,CV.enc,zAo,zAl,zAA,zAp,zAm])).symm;obtain⟨y10,hy10,h⟩:=zAc h;refine⟨_,⟨_,_,_,_,_,hy10,rfl,rfl⟩,?_⟩
 show Tri ..;refine zAd ?_;obtain⟨hj1,hk1⟩:=pij h;subst hj1 hk1;unfold zAt;exact⟨_,Le.refl _ _,rfl,rfl⟩
def zHz (n:Nat) (xs:List AV) (r:Ret):Prop:=∃ (a0:(zO8×List Nd)) (y0:List Nd) (y1:Int),zCf n a0=some (y0,y1)/\xs=[.agg ((zAm a0).map .s)]/\r = .val (.tup [.s (.sl 4 (Nd.encs y0)),.s (.int .i64 y1)])
def zEJ:zAy:=zAx fun xs r=>∃ n,zHz n xs r
theorem zHb:PSound Tryz.prog 180 zEJ:=by
 have gok:∀ f s,look? f [(196,zBy)]=some s->PSound Tryz.prog f s:=zAv (by
  simp only[List.forall_mem_cons]
  exact⟨zBS,by simp⟩)
 refine zAz tokW Tryz.call180 Tryz.func180 rfl (fun xs r h=>by obtain⟨n,_,_,_,_,rfl,_⟩:=h; show 1<=9; decide) 9 rfl ?_;rintro xs r w0 G0 ⟨n,⟨⟨c1X,c1Ac,c1J,c1Y,c1P,c1Q,c1Ab,c1Aa⟩,c1K⟩,y0,y1,h,rfl,rfl⟩ _;rw[zCf]at h;refine zAa ?_;refine zAb [] [] rfl ?_;show Tri ..;refine zAa ?_;refine zAb [] [] rfl ?_;obtain⟨y2,hy2,h⟩:=zAc h;refine⟨_,⟨_,_,_,_,_,hy2,rfl,rfl⟩,?_⟩
 show Tri ..;refine zAd ?_;obtain⟨hj1,hk1⟩:=pij h;subst hj1 hk1;unfold zAt;exact⟨_,Le.refl _ _,rfl,rfl⟩
def zHA (n:Nat) (xs:List AV) (r:Ret):Prop:=∃ (a0:(zO8×List Nd)) (y0:List Nd) (y1:Int),zCg n a0=some (y0,y1)/\xs=[.agg ((zAm a0).map .s)]/\r = .val (.tup [.s (.sl 4 (Nd.encs y0)),.s (.int .i64 y1)])
def zEK:zAy:=zAx fun xs r=>∃ n,zHA n xs r
theorem zHc:PSound Tryz.prog 181 zEK:=by
 have gok:∀ f s,look? f [(197,zDH),(196,zBy)]=some s->PSound Tryz.prog f s:=zAv (by
  simp only[List.forall_mem_cons]
  exact⟨zFY,zBS,by simp⟩)
 refine zAz tokW Tryz.call181 Tryz.func181 rfl (fun xs r h=>by obtain⟨n,_,_,_,_,rfl,_⟩:=h; show 1<=28; decide) 28 rfl ?_;rintro xs r w0 G0 ⟨n,⟨⟨c1X,c1Ac,c1J,c1Y,c1P,c1Q,c1Ab,c1Aa⟩,c1K⟩,y0,y1,h,rfl,rfl⟩ _;rw[zCg]at h;refine zAa ?_;refine zAb [] [] rfl ?_;show Tri ..;refine zAa ?_;refine zAb [] [8] rfl ?_;intro n2 hn2;obtain rfl:(c1P.length:Int)=n2:=(hn2.trans (congrArg (fun m:Nat=>(m:Int)) (rlen Nd.encs_eq c1P))).symm;show Tri ..;refine zAa ?_;refine zAa ?_;refine zA2 [] [19] [] rfl (by decide +kernel) ?_
 obtain⟨hq,h⟩:=zAK h;refine And.intro ⟨hq.1,hq.2.1,Int.le_trans hq.2.2 (Int.ofNat_le.2 (Nat.le_of_eq (rlen Nd.encs_eq _).symm))⟩ ?_;intro r3 hr3;obtain rfl:Nd.encs ((c1K.take (IntKind.i64.wrap (c1J+(c1P.length:Int))).toNat).drop c1J.toNat)=r3:=(hr3.trans (rcut Nd.encs_eq _ _ _)).symm;obtain⟨y4,hy4,h⟩:=zAc h;refine⟨_,⟨_,_,_,_,hy4,rfl,rfl⟩,?_⟩
 show Tri ..;refine zAh rfl h (fun hb h=>?_) (fun hb h=>?_)
 ·refine zAa ?_;refine zAb [] [] rfl ?_;show Tri ..;refine zAd ?_;obtain⟨hj1,hk1⟩:=pij h;subst hj1 hk1;unfold zAt;exact⟨_,Le.refl _ _,rfl,rfl⟩
 ·refine zAf ?_;show Tri ..;refine zAa ?_;refine zAb [] [] rfl ?_;obtain⟨y5,hy5,h⟩:=zAc h;refine⟨_,⟨_,_,_,_,_,hy5,rfl,rfl⟩,?_⟩
  show Tri ..;refine zAd ?_;obtain⟨hj1,hk1⟩:=pij h;subst hj1 hk1;unfold zAt;exact⟨_,Le.refl _ _,rfl,rfl⟩
def zJg (n:Nat) (xs:List AV) (r:Ret):Prop:=∃ (a0:(zO8×List Nd)) (y0:List Nd) (y1:Int),zDc n a0=some (y0,y1)/\xs=[.agg ((zAm a0).map .s)]/\r = .val (.tup [.s (.sl 4 (Nd.encs y0)),.s (.int .i64 y1)])
def zF3:zAy:=zAx fun xs r=>∃ n,zJg n xs r
theorem zIX:PSound Tryz.prog 184 zF3:=by
 have gok:∀ f s,look? f [(196,zBy)]=some s->PSound Tryz.prog f s:=zAv (by
  simp only[List.forall_mem_cons]
  exact⟨zBS,by simp⟩)
 refine zAz tokW Tryz.call184 Tryz.func184 rfl (fun xs r h=>by obtain⟨n,_,_,_,_,rfl,_⟩:=h; show 1<=34; decide) 34 rfl ?_;rintro xs r w0 G0 ⟨n,⟨⟨c1X,c1Ac,c1J,c1Y,c1P,c1Q,c1Ab,c1Aa⟩,c1K⟩,y0,y1,h,rfl,rfl⟩ _;rw[zDc]at h;refine zAa ?_;refine zAb [] [] rfl ?_;show Tri ..;refine zAa ?_;refine zAb [4] [10] rfl ?_;obtain⟨⟨e2A,e2B,e2D,e2C⟩,he2,h⟩:=zAc h;refine And.intro (zAB Nd.encs_eq he2).1 ?_;intro r3 hr3;obtain rfl:[.int .i64 e2A,.str e2B,.int .i64 e2D,.sl 4 (Nd.encs e2C)]=r3:=(hr3.trans (zAB Nd.encs_eq he2).2.1).symm
 show Tri ..;refine zAa ?_;refine zAa ?_;refine zAb [] [] rfl ?_;show Tri ..;obtain⟨fl,hj,ho1⟩:=zAc h;refine zBA (fl:=fl) (fun z=>match z with | _=>⟨ofL [(1,.s (.pt [.int .i64 c1X,.sl 1 ((List.map (irow .i64)) c1Ac),.int .i64 c1J,.int .i64 c1Y,.sl 4 (Nd.encs c1P),.int .i64 c1Q,.str c1Ab,.str c1Aa,.sl 4 (Nd.encs c1K)])),(4,.op 0 0)],ofH [(0,.box 24 [.s (.int .i64 e2A),.s (.str e2B),.s (.int .i64 e2D),.s (.sl 4 (Nd.encs e2C))])],1⟩) ?_ (fun z σ' hz hle=>?_)
 ·replace h:=hj;refine zAk ?_;refine zAa ?_;refine zAa ?_;refine zAb [] [] rfl ?_;show Tri ..;obtain⟨x4,hj,h⟩:=zAc h;refine zAq ⟨ofL [(1,.s (.pt [.int .i64 c1X,.sl 1 ((List.map (irow .i64)) c1Ac),.int .i64 c1J,.int .i64 c1Y,.sl 4 (Nd.encs c1P),.int .i64 c1Q,.str c1Ab,.str c1Aa,.sl 4 (Nd.encs c1K)])),(4,.op 0 0),(14,.s (.bool x4))],ofH [(0,.box 24 [.s (.int .i64 e2A),.s (.str e2B),.s (.int .i64 e2D),.s (.sl 4 (Nd.encs e2C))])],1⟩ ?_ (fun σ' hle=>?_)
  ·replace h:=hj;refine zAh rfl h (fun hb h=>?_) (fun hb h=>?_)
   ·refine zAf ?_;cases h;exact(Le.rnm [(0,0)] _ _ _ ⟨rfl,rfl,rfl,trivial⟩ ⟨rfl,⟨_,rfl,rfl⟩,trivial⟩)
   ·refine zAa ?_;refine zAb [] [] rfl ?_;show Tri ..;refine zAh rfl h (fun hb h=>?_) (fun hb h=>?_)
    ·refine zAf ?_;cases h;exact(Le.rnm [(0,0)] _ _ _ ⟨rfl,rfl,rfl,trivial⟩ ⟨rfl,⟨_,rfl,rfl⟩,trivial⟩)
    ·refine zAa ?_;refine zAb [] [] rfl ?_;show Tri ..;refine zAh rfl h (fun hb h=>?_) (fun hb h=>?_)
     ·refine zAf ?_;cases h;exact(Le.rnm [(0,0)] _ _ _ ⟨rfl,rfl,rfl,trivial⟩ ⟨rfl,⟨_,rfl,rfl⟩,trivial⟩)
     ·refine zAa ?_;refine zAb [] [] rfl ?_;show Tri ..;refine zAh rfl h (fun hb h=>?_) (fun hb h=>?_)
      ·refine zAf ?_;cases h;exact(Le.rnm [(0,0)] _ _ _ ⟨rfl,rfl,rfl,trivial⟩ ⟨rfl,⟨_,rfl,rfl⟩,trivial⟩)
      ·refine zAb [] [] rfl ?_;cases h;exact(Le.rnm [(0,0)] _ _ _ ⟨rfl,rfl,rfl,trivial⟩ ⟨rfl,⟨_,rfl,rfl⟩,trivial⟩)
  ·show Tri ..;refine zAj hle ?_;refine zAh rfl h (fun hb h=>?_) (fun hb h=>?_)
   ·refine zAf ?_;cases h;exact⟨_,rfl,(Le.rnm [(0,0)] _ _ _ ⟨rfl,rfl,trivial⟩ ⟨rfl,⟨_,rfl,rfl⟩,trivial⟩)⟩
   ·refine zAa ?_;refine zAb [] [] rfl ?_;show Tri ..;refine zAd ?_;cases h;replace h:some _=some _:=ho1;obtain⟨hj1,hk1⟩:=pij h;subst hj1 hk1;unfold zAt;exact⟨_,Le.refl _ _,rfl,rfl⟩
 ·subst hz;obtain _:=z;replace h:=ho1;show Tri ..;refine zAj hle ?_;refine zAa ?_;refine zAa ?_;refine zAb [] [] rfl ?_;show Tri ..;refine zAh rfl h (fun hb h=>?_) (fun hb h=>?_)
  ·refine zAa ?_;refine zAb [] [] rfl ?_;show Tri ..;refine zAd ?_;obtain⟨hj1,hk1⟩:=pij h;subst hj1 hk1;unfold zAt;exact⟨_,Le.refl _ _,rfl,rfl⟩
  ·refine zAf ?_;show Tri ..;refine zAa ?_;refine zAb [] [] rfl ?_;show Tri ..;refine zAa ?_;refine zAb [] [32] rfl ?_;intro r5 hr5;obtain rfl:Nd.encs [Nd.mk e2A c1Aa e2D e2C]=r5:=(hr5.trans (by simp[List.map_append,List.map_take,List.map_drop,irow,brow,zAH,List.map_cons,List.map_nil,zAE,Nd.encs_eq,Nd.enc,CV.encs_eq,CV.enc,zAo,zAl,zAA,zAp,zAm])).symm;obtain⟨y6,hy6,h⟩:=zAc h;refine⟨_,⟨_,_,_,_,_,hy6,rfl,rfl⟩,?_⟩
   show Tri ..;refine zAd ?_;obtain⟨hj1,hk1⟩:=pij h;subst hj1 hk1;unfold zAt;exact⟨_,Le.refl _ _,rfl,rfl⟩
def zHy (xs:List AV) (r:Ret):Prop:=∃ (a0:(zO8×List Nd)) (y0:Int),zBF a0=some y0/\xs=[.agg ((zAm a0).map .s)]/\r = .val (.s (.int .i64 y0))
def zEI:zAy:=zAx fun xs r=>zHy xs r
theorem zHa:PSound Tryz.prog 179 zEI:=by
 have gok:=@gok0 Tryz.prog;refine zAz tokW Tryz.call179 Tryz.func179 rfl (fun xs r h=>by obtain⟨_,_,_,rfl,_⟩:=h; show 1<=44; decide) 44 rfl ?_;rintro xs r w0 G0 ⟨⟨⟨c1X,c1Ac,c1J,c1Y,c1P,c1Q,c1Ab,c1Aa⟩,c1K⟩,y0,h,rfl,rfl⟩ _;rw[zBF]at h;refine zAa ?_;refine zAb [] [] rfl ?_;show Tri ..;refine zAa ?_;refine zAb [] [] rfl ?_;show Tri ..;refine zAa ?_;refine zAa ?_;refine zAb [] [] rfl ?_;show Tri ..;obtain⟨need2,hj,h⟩:=zAc h
 refine zAq ⟨ofL [(1,.s (.pt [.int .i64 c1X,.sl 1 ((List.map (irow .i64)) c1Ac),.int .i64 c1J,.int .i64 c1Y,.sl 4 (Nd.encs c1P),.int .i64 c1Q,.str c1Ab,.str c1Aa,.sl 4 (Nd.encs c1K)])),(3,.s (.int .i64 need2))],fun _=>none,0⟩ ?_ (fun σ' hle=>?_)
 ·replace h:=hj;refine zAk ?_;refine zAa ?_;refine zAb [] [] rfl ?_;show Tri ..;refine zAh rfl h (fun hb h=>?_) (fun hb h=>?_)
  ·refine zAb [] [] rfl ?_;cases h;exact(Le.forget _ ⟨rfl,rfl,trivial⟩)
  ·refine zAa ?_;refine zAb [] [] rfl ?_;show Tri ..;refine zAh rfl h (fun hb h=>?_) (fun hb h=>?_)
   ·refine zAb [] [14] rfl ?_;intro n3 hn3;obtain rfl:(c1P.length:Int)=n3:=(hn3.trans (congrArg (fun m:Nat=>(m:Int)) (rlen Nd.encs_eq c1P))).symm;cases h;exact(Le.forget _ ⟨rfl,rfl,trivial⟩)
   ·refine zAa ?_;refine zAb [] [] rfl ?_;show Tri ..;refine zAh rfl h (fun hb h=>?_) (fun hb h=>?_)
    ·refine zAb [] [] rfl ?_;cases h;exact(Le.forget _ ⟨rfl,rfl,trivial⟩)
    ·refine zAf ?_;cases h;exact(Le.forget _ ⟨rfl,rfl,trivial⟩)
 ·show Tri ..;refine zAj hle ?_;refine zAa ?_;refine zAa ?_;obtain⟨x4,hj,h⟩:=zAc h;refine zAq ⟨ofL [(43,.s (.bool x4))],fun _=>none,0⟩ ?_ (fun σ' hle=>?_)
  ·replace h:=hj;refine zAb [] [24,30,33,37] rfl ?_;intro b hb;cases b with
   | true =>
    replace h:=zAD hb.symm h;intro b hb;subst hb;cases h;exact(Le.forget _ ⟨rfl,trivial⟩)
   | false =>
    replace h:=zAC hb.symm h;intro n5 hn5;obtain rfl:(c1K.length:Int)=n5:=(hn5.trans (congrArg (fun m:Nat=>(m:Int)) (rlen Nd.encs_eq c1K))).symm;intro b hb;cases b with
    | true =>
     replace h:=zAD hb.symm h;cases h;exact(Le.forget _ ⟨rfl,trivial⟩)
    | false =>
     replace h:=zAC hb.symm h;intro n6 hn6;obtain rfl:(c1K.length:Int)=n6:=(hn6.trans (congrArg (fun m:Nat=>(m:Int)) (rlen Nd.encs_eq c1K))).symm;cases h;exact(Le.forget _ ⟨rfl,trivial⟩)
  ·show Tri ..;refine zAj hle ?_;refine zAh rfl h (fun hb h=>?_) (fun hb h=>?_)
   ·refine zAa ?_;refine zAb [] [] rfl ?_;show Tri ..;refine zAd ?_;have hy:=Option.some.inj h;subst hy;unfold zAt;exact⟨_,Le.refl _ _,rfl,rfl⟩
   ·refine zAf ?_;show Tri ..;refine zAa ?_;refine zAb [] [] rfl ?_;show Tri ..;refine zAd ?_;have hy:=Option.some.inj h;subst hy;unfold zAt;exact⟨_,Le.refl _ _,rfl,rfl⟩
def zKa (n:Nat) (xs:List AV) (r:Ret):Prop:=∃ (a0:List Nd) (a1:Int) (y0:Bool),zCG n a0 a1=some y0/\xs=[.s (.sl 4 (Nd.encs a0)),.s (.int .i64 a1)]/\r = .val (.s (.bool y0))
def zGy:zAy:=zAx fun xs r=>∃ n,zKa n xs r
theorem zJr:PSound Tryz.prog 177 zGy:=by
 have gok:∀ f s,look? f [(176,zEa),(195,zFy)]=some s->PSound Tryz.prog f s:=zAv (by
  simp only[List.forall_mem_cons]
  exact⟨zFE,zGv,by simp⟩)
 refine zAz tokW Tryz.call177 Tryz.func177 rfl (fun xs r h=>by obtain⟨n,_,_,_,_,rfl,_⟩:=h; show 2<=35; decide) 35 rfl ?_;rintro xs r w0 G0 ⟨n,l1,slot2,y0,h,rfl,rfl⟩ _;rw[zCG]at h;refine zAa ?_;refine zAb [] [] rfl ?_;show Tri ..;refine zAa ?_;refine zAa ?_;obtain⟨x3,hj,h⟩:=zAc h;refine zAq ⟨ofL [(0,.s (.sl 4 (Nd.encs l1))),(1,.s (.int .i64 slot2)),(24,.s (.bool x3))],fun _=>none,0⟩ ?_ (fun σ' hle=>?_)
 ·replace h:=hj;refine zAb [] [6,8,13,17,20] rfl ?_;intro n4 hn4;obtain rfl:(l1.length:Int)=n4:=(hn4.trans (congrArg (fun m:Nat=>(m:Int)) (rlen Nd.encs_eq l1))).symm;intro b hb;cases b with
  | true =>
   replace h:=zAD hb.symm h;intro b hb;subst hb;intro b hb;subst hb;cases h;exact(Le.forget _ ⟨rfl,rfl,rfl,trivial⟩)
  | false =>
   replace h:=zAC hb.symm h;obtain⟨y5,hy5,h⟩:=zAc h;refine⟨_,⟨_,_,_,hy5,rfl,rfl⟩,?_⟩
   intro b hb;cases b with
   | true =>
    replace h:=zAD hb.symm h;intro b hb;subst hb;cases h;exact(Le.forget _ ⟨rfl,rfl,rfl,trivial⟩)
   | false =>
    replace h:=zAC hb.symm h;intro b hb;cases b with
    | true =>
     replace h:=zAD hb.symm h;cases h;exact(Le.forget _ ⟨rfl,rfl,rfl,trivial⟩)
    | false =>
     replace h:=zAC hb.symm h;obtain⟨⟨e6A,e6B,e6D,e6C⟩,he6,h⟩:=zAc h;refine And.intro (zAB Nd.encs_eq he6).1 ?_;intro r7 hr7;obtain rfl:[.int .i64 e6A,.str e6B,.int .i64 e6D,.sl 4 (Nd.encs e6C)]=r7:=(hr7.trans (zAB Nd.encs_eq he6).2.1).symm;obtain⟨y8,hy8,h⟩:=zAc h;refine⟨_,⟨_,_,hy8,rfl,rfl⟩,?_⟩
     cases h;exact(Le.forget _ ⟨rfl,rfl,rfl,trivial⟩)
 ·show Tri ..;refine zAj hle ?_;refine zAh rfl h (fun hb h=>?_) (fun hb h=>?_)
  ·refine zAa ?_;refine zAb [] [] rfl ?_;show Tri ..;refine zAd ?_;have hy:=Option.some.inj h;subst hy;unfold zAt;exact⟨_,Le.refl _ _,rfl,rfl⟩
  ·refine zAf ?_;show Tri ..;refine zAa ?_;refine zAb [] [26,30,33] rfl ?_;obtain⟨⟨e9A,e9B,e9D,e9C⟩,he9,h⟩:=zAc h;refine And.intro (zAB Nd.encs_eq he9).1 ?_;intro r10 hr10;obtain rfl:[.int .i64 e9A,.str e9B,.int .i64 e9D,.sl 4 (Nd.encs e9C)]=r10:=(hr10.trans (zAB Nd.encs_eq he9).2.1).symm;obtain⟨⟨e11A,e11B,e11D,e11C⟩,he11,h⟩:=zAc h;refine And.intro (zAB Nd.encs_eq he11).1 ?_;intro r12 hr12;obtain rfl:[.int .i64 e11A,.str e11B,.int .i64 e11D,.sl 4 (Nd.encs e11C)]=r12:=(hr12.trans (zAB Nd.encs_eq he11).2.1).symm;intro n13 hn13
   obtain rfl:(e11C.length:Int)=n13:=(hn13.trans (congrArg (fun m:Nat=>(m:Int)) (rlen Nd.encs_eq e11C))).symm;show Tri ..;refine zAd ?_;have hy:=Option.some.inj h;subst hy;unfold zAt;exact⟨_,Le.refl _ _,rfl,rfl⟩
def zAr (p:zO8):List S:=[.int .i64 p.1,.sl 1 ((List.map (irow .i64)) p.2.1),.int .i64 p.2.2.1,.int .i64 p.2.2.2.1,.sl 4 (Nd.encs p.2.2.2.2.1),.int .i64 p.2.2.2.2.2.1,.str p.2.2.2.2.2.2.1,.str p.2.2.2.2.2.2.2]
def zNn (n:Nat) (xs:List AV) (r:Ret):Prop:=∃ (a0:zO8) (y0:Bool),zDW n a0=some y0/\xs=[.agg ((zAr a0).map .s)]/\r = .val (.s (.bool y0))
def zIG:zAy:=zAx fun xs r=>∃ n,zNn n xs r
theorem zMk:PSound Tryz.prog 145 zIG:=by
 have gok:∀ f s,look? f [(176,zEa),(177,zGy)]=some s->PSound Tryz.prog f s:=zAv (by
  simp only[List.forall_mem_cons]
  exact⟨zFE,zJr,by simp⟩)
 refine zAz tokW Tryz.call145 Tryz.func145 rfl (fun xs r h=>by obtain⟨n,_,_,_,rfl,_⟩:=h; show 1<=80; decide) 80 rfl ?_;rintro xs r w0 G0 ⟨n,⟨a1A,a1N,a1I,a1M,a1H,a1L,a1O,a1B⟩,y0,h,rfl,rfl⟩ _;rw[zDW]at h;refine zAa ?_;refine zAb [] [] rfl ?_;show Tri ..;refine zAa ?_;obtain⟨x2,hj,h⟩:=zAc h;refine zAq ⟨ofL [(1,.s (.pt [.int .i64 a1A,.sl 1 ((List.map (irow .i64)) a1N),.int .i64 a1I,.int .i64 a1M,.sl 4 (Nd.encs a1H),.int .i64 a1L,.str a1O,.str a1B])),(3,.s (.bool x2))],fun _=>none,0⟩ ?_ (fun σ' hle=>?_)
 ·replace h:=hj;refine zAb [] [7] rfl ?_;intro b hb;cases b with
  | true =>
   replace h:=zAD hb.symm h;cases h;exact(Le.forget _ ⟨rfl,rfl,trivial⟩)
  | false =>
   replace h:=zAC hb.symm h;cases h;exact(Le.forget _ ⟨rfl,rfl,trivial⟩)
 ·show Tri ..;refine zAj hle ?_;refine zAa ?_;refine zAa ?_;refine zAb [] [] rfl ?_;show Tri ..;obtain⟨fl,hj,ho1⟩:=zAc h;refine zBA (fl:=fl) (fun z=>match z with | _=>⟨ofL [],fun _=>none,0⟩) ?_ (fun z σ' hz hle=>?_)
  ·replace h:=hj;refine zAk ?_;refine zAa ?_;refine zAa ?_;refine zAb [] [] rfl ?_;show Tri ..;obtain⟨x3,hj,h⟩:=zAc h;refine zAq ⟨ofL [(1,.s (.pt [.int .i64 a1A,.sl 1 ((List.map (irow .i64)) a1N),.int .i64 a1I,.int .i64 a1M,.sl 4 (Nd.encs a1H),.int .i64 a1L,.str a1O,.str a1B])),(3,.s (.bool x2)),(13,.s (.int .i64 a1A)),(14,.s (.bool x3))],fun _=>none,0⟩ ?_ (fun σ' hle=>?_)
   ·replace h:=hj;refine zAh rfl h (fun hb h=>?_) (fun hb h=>?_)
    ·refine zAf ?_;cases h;exact(Le.forget _ ⟨rfl,rfl,rfl,rfl,trivial⟩)
    ·refine zAb [] [] rfl ?_;cases h;exact(Le.forget _ ⟨rfl,rfl,rfl,rfl,trivial⟩)
   ·show Tri ..;refine zAj hle ?_;refine zAh rfl h (fun hb h=>?_) (fun hb h=>?_)
    ·refine zAa ?_;obtain⟨x4,hj,h⟩:=zAc h;refine zAq ⟨ofL [(2,.s (.bool x4))],fun _=>none,0⟩ ?_ (fun σ' hle=>?_)
     ·replace h:=hj;refine zAb [] [20,25,29,32,35] rfl ?_;intro b hb;cases b with
      | true =>
       replace h:=zAD hb.symm h;intro b hb;cases b with
       | true =>
        replace h:=zAD hb.symm h;intro b hb;cases b with
        | true =>
         replace h:=zAD hb.symm h;intro n5 hn5;obtain rfl:(a1H.length:Int)=n5:=(hn5.trans (congrArg (fun m:Nat=>(m:Int)) (rlen Nd.encs_eq a1H))).symm;intro b hb;cases b with
         | true =>
          replace h:=zAD hb.symm h;obtain⟨y6,hy6,h⟩:=zAc h;refine⟨_,⟨_,_,_,hy6,rfl,rfl⟩,?_⟩
          cases h;exact(Le.forget _ ⟨rfl,trivial⟩)
         | false =>
          replace h:=zAC hb.symm h;cases h;exact(Le.forget _ ⟨rfl,trivial⟩)
        | false =>
         replace h:=zAC hb.symm h;intro b hb;subst hb;cases h;exact(Le.forget _ ⟨rfl,trivial⟩)
       | false =>
        replace h:=zAC hb.symm h;intro b hb;subst hb;intro b hb;subst hb;cases h;exact(Le.forget _ ⟨rfl,trivial⟩)
      | false =>
       replace h:=zAC hb.symm h;intro b hb;subst hb;intro b hb;subst hb;intro b hb;subst hb;cases h;exact(Le.forget _ ⟨rfl,trivial⟩)
     ·show Tri ..;refine zAj hle ?_;refine zAd ?_;cases h;replace h:some _=some _:=ho1;have hy:=Option.some.inj h;subst hy;unfold zAt;exact⟨_,Le.refl _ _,rfl,rfl⟩
    ·refine zAa ?_;refine zAa ?_;refine zAb [] [] rfl ?_;show Tri ..;obtain⟨x7,hj,h⟩:=zAc h;refine zAq ⟨ofL [(1,.s (.pt [.int .i64 a1A,.sl 1 ((List.map (irow .i64)) a1N),.int .i64 a1I,.int .i64 a1M,.sl 4 (Nd.encs a1H),.int .i64 a1L,.str a1O,.str a1B])),(3,.s (.bool x2)),(13,.s (.int .i64 a1A)),(40,.s (.bool x7))],fun _=>none,0⟩ ?_ (fun σ' hle=>?_)
     ·replace h:=hj;refine zAh rfl h (fun hb h=>?_) (fun hb h=>?_)
      ·refine zAf ?_;cases h;exact(Le.forget _ ⟨rfl,rfl,rfl,rfl,trivial⟩)
      ·refine zAb [] [] rfl ?_;cases h;exact(Le.forget _ ⟨rfl,rfl,rfl,rfl,trivial⟩)
     ·show Tri ..;refine zAj hle ?_;refine zAh rfl h (fun hb h=>?_) (fun hb h=>?_)
      ·refine zAa ?_;obtain⟨x8,hj,h⟩:=zAc h;refine zAq ⟨ofL [(2,.s (.bool x8))],fun _=>none,0⟩ ?_ (fun σ' hle=>?_)
       ·replace h:=hj;refine zAb [] [46,50] rfl ?_;intro b hb;cases b with
        | true =>
         replace h:=zAD hb.symm h;intro b hb;cases b with
         | true =>
          replace h:=zAD hb.symm h;obtain⟨y9,hy9,h⟩:=zAc h;refine⟨_,⟨_,_,_,_,hy9,rfl,rfl⟩,?_⟩
          cases h;exact(Le.forget _ ⟨rfl,trivial⟩)
         | false =>
          replace h:=zAC hb.symm h;cases h;exact(Le.forget _ ⟨rfl,trivial⟩)
        | false =>
         replace h:=zAC hb.symm h;intro b hb;subst hb;cases h;exact(Le.forget _ ⟨rfl,trivial⟩)
       ·show Tri ..;refine zAj hle ?_;refine zAd ?_;cases h;replace h:some _=some _:=ho1;have hy:=Option.some.inj h;subst hy;unfold zAt;exact⟨_,Le.refl _ _,rfl,rfl⟩
      ·refine zAa ?_;refine zAb [] [] rfl ?_;show Tri ..;refine zAh rfl h (fun hb h=>?_) (fun hb h=>?_)
       ·refine zAa ?_;obtain⟨x10,hj,h⟩:=zAc h;refine zAq ⟨ofL [(2,.s (.bool x10))],fun _=>none,0⟩ ?_ (fun σ' hle=>?_)
        ·replace h:=hj;refine zAb [] [62,67,70,73] rfl ?_;intro b hb;cases b with
         | true =>
          replace h:=zAD hb.symm h;intro b hb;cases b with
          | true =>
           replace h:=zAD hb.symm h;intro n11 hn11;obtain rfl:(a1H.length:Int)=n11:=(hn11.trans (congrArg (fun m:Nat=>(m:Int)) (rlen Nd.encs_eq a1H))).symm;intro b hb;cases b with
           | true =>
            replace h:=zAD hb.symm h;cases h;exact(Le.forget _ ⟨rfl,trivial⟩)
           | false =>
            replace h:=zAC hb.symm h;cases h;exact(Le.forget _ ⟨rfl,trivial⟩)
          | false =>
           replace h:=zAC hb.symm h;intro b hb;subst hb;cases h;exact(Le.forget _ ⟨rfl,trivial⟩)
         | false =>
          replace h:=zAC hb.symm h;intro b hb;subst hb;intro b hb;subst hb;cases h;exact(Le.forget _ ⟨rfl,trivial⟩)
        ·show Tri ..;refine zAj hle ?_;refine zAd ?_;cases h;replace h:some _=some _:=ho1;have hy:=Option.some.inj h;subst hy;unfold zAt;exact⟨_,Le.refl _ _,rfl,rfl⟩
       ·refine zAf ?_;cases h;exact⟨_,rfl,(Le.forget _ trivial)⟩
  ·subst hz;obtain _:=z;replace h:=ho1;show Tri ..;refine zAj hle ?_;refine zAa ?_;refine zAb [] [] rfl ?_;show Tri ..;refine zAd ?_;have hy:=Option.some.inj h;subst hy;unfold zAt;exact⟨_,Le.refl _ _,rfl,rfl⟩
theorem zSO {P:Program}{f:Nat}{A B:List AV->Ret->Prop} (hA:PSound P f (zAx A)) (hB:PSound P f (zAx B)):PSound P f (zAx fun xs r=>A xs r∨B xs r) :=
 ⟨hA.1,fun G w xs vs r hl hg hp hv hs=>hs.elim (hA.2.1 G w xs vs r hl hg hp hv) (hB.2.1 G w xs vs r hl hg hp hv),fun R hR=>(by cases hR),fun R hR=>(by cases hR)⟩
theorem zQH {P:Program}{f:Nat}{A B:List AV->Ret->Prop} (hA:PSound P f (zAx A)) (h:∀ xs r,B xs r->A xs r):PSound P f (zAx B) :=
 ⟨hA.1,fun G w xs vs r hl hg hp hv hs=>hA.2.1 G w xs vs r hl hg hp hv (h xs r hs),fun R hR=>(by cases hR),fun R hR=>(by cases hR)⟩
def zHB (n:Nat) (xs:List AV) (r:Ret):Prop:=∃ (a0:(zO8×List Nd)) (y0:List Nd) (y1:Int),zA6 n a0=some (y0,y1)/\xs=[.agg ((zAm a0).map .s)]/\r = .val (.tup [.s (.sl 4 (Nd.encs y0)),.s (.int .i64 y1)])
def zEL:zAy:=zAx fun xs r=>∃ n,zHB n xs r
theorem zHd:PSound Tryz.prog 183 zEL :=
 zQH (zSO zFt zFs) fun xs r ⟨n,a,y,z,hm,hx,hr⟩=>by
  unfold zA6 at hm;split at hm
  ·rename_i q hq
   obtain rfl:=Option.some.inj hm;exact .inl ⟨a,y,z,hq,hx,hr⟩
  ·exact .inr ⟨n,a,y,z,hm,hx,hr⟩
def zH6 (n:Nat) (xs:List AV) (r:Ret):Prop:=∃ (a0:(zO8×List Nd)) (y0:List Nd) (y1:Int),zBO n a0=some (y0,y1)/\xs=[.agg ((zAm a0).map .s)]/\r = .val (.tup [.s (.sl 4 (Nd.encs y0)),.s (.int .i64 y1)])
def zE4:zAy:=zAx fun xs r=>∃ n,zH6 n xs r
theorem zHF:PSound Tryz.prog 147 zE4:=by
 have gok:∀ f s,look? f [(179,zEI),(180,zEJ),(181,zEK),(182,zFu),(183,zEL),(184,zF3)]=some s->PSound Tryz.prog f s:=zAv (by
  simp only[List.forall_mem_cons]
  exact⟨zHa,zHb,zHc,zIk,zHd,zIX,by simp⟩)
 refine zAz tokW Tryz.call147 Tryz.func147 rfl (fun xs r h=>by obtain⟨n,_,_,_,_,rfl,_⟩:=h; show 1<=41; decide) 41 rfl ?_;rintro xs r w0 G0 ⟨n,⟨⟨c1X,c1Ac,c1J,c1Y,c1P,c1Q,c1Ab,c1Aa⟩,c1K⟩,y0,y1,h,rfl,rfl⟩ _;rw[zBO]at h;refine zAa ?_;refine zAb [] [] rfl ?_;show Tri ..;refine zAa ?_;refine zAa ?_;refine zAb [] [] rfl ?_;obtain⟨y2,hy2,h⟩:=zAc h;refine⟨_,⟨_,_,hy2,rfl,rfl⟩,?_⟩
 show Tri ..;refine zAa ?_;refine zAb [] [] rfl ?_;show Tri ..;refine zAh rfl h (fun hb h=>?_) (fun hb h=>?_)
 ·refine zAa ?_;refine zAb [] [] rfl ?_;show Tri ..;refine zAd ?_;obtain⟨hj1,hk1⟩:=pij h;subst hj1 hk1;unfold zAt;exact⟨_,Le.refl _ _,rfl,rfl⟩
 ·refine zAf ?_;show Tri ..;refine zAa ?_;refine zAa ?_;refine zAb [] [] rfl ?_;show Tri ..;refine zAk ?_;refine zAa ?_;refine zAb [] [] rfl ?_;show Tri ..;refine zAh rfl h (fun hb h=>?_) (fun hb h=>?_)
  ·refine zAa ?_;refine zAb [] [] rfl ?_;obtain⟨⟨y3,y4⟩,hy3,h⟩:=zAc h;refine⟨_,⟨_,_,_,_,hy3,rfl,rfl⟩,?_⟩
   show Tri ..;refine zAd ?_;obtain⟨hj1,hk1⟩:=pij h;subst hj1 hk1;unfold zAt;exact⟨_,Le.refl _ _,rfl,rfl⟩
  ·refine zAa ?_;refine zAb [] [] rfl ?_;show Tri ..;refine zAh rfl h (fun hb h=>?_) (fun hb h=>?_)
   ·refine zAa ?_;refine zAb [] [] rfl ?_;obtain⟨⟨y5,y6⟩,hy5,h⟩:=zAc h;refine⟨_,⟨_,_,_,_,hy5,rfl,rfl⟩,?_⟩
    show Tri ..;refine zAd ?_;obtain⟨hj1,hk1⟩:=pij h;subst hj1 hk1;unfold zAt;exact⟨_,Le.refl _ _,rfl,rfl⟩
   ·refine zAa ?_;refine zAb [] [] rfl ?_;show Tri ..;refine zAh rfl h (fun hb h=>?_) (fun hb h=>?_)
    ·refine zAa ?_;refine zAb [] [] rfl ?_;obtain⟨⟨y7,y8⟩,hy7,h⟩:=zAc h;refine⟨_,⟨_,_,_,_,hy7,rfl,rfl⟩,?_⟩
     show Tri ..;refine zAd ?_;obtain⟨hj1,hk1⟩:=pij h;subst hj1 hk1;unfold zAt;exact⟨_,Le.refl _ _,rfl,rfl⟩
    ·refine zAa ?_;refine zAb [] [] rfl ?_;show Tri ..;refine zAh rfl h (fun hb h=>?_) (fun hb h=>?_)
     ·refine zAa ?_;refine zAb [] [] rfl ?_;obtain⟨⟨y9,y10⟩,hy9,h⟩:=zAc h;refine⟨_,⟨_,_,_,_,hy9,rfl,rfl⟩,?_⟩
      show Tri ..;refine zAd ?_;obtain⟨hj1,hk1⟩:=pij h;subst hj1 hk1;unfold zAt;exact⟨_,Le.refl _ _,rfl,rfl⟩
     ·refine zAf ?_;show Tri ..;refine zAa ?_;refine zAb [] [] rfl ?_;obtain⟨⟨y11,y12⟩,hy11,h⟩:=zAc h;refine⟨_,⟨_,_,_,_,hy11,rfl,rfl⟩,?_⟩
      show Tri ..;refine zAd ?_;obtain⟨hj1,hk1⟩:=pij h;subst hj1 hk1;unfold zAt;exact⟨_,Le.refl _ _,rfl,rfl⟩
def zOr (n:Nat) (xs:List AV) (r:Ret):Prop:=∃ (a0:Nd) (a1:zO8) (y0:Nd) (y1:Int),zDN n a0 a1=some (y0,y1)/\xs=[.agg ((Nd.enc a0).map .s),.agg ((zAr a1).map .s)]/\r = .val (.tup [.agg ((Nd.enc y0).map .s),.s (.int .i64 y1)])
def zJF:zAy:=zAx fun xs r=>∃ n,zOr n xs r
theorem zNS:PSound Tryz.prog 111 zJF:=by
 have gok:∀ f s,look? f [(73,zCp),(145,zIG),(146,zMC),(147,zE4),(148,zKH)]=some s->PSound Tryz.prog f s:=zAv (by
  simp only[List.forall_mem_cons]
  exact⟨zCC,zMk,zQz,zHF,zPt,by simp⟩)
 refine zAz tokW Tryz.call111 Tryz.func111 rfl (fun xs r h=>by obtain⟨n,_,_,_,_,_,rfl,_⟩:=h; show 2<=53; decide) 53 rfl ?_;rintro xs r w0 G0 ⟨n,⟨n1A,n1B,n1D,n1C⟩,⟨op2A,op2N,op2I,op2M,op2H,op2L,op2O,op2B⟩,y0,y1,h,rfl,rfl⟩ _;rw[zDN]at h;refine zAa ?_;refine zAb [4] [] rfl ?_;show Tri ..;refine zAa ?_;refine zAa ?_;refine zAb [] [] rfl ?_;obtain⟨y3,hy3,h⟩:=zAc h;refine⟨_,⟨_,_,_,hy3,rfl,rfl⟩,?_⟩
 show Tri ..;refine zAh rfl h (fun hb h=>?_) (fun hb h=>?_)
 ·refine zAa ?_;refine zAb [] [] rfl ?_;show Tri ..;refine zAd ?_;obtain⟨hj1,hk1⟩:=pij h;subst hj1 hk1;unfold zAt;exact⟨_,Le.refl _ _,rfl,rfl⟩
 ·refine zAf ?_;show Tri ..;refine zAa ?_;refine zAa ?_;refine zAb [] [] rfl ?_;obtain⟨y4,hy4,h⟩:=zAc h;refine⟨_,⟨_,_,_,hy4,rfl,rfl⟩,?_⟩
  show Tri ..;refine zAh rfl h (fun hb h=>?_) (fun hb h=>?_)
  ·refine zAa ?_;refine zAb [] [] rfl ?_;show Tri ..;refine zAd ?_;obtain⟨hj1,hk1⟩:=pij h;subst hj1 hk1;unfold zAt;exact⟨_,Le.refl _ _,rfl,rfl⟩
  ·refine zAf ?_;show Tri ..;refine zAa ?_;refine zAb [6] [] rfl ?_;obtain⟨⟨⟨y5A,y5B,y5D,y5C⟩,y6⟩,hy5,h⟩:=zAc h;refine⟨_,⟨_,_,_,_,_,hy5,rfl,rfl⟩,?_⟩
   show Tri ..;refine zAa ?_;refine zAa ?_;refine zAb [] [] rfl ?_;show Tri ..;refine zAh rfl h (fun hb h=>?_) (fun hb h=>?_)
   ·refine zAa ?_;refine zAb [] [] rfl ?_;show Tri ..;refine zAd ?_;obtain⟨hj1,hk1⟩:=pij h;subst hj1 hk1;unfold zAt;exact⟨_,Le.refl _ _,rfl,rfl⟩
   ·refine zAf ?_;show Tri ..;refine zAa ?_;refine zAb [] [] rfl ?_;obtain⟨⟨y7,y8⟩,hy7,h⟩:=zAc h;refine⟨_,⟨_,_,_,_,hy7,rfl,rfl⟩,?_⟩
    show Tri ..;refine zAa ?_;refine zAa ?_;refine zAb [] [] rfl ?_;show Tri ..;refine zAh rfl h (fun hb h=>?_) (fun hb h=>?_)
    ·refine zAa ?_;refine zAb [] [] rfl ?_;show Tri ..;refine zAd ?_;obtain⟨hj1,hk1⟩:=pij h;subst hj1 hk1;unfold zAt;exact⟨_,Le.refl _ _,rfl,rfl⟩
    ·refine zAf ?_;show Tri ..;refine zAa ?_;refine zAb [8] [] rfl ?_;obtain⟨⟨⟨y9A,y9B,y9D,y9C⟩,y10⟩,hy9,h⟩:=zAc h;refine⟨_,⟨_,_,_,_,_,_,hy9,rfl,rfl⟩,?_⟩
     show Tri ..;refine zAj (Le.giveBox 2 [.int .i64 y9A,.str y9B,.int .i64 y9D,.sl 4 (Nd.encs y9C)] rfl rfl) ?_;refine zAa ?_;refine zAa ?_;refine zAb [] [] rfl ?_;show Tri ..;refine zAh rfl h (fun hb h=>?_) (fun hb h=>?_)
     ·refine zAa ?_;refine zAb [] [] rfl ?_;show Tri ..;refine zAd ?_;obtain⟨hj1,hk1⟩:=pij h;subst hj1 hk1;unfold zAt;exact⟨_,Le.refl _ _,rfl,rfl⟩
     ·refine zAf ?_;show Tri ..;refine zAa ?_;refine zAb [] [] rfl ?_;show Tri ..;refine zAd ?_;obtain⟨hj1,hk1⟩:=pij h;subst hj1 hk1;unfold zAt;exact⟨_,Le.refl _ _,rfl,rfl⟩
def zKA (n:Nat) (xs:List AV) (r:Ret):Prop:=∃ (a0:Nd) (a1:List zO8) (y0:Nd) (y1:Int) (y2:Int),zBu n a0 a1=some (y0,y1,y2)/\xs=[.agg ((Nd.enc a0).map .s),.s (.sl 8 ((List.map zAr) a1))]/\r = .val (.tup [.agg ((Nd.enc y0).map .s),.s (.int .i64 y1),.s (.int .i64 y2)])
def zGP:zAy:=zAx fun xs r=>∃ n,zKA n xs r
theorem zKi:PSound Tryz.prog 74 zGP:=by
 have gok:∀ f s,look? f [(73,zCp),(53,zE2),(111,zJF)]=some s->PSound Tryz.prog f s:=zAv (by
  simp only[List.forall_mem_cons]
  exact⟨zCC,zFD,zNS,by simp⟩)
 refine zAz tokW Tryz.call74 Tryz.func74 rfl (fun xs r h=>by obtain⟨n,_,_,_,_,_,_,rfl,_⟩:=h; show 2<=39; decide) 39 rfl ?_;rintro xs r w0 G0 ⟨n,⟨n1A,n1B,n1D,n1C⟩,ops2,y0,y1,y2,h,rfl,rfl⟩ _;rw[zBu]at h;refine zAa ?_;refine zAb [4] [] rfl ?_;show Tri ..;refine zAa ?_;refine zAa ?_;refine zAb [] [] rfl ?_;obtain⟨y3,hy3,h⟩:=zAc h;refine⟨_,⟨_,_,_,hy3,rfl,rfl⟩,?_⟩
 show Tri ..;refine zAh rfl h (fun hb h=>?_) (fun hb h=>?_)
 ·refine zAa ?_;refine zAb [] [] rfl ?_;show Tri ..;refine zAd ?_;obtain⟨hj1,hk1⟩:=pij h;subst hj1;obtain⟨hj2,hk2⟩:=Prod.mk.inj hk1;subst hj2;subst hk2;unfold zAt;exact⟨_,Le.refl _ _,rfl,rfl⟩
 ·refine zAf ?_;show Tri ..;refine zAa ?_;refine zAb [7] [] rfl ?_;obtain⟨⟨y4A,y4B,y4D,y4C⟩,hy4,h⟩:=zAc h;refine⟨_,⟨_,_,hy4,rfl,rfl⟩,?_⟩
  show Tri ..;refine zAa ?_;refine zAa ?_;refine zAb [] [19] rfl ?_;intro n5 hn5;obtain rfl:(ops2.length:Int)=n5:=(hn5.trans (congrArg (fun m:Nat=>(m:Int)) (rlen (fun _=>rfl) ops2))).symm;show Tri ..;obtain⟨fl,hl,ho1⟩:=zAc h;refine zBA (fl:=fl) (fun z=>match z with | ⟨x12,x13,x14,x15⟩=>⟨ofL [(4,.op 0 0),(7,.op 1 0)],ofH [(0,.box 24 [.s (.int .i64 0),.s (.str []),.s (.int .i64 0),.nl 4]),(1,.box 24 [.s (.int .i64 x12),.s (.str x13),.s (.int .i64 x14),.s (.sl 4 (Nd.encs x15))])],2⟩) ?_ (fun z σ' hz hle=>?_)
  ·refine zAk (zAG (X:=Nat×Int×(List UInt8)×Int×(List Nd)×Int) (fun y=>match y with | (k,x7,x8,x9,x10,x11)=>⟨ofL [(4,.op 0 0),(7,.op 1 0),(18,.s (.sl 8 ((List.map zAr) ops2))),(19,.s (.int .i64 (ops2.length:Int))),(20,.s (.int .i64 x11))],ofH [(0,.box 24 [.s (.int .i64 0),.s (.str []),.s (.int .i64 0),.nl 4]),(1,.box 24 [.s (.int .i64 x7),.s (.str x8),.s (.int .i64 x9),.s (.sl 4 (Nd.encs x10))])],2⟩) (fun y=>zA0 n ops2 y.1 y.2.1 y.2.2.1 y.2.2.2.1 y.2.2.2.2.1 y.2.2.2.2.2=some fl) (fun y=>y.1) (n,y4A,y4B,y4D,y4C,0) hl ?_ ?_)
   ·exact(Le.rnm [(0,0),(1,1)] _ _ _ ⟨rfl,rfl,rfl,rfl,rfl,trivial⟩ ⟨rfl,⟨_,rfl,rfl⟩,rfl,⟨_,rfl,rfl⟩,trivial⟩)
   ·rintro⟨k,x7,x8,x9,x10,x11⟩ h;cases k with
    | zero=>cases h
    | succ k =>
     replace h:zA0 n ops2 (k+1) x7 x8 x9 x10 x11=some fl:=h;rw[zA0]at h;refine zAa ?_;refine zAb [] [] rfl ?_;show Tri ..;refine zAa ?_;refine zAh rfl h (fun hb h=>?_) (fun hb h=>?_)
     ·refine zAf ?_;show Tri ..;refine zAa ?_;refine zAk ?_;refine zAa ?_;refine zAb [9] [23] rfl ?_;obtain⟨⟨e16A,e16N,e16I,e16M,e16H,e16L,e16O,e16B⟩,he16,h⟩:=zAc h;refine And.intro (zAB (fun _=>rfl) he16).1 ?_;intro r17 hr17;obtain rfl:[.int .i64 e16A,.sl 1 ((List.map (irow .i64)) e16N),.int .i64 e16I,.int .i64 e16M,.sl 4 (Nd.encs e16H),.int .i64 e16L,.str e16O,.str e16B]=r17:=(hr17.trans (zAB (fun _=>rfl) he16).2.1).symm;show Tri ..
      refine zAj (Le.giveBox 2 [.int .i64 e16A,.sl 1 ((List.map (irow .i64)) e16N),.int .i64 e16I,.int .i64 e16M,.sl 4 (Nd.encs e16H),.int .i64 e16L,.str e16O,.str e16B] rfl rfl) ?_;refine zAa ?_;refine zAb [10] [] rfl ?_;obtain⟨⟨⟨y18A,y18B,y18D,y18C⟩,y19⟩,hy18,h⟩:=zAc h;refine⟨_,⟨_,_,_,_,_,hy18,rfl,rfl⟩,?_⟩
      show Tri ..;refine zAj (Le.giveBox 3 [.int .i64 y18A,.str y18B,.int .i64 y18D,.sl 4 (Nd.encs y18C)] rfl rfl) ?_;refine zAa ?_;refine zAa ?_;refine zAb [] [] rfl ?_;show Tri ..;refine zAh rfl h (fun hb h=>?_) (fun hb h=>?_)
      ·refine zAa ?_;refine zAb [] [] rfl ?_;show Tri ..;refine zAd ?_;cases h;replace h:some _=some _:=ho1;obtain⟨hj1,hk1⟩:=pij h;subst hj1;obtain⟨hj2,hk2⟩:=Prod.mk.inj hk1;subst hj2;subst hk2;unfold zAt;exact⟨_,Le.refl _ _,rfl,rfl⟩
      ·refine zAf ?_;show Tri ..;refine zAb [] [] rfl ?_;show Tri ..;refine zAb [] [] rfl ?_;refine⟨(k,y18A,y18B,y18D,y18C,IntKind.i64.wrap (x11+1)),h,(Le.rnm [(0,0),(1,1)] _ _ _ ⟨rfl,rfl,rfl,rfl,rfl,trivial⟩ ⟨rfl,⟨_,rfl,rfl⟩,rfl,⟨_,rfl,rfl⟩,trivial⟩),Nat.lt_succ_self k⟩
     ·refine zAI ?_;cases h;exact⟨_,rfl,(Le.rnm [(0,0),(1,1)] _ _ _ ⟨rfl,rfl,trivial⟩ ⟨rfl,⟨_,rfl,rfl⟩,rfl,⟨_,rfl,rfl⟩,trivial⟩)⟩
  ·subst hz;obtain⟨x12,x13,x14,x15⟩:=z;replace h:=ho1;show Tri ..;refine zAj hle ?_;refine zAa ?_;refine zAb [] [] rfl ?_;show Tri ..;refine zAd ?_;obtain⟨hj1,hk1⟩:=pij h;subst hj1;obtain⟨hj2,hk2⟩:=Prod.mk.inj hk1;subst hj2;subst hk2;unfold zAt;exact⟨_,Le.refl _ _,rfl,rfl⟩
end Go.Proofs.YtgplhldfbkmmgaaGreat
namespace Go.Abs
variable {c:Cx} {σ:St}
theorem Le.ofA (k:Nat){e sz:Nat}{rows:List (List AV)} (rs:List (List S)) (hk:σ.hp k=some (.arow e sz rows)) (hs:zGk rows=some rs):Le c σ (zEG σ k (.row e sz rs)):=by
 unfold Le;intro G β a w hc;obtain⟨s1,s2,s3⟩:=zNc hs;have hget:∀ {j o},(zEG σ k (.row e sz rs)).hp j=some o->(j=k/\o = .row e sz rs)∨(j ≠ k/\σ.hp j=some o):=fun {j o} h=>by
  simp only[zEG]at h;cases hq:Nat.beq j k with
  | true=>rw[hq,cond_true]at h; cases h; exact .inl ⟨Nat.eq_of_beq_eq_true hq,rfl⟩
  | false=>rw[hq,cond_false]at h; exact .inr ⟨Nat.ne_of_beq_eq_false hq,h⟩
 have hget':∀ {j o},(zEG σ k (.row e sz rs)).hp j=some o->∃ o',σ.hp j=some o':=fun {j o} h=>by
  rcases hget h with ⟨rfl,_⟩ | ⟨_,h⟩
  ·exact⟨_,hk⟩
  ·exact⟨_,h⟩
 refine⟨G,β,{ hc with hp:=fun j o hj=>?_,hplt:=fun j o hj=>?_,inj:=fun j j' o o' hj hj'=>(let ⟨_,h1⟩:=hget' hj; let ⟨_,h2⟩:=hget' hj'; hc.inj j j' _ _ h1 h2) }⟩
 ·rcases hget hj with ⟨rfl,rfl⟩ | ⟨_,h⟩
  ·obtain⟨hlen,hsz,ho⟩:=hc.hp j _ hk;refine⟨fun r hr=>s3 sz hlen r hr,hsz,ho.imp (fun h=>⟨h.1,by have:=h.2; subst this; exact List.length_eq_zero_iff.1 (by simpa using s2.symm)⟩) ?_⟩
   rintro⟨b,cap,cur,h1,h2,h3,h4,h5,h6,h7⟩
   refine⟨b,cap,cur,by rw[← s2]; exact h1,by rw[← s2]; exact h2,h3,h4,h5,h6,fun i s hi=>?_⟩
   have hm:(rows.flatten.map AV.sc)[i]? = some (some s) :=(by rw[s1,List.getElem?_map,hi]; rfl);rw[List.getElem?_map]at hm;obtain⟨x,hx,hxs⟩:=Option.map_eq_some_iff.1 hm;obtain⟨u,hu,hr,_⟩:=h7 i x hx;exact⟨u,hu,AV.sc_rep hxs hr⟩
  ·exact hc.hp j o h
 ·rcases hget hj with ⟨rfl,rfl⟩ | ⟨_,h⟩
  ·exact⟨(hc.hplt j _ hk).1,rfl⟩
  ·exact hc.hplt j o h
theorem zS6:∀ r:List S,zJA (r.map AV.s)=some r
 | []=>rfl
 | x::r=>by simp[zJA,AV.sc,zS6 r]
theorem zRs:∀ rows:List (List S),zGk (rows.map (·.map AV.s))=some rows
 | []=>rfl
 | r::rows=>by simp[zGk,zS6 r,zRs rows]
theorem zI8:∀ {a b:List (List AV)}{x y:List (List S)},zGk a=some x->zGk b=some y->zGk (a++b)=some (x++y)
 | [],b,x,y,h,h'=>by
  simp only[zGk,Option.some.injEq]at h;subst h;exact h'
 | r::a,b,x,y,h,h'=>by
  simp only[zGk]at h;split at h
  ·rename_i z zs h1 h2
   cases h;simp[zGk,h1,zI8 h2 h']
  ·cases h
theorem zQ7 {k:Nat}{r:AV}{p:Nat->AV}:∀ l:List S,AV.frzAll k r p (l.map AV.s)=l.map AV.s
 | []=>rfl
 | x::l=>by simp[AV.frzAll,AV.frz,zQ7 l]
theorem zRI {k:Nat}{r:AV}{p:Nat->AV} (rows:List (List S)):(rows.map (·.map AV.s)).map (AV.frzAll k r p)=rows.map (·.map AV.s):=by
 rw[List.map_map]
 exact List.map_congr_left fun l _=>zQ7 l
end Go.Abs
namespace Go.Proofs.YtgplhldfbkmmgaaGreat
open Go.Abs
def zKC (xs:List AV) (os:List Ob) (x:AV) (os':List (Option Ob)):Prop:=∃ (y0:CV),zCl=some y0/\xs=[.orow 0]/\os=[.row 68 4 []]/\x = .agg (match y0 with | .mk k i t _=>[.s (.int .i64 k),.s (.int .i64 i),.s (.str t),.orow 1])/\os'=[none,some (.row 68 4 (match y0 with | .mk _ _ _ l=>CV.encs l))]
def zCU:zAy:=zEj (fun xs os x os'=>zKC xs os x os') (some 0)
theorem zDy:PSound Tryz.prog 58 zCU:=by
 have gok:=@gok0 Tryz.prog;refine PSound.withNil (zPG tokW Tryz.call58 Tryz.func58 rfl (fun xs os x os' h=>by obtain⟨_,_,rfl,rfl,_,rfl⟩:=h; exact⟨by show 1<=5; decide,by show 1<=2; decide⟩) 5 rfl ?_) _;rintro xs os x os' w0 G0 B0 ⟨y0,h,rfl,rfl,rfl,rfl⟩ _;rw[zCl]at h;cases h;refine zAa ?_;refine zAb [2] [] rfl ?_;show Tri ..;refine zAa ?_;refine zAb [] [] rfl ?_;show Tri ..;refine zAd ?_;unfold zEH
 exact⟨_,(Le.rnm [(0,1),(1,2)] [(2,.op 2 0)] [(1,.row 68 4 []),(2,.box 68 [.s (.int .i64 3),.s (.int .i64 0),.s (.str []),.orow 1])] 3 ⟨rfl,trivial⟩ ⟨rfl,⟨_,rfl,rfl⟩,rfl,⟨_,rfl,rfl⟩,trivial⟩),rfl,rfl,rfl,rfl,trivial⟩
def zDS (n:Nat) (xs:List AV) (r:Ret):Prop:=∃ (a0:CV) (a1:Int) (y0:Bool),zDb n a0 a1=some y0/\xs=[.s (.pt (CV.enc a0)),.s (.int .i64 a1)]/\r = .val (.s (.bool y0))
theorem zKp (n:Nat) (ih:PSound Tryz.prog 99 (zAx (zDS n))):PSound Tryz.prog 99 (zAx (zDS (n+1))):=by
 have gok:∀ f s,look? f [(99,zAx (zDS n))]=some s->PSound Tryz.prog f s:=zAv (by
  simp only[List.forall_mem_cons]
  exact⟨ih,by simp⟩)
 refine zAz tokW Tryz.call99 Tryz.func99 rfl (fun xs r h=>by obtain⟨_,_,_,_,rfl,_⟩:=h; show 2<=75; decide) 75 rfl ?_;rintro xs r w0 G0 ⟨⟨a1A,a1F,a1B,a1E⟩,a2,y0,h,rfl,rfl⟩ _;rw[zDb]at h;refine zAa ?_;refine zAb [] [] rfl ?_;show Tri ..;refine zAa ?_;refine zAa ?_;refine zAb [] [] rfl ?_;show Tri ..;refine zAh rfl h (fun hb h=>?_) (fun hb h=>?_)
 ·refine zAa ?_;refine zAb [] [] rfl ?_;show Tri ..;refine zAd ?_;have hy:=Option.some.inj h;subst hy;unfold zAt;exact⟨_,Le.refl _ _,rfl,rfl⟩
 ·refine zAf ?_;show Tri ..;refine zAa ?_;refine zAa ?_;refine zAb [] [] rfl ?_;show Tri ..;refine zAk ?_;refine zAa ?_;refine zAb [] [] rfl ?_;show Tri ..;refine zAh rfl h (fun hb h=>?_) (fun hb h=>?_)
  ·refine zAa ?_;obtain⟨x3,hj,h⟩:=zAc h;refine zAq ⟨ofL [(4,.s (.bool x3))],fun _=>none,0⟩ ?_ (fun σ' hle=>?_)
   ·replace h:=hj;refine zAb [] [19,24] rfl ?_;intro b hb;cases b with
    | true =>
     replace h:=zAD hb.symm h;intro n4 hn4;obtain rfl:(a1E.length:Int)=n4:=(hn4.trans (congrArg (fun m:Nat=>(m:Int)) (rlen CV.encs_eq a1E))).symm;cases h;exact(Le.forget _ ⟨rfl,trivial⟩)
    | false =>
     replace h:=zAC hb.symm h;cases h;exact(Le.forget _ ⟨rfl,trivial⟩)
   ·show Tri ..;refine zAj hle ?_;refine zAd ?_;have hy:=Option.some.inj h;subst hy;unfold zAt;exact⟨_,Le.refl _ _,rfl,rfl⟩
  ·refine zAa ?_;refine zAb [] [] rfl ?_;show Tri ..;refine zAh rfl h (fun hb h=>?_) (fun hb h=>?_)
   ·refine zAa ?_;obtain⟨x5,hj,h⟩:=zAc h;refine zAq ⟨ofL [(4,.s (.bool x5))],fun _=>none,0⟩ ?_ (fun σ' hle=>?_)
    ·replace h:=hj;refine zAb [] [34,39] rfl ?_;intro b hb;cases b with
     | true =>
      replace h:=zAD hb.symm h;intro n6 hn6;obtain rfl:(a1E.length:Int)=n6:=(hn6.trans (congrArg (fun m:Nat=>(m:Int)) (rlen CV.encs_eq a1E))).symm;cases h;exact(Le.forget _ ⟨rfl,trivial⟩)
     | false =>
      replace h:=zAC hb.symm h;cases h;exact(Le.forget _ ⟨rfl,trivial⟩)
    ·show Tri ..;refine zAj hle ?_;refine zAd ?_;have hy:=Option.some.inj h;subst hy;unfold zAt;exact⟨_,Le.refl _ _,rfl,rfl⟩
   ·refine zAa ?_;refine zAb [] [] rfl ?_;show Tri ..;refine zAh rfl h (fun hb h=>?_) (fun hb h=>?_)
    ·refine zAa ?_;refine zAa ?_;obtain⟨x7,hj,h⟩:=zAc h;refine zAq ⟨ofL [(0,.s (.pt [.int .i64 a1A,.int .i64 a1F,.str a1B,.sl 4 (CV.encs a1E)])),(1,.s (.int .i64 a2)),(55,.s (.bool x7))],fun _=>none,0⟩ ?_ (fun σ' hle=>?_)
     ·replace h:=hj;refine zAb [] [49] rfl ?_;intro b hb;cases b with
      | true =>
       replace h:=zAD hb.symm h;cases h;exact(Le.forget _ ⟨rfl,rfl,rfl,trivial⟩)
      | false =>
       replace h:=zAC hb.symm h;cases h;exact(Le.forget _ ⟨rfl,rfl,rfl,trivial⟩)
     ·show Tri ..;refine zAj hle ?_;refine zAh rfl h (fun hb h=>?_) (fun hb h=>?_)
      ·refine zAa ?_;refine zAb [] [] rfl ?_;show Tri ..;refine zAd ?_;have hy:=Option.some.inj h;subst hy;unfold zAt;exact⟨_,Le.refl _ _,rfl,rfl⟩
      ·refine zAf ?_;show Tri ..;refine zAa ?_;refine zAa ?_;refine zAb [] [60] rfl ?_;intro n8 hn8;obtain rfl:(a1E.length:Int)=n8:=(hn8.trans (congrArg (fun m:Nat=>(m:Int)) (rlen CV.encs_eq a1E))).symm;show Tri ..;obtain⟨fl,hl,ho1⟩:=zAc h;refine zBA (fl:=fl) (fun z=>match z with | _=>⟨ofL [],fun _=>none,0⟩) ?_ (fun z σ' hz hle=>?_)
       ·refine zAk (zAG (X:=Nat×Int) (fun y=>match y with | (k,x9)=>⟨ofL [(0,.s (.pt [.int .i64 a1A,.int .i64 a1F,.str a1B,.sl 4 (CV.encs a1E)])),(1,.s (.int .i64 a2)),(60,.s (.int .i64 (a1E.length:Int))),(61,.s (.int .i64 x9))],fun _=>none,0⟩) (fun y=>zCF (zDb n) a1E a2 y.1 y.2=some fl) (fun y=>y.1) (n,0) hl ?_ ?_)
        ·exact(Le.forget _ ⟨rfl,rfl,rfl,rfl,trivial⟩)
        ·rintro⟨k,x9⟩ h;cases k with
         | zero=>cases h
         | succ k =>
          replace h:zCF (zDb n) a1E a2 (k+1) x9=some fl:=h;rw[zCF]at h;refine zAa ?_;refine zAb [] [] rfl ?_;show Tri ..;refine zAa ?_;refine zAh rfl h (fun hb h=>?_) (fun hb h=>?_)
          ·refine zAf ?_;show Tri ..;refine zAa ?_;refine zAk ?_;refine zAa ?_;refine zAb [] [] rfl ?_;show Tri ..;refine zAa ?_;refine zAb [] [69] rfl ?_;obtain⟨⟨e10A,e10F,e10B,e10E⟩,he10,h⟩:=zAc h;refine And.intro (zAB CV.encs_eq he10).1 ?_;intro r11 hr11;obtain rfl:[.int .i64 e10A,.int .i64 e10F,.str e10B,.sl 4 (CV.encs e10E)]=r11:=(hr11.trans (zAB CV.encs_eq he10).2.1).symm;obtain⟨y12,hy12,h⟩:=zAc h;refine⟨_,⟨_,_,_,hy12,rfl,rfl⟩,?_⟩
           show Tri ..;refine zAh rfl h (fun hb h=>?_) (fun hb h=>?_)
           ·refine zAa ?_;refine zAb [] [] rfl ?_;show Tri ..;refine zAd ?_;cases h;replace h:some _=some _:=ho1;have hy:=Option.some.inj h;subst hy;unfold zAt;exact⟨_,Le.refl _ _,rfl,rfl⟩
           ·refine zAf ?_;show Tri ..;refine zAb [] [] rfl ?_;refine⟨(k,IntKind.i64.wrap (x9+1)),h,(Le.forget _ ⟨rfl,rfl,rfl,rfl,trivial⟩),Nat.lt_succ_self k⟩
          ·refine zAI ?_;cases h;exact⟨_,rfl,(Le.forget _ trivial)⟩
       ·subst hz;obtain _:=z;replace h:=ho1;show Tri ..;refine zAj hle ?_;refine zAa ?_;refine zAb [] [] rfl ?_;show Tri ..;refine zAd ?_;have hy:=Option.some.inj h;subst hy;unfold zAt;exact⟨_,Le.refl _ _,rfl,rfl⟩
    ·refine zAf ?_;show Tri ..;refine zAa ?_;refine zAb [] [] rfl ?_;show Tri ..;refine zAd ?_;have hy:=Option.some.inj h;subst hy;unfold zAt;exact⟨_,Le.refl _ _,rfl,rfl⟩
theorem zKT:∀ n,PSound Tryz.prog 99 (zAx (zDS n)):=by
 intro n
 induction n with
 | zero=>exact zBq Tryz.call99 (fun xs r h=>by obtain⟨_,_,_,h,_⟩:=h; cases h)
 | succ n ih=>exact zKp n ih
def zIF:zAy:=zAx fun xs r=>∃ n,zDS n xs r
theorem zMj:PSound Tryz.prog 99 zIF:=zBM zKT
def zNm (n:Nat) (xs:List AV) (r:Ret):Prop:=∃ (a0:CV) (y0:Bool),zGs n a0=some y0/\xs=[.agg ((CV.enc a0).map .s)]/\r = .val (.s (.bool y0))
def zIE:zAy:=zAx fun xs r=>∃ n,zNm n xs r
theorem zMi:PSound Tryz.prog 56 zIE:=by
 have gok:∀ f s,look? f [(99,zIF)]=some s->PSound Tryz.prog f s:=zAv (by
  simp only[List.forall_mem_cons]
  exact⟨zMj,by simp⟩)
 refine zAz tokW Tryz.call56 Tryz.func56 rfl (fun xs r h=>by obtain⟨n,_,_,_,rfl,_⟩:=h; show 1<=4; decide) 4 rfl ?_;rintro xs r w0 G0 ⟨n,⟨v1A,v1F,v1B,v1E⟩,y0,h,rfl,rfl⟩ _;rw[zGs]at h;refine zAa ?_;refine zAb [] [] rfl ?_;show Tri ..;refine zAa ?_;refine zAb [] [] rfl ?_;obtain⟨y2,hy2,h⟩:=zAc h;refine⟨_,⟨_,_,_,_,hy2,rfl,rfl⟩,?_⟩
 show Tri ..;refine zAd ?_;have hy:=Option.some.inj h;subst hy;unfold zAt;exact⟨_,Le.refl _ _,rfl,rfl⟩
def zLX (xs:List AV) (r:Ret):Prop:=∃ (a0:CV) (y0:Int),zFT a0=some y0/\xs=[.s (.pt (CV.enc a0))]/\r = .val (.s (.int .u64 y0))
def zHN:zAy:=zAx fun xs r=>zLX xs r
theorem zLj:PSound Tryz.prog 135 zHN:=by
 have gok:=@gok0 Tryz.prog;refine zAz tokW Tryz.call135 Tryz.func135 rfl (fun xs r h=>by obtain⟨_,_,_,rfl,_⟩:=h; show 1<=48; decide) 48 rfl ?_;rintro xs r w0 G0 ⟨⟨v1A,v1F,v1B,v1E⟩,y0,h,rfl,rfl⟩ _;rw[zFT]at h;refine zAa ?_;refine zAb [] [] rfl ?_;show Tri ..;refine zAa ?_;refine zAk ?_;refine zAa ?_;refine zAb [] [] rfl ?_;show Tri ..;refine zAh rfl h (fun hb h=>?_) (fun hb h=>?_)
 ·refine zAa ?_;refine zAb [] [] rfl ?_;show Tri ..;refine zAd ?_;have hy:=Option.some.inj h;subst hy;unfold zAt;exact⟨_,Le.refl _ _,rfl,rfl⟩
 ·refine zAa ?_;refine zAb [] [] rfl ?_;show Tri ..;refine zAh rfl h (fun hb h=>?_) (fun hb h=>?_)
  ·refine zAa ?_;refine zAb [] [25] rfl ?_;intro n2 hn2;obtain rfl:(v1E.length:Int)=n2:=(hn2.trans (congrArg (fun m:Nat=>(m:Int)) (rlen CV.encs_eq v1E))).symm;show Tri ..;refine zAd ?_;have hy:=Option.some.inj h;subst hy;unfold zAt;exact⟨_,Le.refl _ _,rfl,rfl⟩
  ·refine zAa ?_;refine zAb [] [] rfl ?_;show Tri ..;refine zAh rfl h (fun hb h=>?_) (fun hb h=>?_)
   ·refine zAa ?_;refine zAb [] [] rfl ?_;show Tri ..;refine zAd ?_;have hy:=Option.some.inj h;subst hy;unfold zAt;exact⟨_,Le.refl _ _,rfl,rfl⟩
   ·refine zAf ?_;show Tri ..;refine zAa ?_;refine zAb [] [] rfl ?_;show Tri ..;refine zAd ?_;have hy:=Option.some.inj h;subst hy;unfold zAt;exact⟨_,Le.refl _ _,rfl,rfl⟩
def zKx (n:Nat) (xs:List AV) (r:Ret):Prop:=∃ (a0:Int) (y0:Int),zFj n a0=some y0/\xs=[.s (.int .u64 a0)]/\r = .val (.s (.int .i64 y0))
def zGN:zAy:=zAx fun xs r=>∃ n,zKx n xs r
theorem zKg:PSound Tryz.prog 136 zGN:=by
 have gok:=@gok0 Tryz.prog;refine zAz tokW Tryz.call136 Tryz.func136 rfl (fun xs r h=>by obtain⟨n,_,_,_,rfl,_⟩:=h; show 1<=13; decide) 13 rfl ?_;rintro xs r w0 G0 ⟨n,n1,y0,h,rfl,rfl⟩ _;rw[zFj]at h;refine zAa ?_;refine zAb [] [] rfl ?_;show Tri ..;refine zAa ?_;refine zAb [] [] rfl ?_;show Tri ..;refine zAa ?_;refine zAa ?_;refine zAb [] [] rfl ?_;refine And.intro (by decide) ?_;show Tri ..;obtain⟨k4,hl,h⟩:=zAc h;refine zAq ⟨ofL [(3,.s (.int .i64 k4))],fun _=>none,0⟩ ?_ (fun σ' hle=>?_)
 ·refine zAk (zAG (X:=Nat×Int×Int) (fun y=>match y with | (k,n2,k3)=>⟨ofL [(0,.s (.int .u64 n2)),(3,.s (.int .i64 k3))],fun _=>none,0⟩) (fun y=>zB1  y.1 y.2.1 y.2.2=some k4) (fun y=>y.1) (n,n1.fdiv (2 ^ (min (8:Int).toNat IntKind.u64.bits)),1) hl ?_ ?_)
  ·exact(Le.forget _ ⟨rfl,rfl,trivial⟩)
  ·rintro⟨k,n2,k3⟩ h;cases k with
   | zero=>cases h
   | succ k =>
    replace h:zB1  (k+1) n2 k3=some k4:=h;rw[zB1]at h;refine zAa ?_;refine zAa ?_;refine zAb [] [] rfl ?_;show Tri ..;refine zAh rfl h (fun hb h=>?_) (fun hb h=>?_)
    ·refine zAf ?_;show Tri ..;refine zAa ?_;refine zAk ?_;refine zAb [] [] rfl ?_;show Tri ..;refine zAb [] [] rfl ?_;refine And.intro (by decide) ?_;refine⟨(k,n2.fdiv (2 ^ (min (8:Int).toNat IntKind.u64.bits)),IntKind.i64.wrap (k3+1)),h,(Le.forget _ ⟨rfl,rfl,trivial⟩),Nat.lt_succ_self k⟩
    ·refine zAI ?_;cases h;exact(Le.forget _ ⟨rfl,trivial⟩)
 ·show Tri ..;refine zAj hle ?_;refine zAa ?_;refine zAb [] [] rfl ?_;show Tri ..;refine zAd ?_;have hy:=Option.some.inj h;subst hy;unfold zAt;exact⟨_,Le.refl _ _,rfl,rfl⟩
def zOq (n:Nat) (xs:List AV) (os:List Ob) (x:AV) (os':List (Option Ob)):Prop:=∃ (a0:List UInt8) (a1:CV) (y0:List UInt8),zG3 n a0 a1=some y0/\xs=[.orow 0,.s (.pt (CV.enc a1))]/\os=[.row 5 1 ((List.map brow) a0)]/\x = .orow 1/\os'=[none,some (.row 5 1 ((List.map brow) y0))]
def zJE:zAy:=zEj (fun xs os x os'=>∃ n,zOq n xs os x os') (some 0)
theorem zNR:PSound Tryz.prog 100 zJE:=by
 have gok:∀ f s,look? f [(135,zHN),(136,zGN)]=some s->PSound Tryz.prog f s:=zAv (by
  simp only[List.forall_mem_cons]
  exact⟨zLj,zKg,by simp⟩)
 refine PSound.withNil (zPG tokW Tryz.call100 Tryz.func100 rfl (fun xs os x os' h=>by obtain⟨n,_,_,_,_,rfl,rfl,_,rfl⟩:=h; exact⟨by show 2<=54; decide,by show 1<=2; decide⟩) 54 rfl ?_) _;rintro xs os x os' w0 G0 B0 ⟨n,b1,⟨v2A,v2F,v2B,v2E⟩,y0,h,rfl,rfl,rfl,rfl⟩ _;rw[zG3]at h;refine zAa ?_;refine zAb [4] [] rfl ?_;show Tri ..;refine zAj (Le.rnm [(0,0)] [(0,.orow 0),(1,.s (.pt [.int .i64 v2A,.int .i64 v2F,.str v2B,.sl 4 (CV.encs v2E)]))] [(0,.row 5 1 ((List.map brow) b1))] 1 ⟨rfl,rfl,trivial⟩ ⟨rfl,⟨_,rfl,rfl⟩,trivial⟩) ?_;refine zAa ?_;refine zAb [] [] rfl ?_
 obtain⟨y3,hy3,h⟩:=zAc h;refine⟨_,⟨_,_,hy3,rfl,rfl⟩,?_⟩
 show Tri ..;refine zAa ?_;refine zAa ?_;refine zAb [] [] rfl ?_;show Tri ..;refine zAh rfl h (fun hb h=>?_) (fun hb h=>?_)
 ·refine zAa ?_;refine zAb [23] [22] rfl ?_;intro r4 hr4;obtain rfl:(List.map brow) [b8of (IntKind.u8.wrap ((IntKind.u8.wrap (IntKind.i64.wrap (64 * v2A)))+(IntKind.u8.wrap y3)))]=r4:=(hr4.trans (by simp[List.map_append,List.map_take,List.map_drop,irow,brow,zAH,List.map_cons,List.map_nil,zAE,Nd.encs_eq,Nd.enc,CV.encs_eq,CV.enc])).symm;obtain⟨hq,h⟩:=zAK h
  refine And.intro (show(((List.map brow) b1).length+((List.map brow) [b8of (IntKind.u8.wrap ((IntKind.u8.wrap (IntKind.i64.wrap (64 * v2A)))+(IntKind.u8.wrap y3)))]).length) * 1<=140737488355328/\((List.map brow) b1).length+((List.map brow) [b8of (IntKind.u8.wrap ((IntKind.u8.wrap (IntKind.i64.wrap (64 * v2A)))+(IntKind.u8.wrap y3)))]).length<=9223372036854775807 from by simp only[List.length_append,List.length_cons,List.length_nil,List.length_map,rlen (fun _=>rfl)]at hq ⊢; omega) ?_;show Tri ..
  refine zAj (Le.rnm [(1,1)] [(4,.orow 1)] [(1,.row 5 1 ((List.map brow) (b1++[b8of (IntKind.u8.wrap ((IntKind.u8.wrap (IntKind.i64.wrap (64 * v2A)))+(IntKind.u8.wrap y3)))])))] 2 ⟨rfl,trivial⟩ ⟨rfl,⟨_,rfl,congrArg (Ob.row 5 1) (by simp[List.map_append,List.map_take,List.map_drop,irow,brow,zAH,List.map_cons,List.map_nil,zAE,Nd.encs_eq,Nd.enc,CV.encs_eq,CV.enc])⟩,trivial⟩) ?_;refine zAd ?_;have hy:=Option.some.inj h;subst hy;unfold zEH
  exact⟨_,(Le.rnm [(1,1)] [(4,.orow 1)] [(1,.row 5 1 ((List.map brow) (b1++[b8of (IntKind.u8.wrap ((IntKind.u8.wrap (IntKind.i64.wrap (64 * v2A)))+(IntKind.u8.wrap y3)))])))] 2 ⟨rfl,trivial⟩ ⟨rfl,⟨_,rfl,rfl⟩,trivial⟩),rfl,rfl,rfl,rfl,trivial⟩
 ·refine zAf ?_;show Tri ..;refine zAa ?_;refine zAb [] [] rfl ?_;obtain⟨y5,hy5,h⟩:=zAc h;refine⟨_,⟨_,_,_,hy5,rfl,rfl⟩,?_⟩
  show Tri ..;refine zAa ?_;refine zAb [38] [37] rfl ?_;intro r6 hr6;obtain rfl:(List.map brow) [b8of (IntKind.u8.wrap (IntKind.i64.wrap ((IntKind.i64.wrap ((IntKind.i64.wrap ((IntKind.i64.wrap (64 * v2A))+56)) - 1))+y5)))]=r6:=(hr6.trans (by simp[List.map_append,List.map_take,List.map_drop,irow,brow,zAH,List.map_cons,List.map_nil,zAE,Nd.encs_eq,Nd.enc,CV.encs_eq,CV.enc])).symm;obtain⟨hq,h⟩:=zAK h
  refine And.intro (show(((List.map brow) b1).length+((List.map brow) [b8of (IntKind.u8.wrap (IntKind.i64.wrap ((IntKind.i64.wrap ((IntKind.i64.wrap ((IntKind.i64.wrap (64 * v2A))+56)) - 1))+y5)))]).length) * 1<=140737488355328/\((List.map brow) b1).length+((List.map brow) [b8of (IntKind.u8.wrap (IntKind.i64.wrap ((IntKind.i64.wrap ((IntKind.i64.wrap ((IntKind.i64.wrap (64 * v2A))+56)) - 1))+y5)))]).length<=9223372036854775807 from by simp only[List.length_append,List.length_cons,List.length_nil,List.length_map,rlen (fun _=>rfl)]at hq ⊢; omega) ?_;show Tri ..
  refine zAj (Le.rnm [(1,1)] [(0,.orow 1),(5,.s (.int .u64 y3)),(6,.s (.int .i64 y5))] [(1,.row 5 1 ((List.map brow) (b1++[b8of (IntKind.u8.wrap (IntKind.i64.wrap ((IntKind.i64.wrap ((IntKind.i64.wrap ((IntKind.i64.wrap (64 * v2A))+56)) - 1))+y5)))])))] 2 ⟨rfl,rfl,rfl,trivial⟩ ⟨rfl,⟨_,rfl,congrArg (Ob.row 5 1) (by simp[List.map_append,List.map_take,List.map_drop,irow,brow,zAH,List.map_cons,List.map_nil,zAE,Nd.encs_eq,Nd.enc,CV.encs_eq,CV.enc])⟩,trivial⟩) ?_;refine zAa ?_;refine zAa ?_;refine zAb [] [] rfl ?_;show Tri ..;obtain⟨l10,hl,h⟩:=zAc h
  refine zAq ⟨ofL [(0,.orow 1)],ofH [(1,.row 5 1 ((List.map brow) l10))],2⟩ ?_ (fun σ' hle=>?_)
  ·refine zAk (zAG (X:=Nat×Int×(List UInt8)) (fun y=>match y with | (k,i8,l9)=>⟨ofL [(0,.orow 1),(5,.s (.int .u64 y3)),(7,.s (.int .i64 i8))],ofH [(1,.row 5 1 ((List.map brow) l9))],2⟩) (fun y=>zCZ y3 y.1 y.2.1 y.2.2=some l10) (fun y=>y.1) (n,IntKind.i64.wrap (y5 - 1),b1++[b8of (IntKind.u8.wrap (IntKind.i64.wrap ((IntKind.i64.wrap ((IntKind.i64.wrap ((IntKind.i64.wrap (64 * v2A))+56)) - 1))+y5)))]) hl ?_ ?_)
   ·exact(Le.rnm [(1,1)] _ _ _ ⟨rfl,rfl,rfl,trivial⟩ ⟨rfl,⟨_,rfl,rfl⟩,trivial⟩)
   ·rintro⟨k,i8,l9⟩ h;cases k with
    | zero=>cases h
    | succ k =>
     replace h:zCZ y3 (k+1) i8 l9=some l10:=h;rw[zCZ]at h;refine zAa ?_;refine zAa ?_;refine zAb [] [] rfl ?_;show Tri ..;refine zAh rfl h (fun hb h=>?_) (fun hb h=>?_)
     ·refine zAf ?_;show Tri ..;refine zAa ?_;refine zAk ?_;refine zAb [52] [51] rfl ?_;obtain⟨hq,h⟩:=zAK h;refine And.intro hq ?_;intro r11 hr11;obtain rfl:(List.map brow) [b8of (IntKind.u8.wrap (y3.fdiv (2 ^ (min (IntKind.i64.wrap (8 * i8)).toNat IntKind.u64.bits))))]=r11:=(hr11.trans (by simp[List.map_append,List.map_take,List.map_drop,irow,brow,zAH,List.map_cons,List.map_nil,zAE,Nd.encs_eq,Nd.enc,CV.encs_eq,CV.enc])).symm;obtain⟨hq,h⟩:=zAK h
      refine And.intro (show(((List.map brow) l9).length+((List.map brow) [b8of (IntKind.u8.wrap (y3.fdiv (2 ^ (min (IntKind.i64.wrap (8 * i8)).toNat IntKind.u64.bits))))]).length) * 1<=140737488355328/\((List.map brow) l9).length+((List.map brow) [b8of (IntKind.u8.wrap (y3.fdiv (2 ^ (min (IntKind.i64.wrap (8 * i8)).toNat IntKind.u64.bits))))]).length<=9223372036854775807 from by simp only[List.length_append,List.length_cons,List.length_nil,List.length_map,rlen (fun _=>rfl)]at hq ⊢; omega) ?_;show Tri ..
      refine zAj (Le.rnm [(2,1)] [(0,.orow 1),(5,.s (.int .u64 y3)),(7,.s (.int .i64 i8))] [(1,.row 5 1 ((List.map brow) (l9++[b8of (IntKind.u8.wrap (y3.fdiv (2 ^ (min (IntKind.i64.wrap (8 * i8)).toNat IntKind.u64.bits))))])))] 2 ⟨rfl,rfl,rfl,trivial⟩ ⟨rfl,⟨_,rfl,congrArg (Ob.row 5 1) (by simp[List.map_append,List.map_take,List.map_drop,irow,brow,zAH,List.map_cons,List.map_nil,zAE,Nd.encs_eq,Nd.enc,CV.encs_eq,CV.enc])⟩,trivial⟩) ?_;refine zAb [] [] rfl ?_
      refine⟨(k,IntKind.i64.wrap (i8 - 1),l9++[b8of (IntKind.u8.wrap (y3.fdiv (2 ^ (min (IntKind.i64.wrap (8 * i8)).toNat IntKind.u64.bits))))]),h,(Le.rnm [(1,1)] _ _ _ ⟨rfl,rfl,rfl,trivial⟩ ⟨rfl,⟨_,rfl,rfl⟩,trivial⟩),Nat.lt_succ_self k⟩
     ·refine zAI ?_;cases h;exact(Le.rnm [(1,1)] _ _ _ ⟨rfl,trivial⟩ ⟨rfl,⟨_,rfl,rfl⟩,trivial⟩)
  ·show Tri ..;refine zAj hle ?_;refine zAa ?_;refine zAb [] [] rfl ?_;show Tri ..;refine zAd ?_;have hy:=Option.some.inj h;subst hy;unfold zEH;exact⟨_,(Le.rnm [(1,1)] [(4,.orow 1)] [(1,.row 5 1 ((List.map brow) l10))] 2 ⟨rfl,trivial⟩ ⟨rfl,⟨_,rfl,rfl⟩,trivial⟩),rfl,rfl,rfl,rfl,trivial⟩
def zDs (n:Nat) (xs:List AV) (os:List Ob) (x:AV) (os':List (Option Ob)):Prop:=∃ (a0:List UInt8) (a1:CV) (y0:List UInt8),zCL n a0 a1=some y0/\xs=[.orow 0,.s (.pt (CV.enc a1))]/\os=[.row 5 1 ((List.map brow) a0)]/\x = .orow 1/\os'=[none,some (.row 5 1 ((List.map brow) y0))]
theorem zJB (n:Nat) (ih:PSound Tryz.prog 57 (zEj (zDs n) (some 0))):PSound Tryz.prog 57 (zEj (zDs (n+1)) (some 0)):=by
 have gok:∀ f s,look? f [(100,zJE),(57,zEj (zDs n) (some 0))]=some s->PSound Tryz.prog f s:=zAv (by
  simp only[List.forall_mem_cons]
  exact⟨zNR,ih,by simp⟩)
 refine PSound.withNil (zPG tokW Tryz.call57 Tryz.func57 rfl (fun xs os x os' h=>by obtain⟨_,_,_,_,rfl,rfl,_,rfl⟩:=h; exact⟨by show 2<=50; decide,by show 1<=2; decide⟩) 50 rfl ?_) _;rintro xs os x os' w0 G0 B0 ⟨b1,⟨v2A,v2F,v2B,v2E⟩,y0,h,rfl,rfl,rfl,rfl⟩ _;rw[zCL]at h;refine zAa ?_;refine zAb [4] [] rfl ?_;show Tri ..;refine zAj (Le.rnm [(0,0)] [(0,.orow 0),(1,.s (.pt [.int .i64 v2A,.int .i64 v2F,.str v2B,.sl 4 (CV.encs v2E)]))] [(0,.row 5 1 ((List.map brow) b1))] 1 ⟨rfl,rfl,trivial⟩ ⟨rfl,⟨_,rfl,rfl⟩,trivial⟩) ?_;refine zAa ?_;refine zAb [8] [] rfl ?_
 obtain⟨y3,hy3,h⟩:=zAc h;refine⟨_,_,⟨_,_,_,_,hy3,rfl,rfl,rfl,rfl⟩,?_⟩
 show Tri ..;refine zAa ?_;refine zAa ?_;refine zAb [] [] rfl ?_;show Tri ..;refine zAh rfl h (fun hb h=>?_) (fun hb h=>?_)
 ·refine zAa ?_;refine zAb [21] [] rfl ?_;obtain⟨hq,h⟩:=zAK h;refine And.intro hq ?_;obtain⟨hq,h⟩:=zAK h;refine And.intro (show(((List.map brow) y3).length+(List.map brow ((v2B.take (1048577:Int).toNat).drop (0:Int).toNat)).length) * 1<=140737488355328/\((List.map brow) y3).length+(List.map brow ((v2B.take (1048577:Int).toNat).drop (0:Int).toNat)).length<=9223372036854775807 from by simp only[List.length_append,List.length_cons,List.length_nil,List.length_map,rlen (fun _=>rfl)]at hq ⊢; omega) ?_;show Tri ..
  refine zAj (Le.rnm [(2,1)] [(4,.orow 1)] [(1,.row 5 1 ((List.map brow) (y3++((v2B.take (1048577:Int).toNat).drop (0:Int).toNat))))] 2 ⟨rfl,trivial⟩ ⟨rfl,⟨_,rfl,congrArg (Ob.row 5 1) (by simp[List.map_append,List.map_take,List.map_drop,irow,brow,zAH,List.map_cons,List.map_nil,zAE,Nd.encs_eq,Nd.enc,CV.encs_eq,CV.enc])⟩,trivial⟩) ?_;refine zAd ?_;have hy:=Option.some.inj h;subst hy;unfold zEH;exact⟨_,(Le.rnm [(1,1)] [(4,.orow 1)] [(1,.row 5 1 ((List.map brow) (y3++((v2B.take (1048577:Int).toNat).drop (0:Int).toNat))))] 2 ⟨rfl,trivial⟩ ⟨rfl,⟨_,rfl,rfl⟩,trivial⟩),rfl,rfl,rfl,rfl,trivial⟩
 ·refine zAf ?_;show Tri ..;refine zAa ?_;refine zAb [27] [] rfl ?_;obtain⟨hq,h⟩:=zAK h;refine And.intro (show(((List.map brow) y3).length+(List.map brow v2B).length) * 1<=140737488355328/\((List.map brow) y3).length+(List.map brow v2B).length<=9223372036854775807 from by simp only[List.length_append,List.length_cons,List.length_nil,List.length_map,rlen (fun _=>rfl)]at hq ⊢; omega) ?_;show Tri ..
  refine zAj (Le.rnm [(2,1)] [(0,.orow 1),(1,.s (.pt [.int .i64 v2A,.int .i64 v2F,.str v2B,.sl 4 (CV.encs v2E)]))] [(1,.row 5 1 ((List.map brow) (y3++v2B)))] 2 ⟨rfl,rfl,trivial⟩ ⟨rfl,⟨_,rfl,congrArg (Ob.row 5 1) (by simp[List.map_append,List.map_take,List.map_drop,irow,brow,zAH,List.map_cons,List.map_nil,zAE,Nd.encs_eq,Nd.enc,CV.encs_eq,CV.enc])⟩,trivial⟩) ?_;refine zAa ?_;refine zAa ?_;refine zAb [] [32] rfl ?_;intro n4 hn4;obtain rfl:(v2E.length:Int)=n4:=(hn4.trans (congrArg (fun m:Nat=>(m:Int)) (rlen CV.encs_eq v2E))).symm;show Tri ..;obtain⟨fl,hl,ho1⟩:=zAc h
  refine zBA (fl:=fl) (fun z=>match z with | l8=>⟨ofL [(0,.orow 1)],ofH [(1,.row 5 1 ((List.map brow) l8))],2⟩) ?_ (fun l8 σ' hz hle=>?_)
  ·refine zAk (zAG (X:=Nat×Int×(List UInt8)) (fun y=>match y with | (k,x6,l7)=>⟨ofL [(0,.orow 1),(1,.s (.pt [.int .i64 v2A,.int .i64 v2F,.str v2B,.sl 4 (CV.encs v2E)])),(32,.s (.int .i64 (v2E.length:Int))),(33,.s (.int .i64 x6))],ofH [(1,.row 5 1 ((List.map brow) l7))],2⟩) (fun y=>zCi (zCL n) v2E y.1 y.2.1 y.2.2=some fl) (fun y=>y.1) (n,0,y3++v2B) hl ?_ ?_)
   ·exact(Le.rnm [(1,1)] _ _ _ ⟨rfl,rfl,rfl,rfl,trivial⟩ ⟨rfl,⟨_,rfl,rfl⟩,trivial⟩)
   ·rintro⟨k,x6,l7⟩ h;cases k with
    | zero=>cases h
    | succ k =>
     replace h:zCi (zCL n) v2E (k+1) x6 l7=some fl:=h;rw[zCi]at h;refine zAa ?_;refine zAb [] [] rfl ?_;show Tri ..;refine zAa ?_;refine zAh rfl h (fun hb h=>?_) (fun hb h=>?_)
     ·refine zAf ?_;show Tri ..;refine zAa ?_;refine zAk ?_;refine zAa ?_;refine zAb [] [] rfl ?_;show Tri ..;refine zAa ?_;refine zAa ?_;refine zAb [] [37] rfl ?_;intro n9 hn9;obtain rfl:(l7.length:Int)=n9:=(hn9.trans (congrArg (fun m:Nat=>(m:Int)) (rlen (fun _=>rfl) l7))).symm;show Tri ..;refine zAh rfl h (fun hb h=>?_) (fun hb h=>?_)
      ·refine zAa ?_;refine zAb [] [] rfl ?_;show Tri ..;refine zAd ?_;cases h;replace h:some _=some _:=ho1;have hy:=Option.some.inj h;subst hy;unfold zEH;exact⟨_,(Le.rnm [(1,1)] [(4,.orow 1)] [(1,.row 5 1 ((List.map brow) l7))] 2 ⟨rfl,trivial⟩ ⟨rfl,⟨_,rfl,rfl⟩,trivial⟩),rfl,rfl,rfl,rfl,trivial⟩
      ·refine zAf ?_;show Tri ..;refine zAb [47] [46] rfl ?_;obtain⟨⟨e10A,e10F,e10B,e10E⟩,he10,h⟩:=zAc h;refine And.intro (zAB CV.encs_eq he10).1 ?_;intro r11 hr11;obtain rfl:[.int .i64 e10A,.int .i64 e10F,.str e10B,.sl 4 (CV.encs e10E)]=r11:=(hr11.trans (zAB CV.encs_eq he10).2.1).symm;obtain⟨y12,hy12,h⟩:=zAc h;refine⟨_,_,⟨_,_,_,hy12,rfl,rfl,rfl,rfl⟩,?_⟩
       show Tri ..;refine zAb [] [] rfl ?_;refine⟨(k,IntKind.i64.wrap (x6+1),y12),h,(Le.rnm [(2,1)] _ _ _ ⟨rfl,rfl,rfl,rfl,trivial⟩ ⟨rfl,⟨_,rfl,rfl⟩,trivial⟩),Nat.lt_succ_self k⟩
     ·refine zAI ?_;cases h;exact⟨_,rfl,(Le.rnm [(1,1)] _ _ _ ⟨rfl,trivial⟩ ⟨rfl,⟨_,rfl,rfl⟩,trivial⟩)⟩
  ·subst hz;replace h:=ho1;show Tri ..;refine zAj hle ?_;refine zAa ?_;refine zAb [] [] rfl ?_;show Tri ..;refine zAd ?_;have hy:=Option.some.inj h;subst hy;unfold zEH;exact⟨_,(Le.rnm [(1,1)] [(4,.orow 1)] [(1,.row 5 1 ((List.map brow) l8))] 2 ⟨rfl,trivial⟩ ⟨rfl,⟨_,rfl,rfl⟩,trivial⟩),rfl,rfl,rfl,rfl,trivial⟩
theorem zKd:∀ n,PSound Tryz.prog 57 (zEj (zDs n) (some 0)):=by
 intro n
 induction n with
 | zero=>exact zLw Tryz.call57 (fun xs os x os' h=>by obtain⟨_,_,_,h,_⟩:=h; cases h) _
 | succ n ih=>exact zJB n ih
def zHM:zAy:=zEj (fun xs os x os'=>∃ n,zDs n xs os x os') (some 0)
theorem zLi:PSound Tryz.prog 57 zHM:=zM2 zKd _
def zLW (n:Nat) (xs:List AV) (r:Ret):Prop:=∃ (a0:CV) (y0:List UInt8) (y1:Int),zFS n a0=some (y0,y1)/\xs=[.agg ((CV.enc a0).map .s)]/\r = .val (.tup [.s (.sl 1 ((List.map brow) y0)),.s (.int .i64 y1)])
def zHL:zAy:=zAx fun xs r=>∃ n,zLW n xs r
theorem zLh:PSound Tryz.prog 26 zHL:=by
 have gok:∀ f s,look? f [(56,zIE),(57,zHM)]=some s->PSound Tryz.prog f s:=zAv (by
  simp only[List.forall_mem_cons]
  exact⟨zMi,zLi,by simp⟩)
 refine zAz tokW Tryz.call26 Tryz.func26 rfl (fun xs r h=>by obtain⟨n,_,_,_,_,rfl,_⟩:=h; show 1<=13; decide) 13 rfl ?_;rintro xs r w0 G0 ⟨n,⟨v1A,v1F,v1B,v1E⟩,y0,y1,h,rfl,rfl⟩ _;rw[zFS]at h;refine zAa ?_;refine zAb [] [] rfl ?_;show Tri ..;refine zAa ?_;refine zAa ?_;refine zAb [] [] rfl ?_;obtain⟨y2,hy2,h⟩:=zAc h;refine⟨_,⟨_,_,_,hy2,rfl,rfl⟩,?_⟩
 show Tri ..;refine zAh rfl h (fun hb h=>?_) (fun hb h=>?_)
 ·refine zAa ?_;refine zAb [] [] rfl ?_;show Tri ..;refine zAd ?_;obtain⟨hj1,hk1⟩:=pij h;subst hj1 hk1;unfold zAt;exact⟨_,Le.refl _ _,rfl,rfl⟩
 ·refine zAf ?_;show Tri ..;refine zAa ?_;refine zAb [] [] rfl ?_;obtain⟨y3,hy3,h⟩:=zAc h;refine⟨_,_,⟨_,_,_,_,hy3,rfl,rfl,rfl,rfl⟩,?_⟩
  show Tri ..;refine zAa ?_;refine zAa ?_;refine zAb [] [10] rfl ?_;intro n4 hn4;obtain rfl:(y3.length:Int)=n4:=(hn4.trans (congrArg (fun m:Nat=>(m:Int)) (rlen (fun _=>rfl) y3))).symm;show Tri ..;refine zAh rfl h (fun hb h=>?_) (fun hb h=>?_)
  ·refine zAa ?_;refine zAb [] [] rfl ?_;show Tri ..;refine zAd ?_;obtain⟨hj1,hk1⟩:=pij h;subst hj1 hk1;unfold zAt;exact⟨_,Le.refl _ _,rfl,rfl⟩
  ·refine zAf ?_;show Tri ..;refine zAa ?_;refine zAb [] [] rfl ?_;show Tri ..;refine zAd ?_;obtain⟨hj1,hk1⟩:=pij h;subst hj1 hk1;unfold zAt;exact⟨_,(Le.trans (Le.rnm [(1,0)] [(2,.orow 0),(3,.s (.int .i64 0))] [(0,.row 5 1 ((List.map brow) y3))] 1 ⟨rfl,rfl,trivial⟩ ⟨rfl,⟨_,rfl,rfl⟩,trivial⟩) (Le.giveRow 0 rfl)),rfl,rfl⟩
def zAu (p:(List UInt8)):List S:=[.sl 1 ((List.map brow) p)]
def zKz (n:Nat) (xs:List AV) (r:Ret):Prop:=∃ (a0:Int) (a1:List UInt8) (y0:Int),zFk n a0 a1=some y0/\xs=[.s (.int .u64 a0),.s (.sl 1 ((List.map brow) a1))]/\r = .val (.s (.int .u64 y0))
def zGO:zAy:=zAx fun xs r=>∃ n,zKz n xs r
theorem zKh:PSound Tryz.prog 64 zGO:=by
 have gok:=@gok0 Tryz.prog;refine zAz tokW Tryz.call64 Tryz.func64 rfl (fun xs r h=>by obtain⟨n,_,_,_,_,rfl,_⟩:=h; show 2<=20; decide) 20 rfl ?_;rintro xs r w0 G0 ⟨n,h1,b2,y0,h,rfl,rfl⟩ _;rw[zFk]at h;refine zAa ?_;refine zAb [] [] rfl ?_;show Tri ..;refine zAa ?_;refine zAa ?_;refine zAb [] [8] rfl ?_;intro n3 hn3;obtain rfl:(b2.length:Int)=n3:=(hn3.trans (congrArg (fun m:Nat=>(m:Int)) (rlen (fun _=>rfl) b2))).symm;show Tri ..;obtain⟨h6,hl,h⟩:=zAc h;refine zAq ⟨ofL [(0,.s (.int .u64 h6))],fun _=>none,0⟩ ?_ (fun σ' hle=>?_)
 ·refine zAk (zAG (X:=Nat×Int×Int) (fun y=>match y with | (k,h4,x5)=>⟨ofL [(0,.s (.int .u64 h4)),(7,.s (.sl 1 ((List.map brow) b2))),(8,.s (.int .i64 (b2.length:Int))),(9,.s (.int .i64 x5))],fun _=>none,0⟩) (fun y=>zB2 b2 y.1 y.2.1 y.2.2=some h6) (fun y=>y.1) (n,h1,0) hl ?_ ?_)
  ·exact(Le.forget _ ⟨rfl,rfl,rfl,rfl,trivial⟩)
  ·rintro⟨k,h4,x5⟩ h;cases k with
   | zero=>cases h
   | succ k =>
    replace h:zB2 b2 (k+1) h4 x5=some h6:=h;rw[zB2]at h;refine zAa ?_;refine zAb [] [] rfl ?_;show Tri ..;refine zAa ?_;refine zAh rfl h (fun hb h=>?_) (fun hb h=>?_)
    ·refine zAf ?_;show Tri ..;refine zAa ?_;refine zAk ?_;refine zAa ?_;refine zAb [] [11] rfl ?_;obtain⟨e7,he7,h⟩:=zAc h;refine And.intro (zAB (fun _=>rfl) he7).1 ?_;intro r8 hr8;obtain rfl:[.int .u8 (e7.toNat:Int)]=r8:=(hr8.trans (zAB (fun _=>rfl) he7).2.1).symm;show Tri ..;refine zAb [] [] rfl ?_;show Tri ..;refine zAb [] [] rfl ?_;refine⟨(k,IntKind.u64.wrap ((zJm .xor .u64 h4 (IntKind.u64.wrap (e7.toNat:Int))) * 1099511628211),IntKind.i64.wrap (x5+1)),h,(Le.forget _ ⟨rfl,rfl,rfl,rfl,trivial⟩),Nat.lt_succ_self k⟩
    ·refine zAI ?_;cases h;exact(Le.forget _ ⟨rfl,trivial⟩)
 ·show Tri ..;refine zAj hle ?_;refine zAa ?_;refine zAb [] [] rfl ?_;show Tri ..;refine zAd ?_;have hy:=Option.some.inj h;subst hy;unfold zAt;exact⟨_,Le.refl _ _,rfl,rfl⟩
def zLY (n:Nat) (xs:List AV) (r:Ret):Prop:=∃ (a0:List UInt8) (y0:Int),zFU n a0=some y0/\xs=[.s (.sl 1 ((List.map brow) a0))]/\r = .val (.s (.int .u64 y0))
def zHO:zAy:=zAx fun xs r=>∃ n,zLY n xs r
theorem zLl:PSound Tryz.prog 28 zHO:=by
 have gok:∀ f s,look? f [(64,zGO)]=some s->PSound Tryz.prog f s:=zAv (by
  simp only[List.forall_mem_cons]
  exact⟨zKh,by simp⟩)
 refine zAz tokW Tryz.call28 Tryz.func28 rfl (fun xs r h=>by obtain⟨n,_,_,_,rfl,_⟩:=h; show 1<=5; decide) 5 rfl ?_;rintro xs r w0 G0 ⟨n,b1,y0,h,rfl,rfl⟩ _;rw[zFU]at h;refine zAa ?_;refine zAb [] [] rfl ?_;show Tri ..;refine zAa ?_;refine zAb [] [] rfl ?_;obtain⟨y2,hy2,h⟩:=zAc h;refine⟨_,⟨_,_,_,_,hy2,rfl,rfl⟩,?_⟩
 show Tri ..;refine zAd ?_;have hy:=Option.some.inj h;subst hy;unfold zAt;exact⟨_,Le.refl _ _,rfl,rfl⟩
end Go.Proofs.YtgplhldfbkmmgaaGreat
