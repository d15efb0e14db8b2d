/-
  Joined out of: FzVA, FzVB, LibG, LibH, LibW, AbsY, LibO, LibR, FzE, LibE, FzF, RfA.
-/
import Derived.WalkKit
import Derived.Lib.Walk
import Derived.Lib.SliceRun
import Derived.Lib.AppendZerosOnto
import Derived.Shelf.RegionOpenPlain
import Derived.RangeFuncNested
import Derived.RangeFuncLeaves
import Derived.RangeFuncRecord
import Derived.Test.YtgplhldfbkmmgaaGreatZc
set_option linter.unusedVariables false
set_option linter.unusedSimpArgs false
set_option maxHeartbeats 2000000
set_option maxRecDepth 100000
namespace Go.Proofs.YtgplhldfbkmmgaaGreat
open Go.Abs
def zQC (xs:List AV) (r:Ret):Prop:=∃ (a0:List UInt8) (y0:Bool),zB5 a0=some y0/\xs=[.s (.str a0)]/\r = .val (.s (.bool y0))
def zLj:zAz:=zAy fun xs r=>zQC xs r
theorem zPX:PSound Tryz.prog 138 zLj:=by
 have gok:=@gok0 Tryz.prog;refine zAA tokW Tryz.call138 Tryz.func138 rfl (fun xs r h=>by obtain⟨_,_,_,rfl,_⟩:=h; show 1<=5; decide) 5 rfl ?_;rintro xs r w0 G0 ⟨s1,y0,h,rfl,rfl⟩ _;rw[zB5]at h;refine zYe [] [] rfl ?_;show Tri ..;refine zYe [] [] rfl ?_;show Tri ..;refine zAe ?_;have hy:=Option.some.inj h;subst hy;unfold zAw;exact⟨_,Le.refl _ _,rfl,rfl⟩
def zNR (n:Nat) (xs:List AV) (r:Ret):Prop:=∃ (a0:List UInt8) (y0:Bool),zDh n a0=some y0/\xs=[.s (.str a0)]/\r = .val (.s (.bool y0))
def zJg:zAz:=zAy fun xs r=>∃ n,zNR n xs r
theorem zNb:PSound Tryz.prog 170 zJg:=by
 have gok:=@gok0 Tryz.prog;refine zAA tokW Tryz.call170 Tryz.func170 rfl (fun xs r h=>by obtain⟨n,_,_,_,rfl,_⟩:=h; show 1<=21; decide) 21 rfl ?_;rintro xs r w0 G0 ⟨n,s1,y0,h,rfl,rfl⟩ _;rw[zDh]at h;refine zYe [] [] rfl ?_;show Tri ..;refine zAa ?_;refine zYe [] [] rfl ?_;show Tri ..;obtain⟨fl,hl,ho1⟩:=zAc h;refine zBt (fl:=fl) (fun z=>match z with | _=>⟨ofL [],fun _=>none,0⟩) ?_ (fun z σ' hz hle=>?_)
 ·refine zAl (zAF (X:=Nat×Int) (fun y=>match y with | (k,i2)=>⟨ofL [(0,.s (.str s1)),(3,.s (.int .i64 i2))],fun _=>none,0⟩) (fun y=>zBs s1 y.1 y.2=some fl) (fun y=>y.1) (n,0) hl ?_ ?_)
  ·exact(Le.forget _ ⟨rfl,rfl,trivial⟩)
  ·rintro⟨k,i2⟩ h;cases k with
   | zero=>cases h
   | succ k =>
    replace h:zBs s1 (k+1) i2=some fl:=h;rw[zBs]at h;refine zAa ?_;refine zYe [] [] rfl ?_;show Tri ..;refine zAh rfl h (fun hb h=>?_) (fun hb h=>?_)
    ·refine zAf ?_;show Tri ..;refine zAa ?_;refine zAl ?_;refine zYe [] [13] rfl ?_;obtain⟨c3,hc3,h⟩:=zAc h;refine And.intro (zBJ hc3).1 ?_;intro v4 hv4;obtain rfl:(c3.toNat:Int)=v4:=(hv4.trans (zBJ hc3).2).symm;show Tri ..;refine zAa ?_;obtain⟨x5,hj,h⟩:=zAc h;refine zAv ⟨ofL [(0,.s (.str s1)),(3,.s (.int .i64 i2)),(20,.s (.bool x5))],fun _=>none,0⟩ ?_ (fun σ' hle=>?_)
     ·replace h:=hj;refine zAb [] [17] rfl ?_;intro b hb;cases b with
      | true =>
       replace h:=zAE hb.symm h;cases h;exact(Le.forget _ ⟨rfl,rfl,rfl,trivial⟩)
      | false =>
       replace h:=zAD hb.symm h;cases h;exact(Le.forget _ ⟨rfl,rfl,rfl,trivial⟩)
     ·show Tri ..;refine zAk hle ?_;refine zAh rfl h (fun hb h=>?_) (fun hb h=>?_)
      ·refine zYe [] [] rfl ?_;show Tri ..;refine zAe ?_;cases h;replace h:some _=some _:=ho1;have hy:=Option.some.inj h;subst hy;unfold zAw;exact⟨_,Le.refl _ _,rfl,rfl⟩
      ·refine zAf ?_;show Tri ..;refine zAb [] [] rfl ?_;refine⟨(k,IntKind.i64.wrap (i2+1)),h,(Le.forget _ ⟨rfl,rfl,trivial⟩),Nat.lt_succ_self k⟩
    ·refine zAI ?_;cases h;exact⟨_,rfl,(Le.forget _ trivial)⟩
 ·subst hz;obtain _:=z;replace h:=ho1;show Tri ..;refine zAk hle ?_;refine zYe [] [] rfl ?_;show Tri ..;refine zAe ?_;have hy:=Option.some.inj h;subst hy;unfold zAw;exact⟨_,Le.refl _ _,rfl,rfl⟩
def zNQ (xs:List AV) (r:Ret):Prop:=∃ (a0:List UInt8) (y0:Bool),zD7 a0=some y0/\xs=[.s (.str a0)]/\r = .val (.s (.bool y0))
def zJf:zAz:=zAy fun xs r=>zNQ xs r
theorem zNa:PSound Tryz.prog 172 zJf:=by
 have gok:=@gok0 Tryz.prog;refine zAA tokW Tryz.call172 Tryz.func172 rfl (fun xs r h=>by obtain⟨_,_,_,rfl,_⟩:=h; show 1<=9; decide) 9 rfl ?_;rintro xs r w0 G0 ⟨s1,y0,h,rfl,rfl⟩ _;rw[zD7]at h;refine zYe [] [] rfl ?_;show Tri ..;refine zAa ?_;refine zYe [] [] rfl ?_;show Tri ..;obtain⟨fl,hj,ho1⟩:=zAc h;refine zBt (fl:=fl) (fun z=>match z with | _=>⟨ofL [],fun _=>none,0⟩) ?_ (fun z σ' hz hle=>?_)
 ·replace h:=hj;refine zAl ?_;refine zAa ?_;refine zYe [] [] rfl ?_;show Tri ..;obtain⟨x2,hj,h⟩:=zAc h;refine zAv ⟨ofL [(4,.s (.bool x2))],fun _=>none,0⟩ ?_ (fun σ' hle=>?_)
  ·replace h:=hj;refine zAh rfl h (fun hb h=>?_) (fun hb h=>?_)
   ·refine zAf ?_;cases h;exact(Le.forget _ ⟨rfl,trivial⟩)
   ·refine zYe [] [] rfl ?_;show Tri ..;refine zAh rfl h (fun hb h=>?_) (fun hb h=>?_)
    ·refine zAf ?_;cases h;exact(Le.forget _ ⟨rfl,trivial⟩)
    ·refine zYe [] [] rfl ?_;show Tri ..;refine zAh rfl h (fun hb h=>?_) (fun hb h=>?_)
     ·refine zAf ?_;cases h;exact(Le.forget _ ⟨rfl,trivial⟩)
     ·refine zAb [] [] rfl ?_;cases h;exact(Le.forget _ ⟨rfl,trivial⟩)
  ·show Tri ..;refine zAk hle ?_;refine zAh rfl h (fun hb h=>?_) (fun hb h=>?_)
   ·refine zYe [] [] rfl ?_;show Tri ..;refine zAe ?_;cases h;replace h:some _=some _:=ho1;have hy:=Option.some.inj h;subst hy;unfold zAw;exact⟨_,Le.refl _ _,rfl,rfl⟩
   ·refine zAf ?_;cases h;exact⟨_,rfl,(Le.forget _ trivial)⟩
 ·subst hz;obtain _:=z;replace h:=ho1;show Tri ..;refine zAk hle ?_;refine zYe [] [] rfl ?_;show Tri ..;refine zAe ?_;have hy:=Option.some.inj h;subst hy;unfold zAw;exact⟨_,Le.refl _ _,rfl,rfl⟩
def zPr (xs:List AV) (r:Ret):Prop:=∃ (a0:List UInt8) (y0:Bool),zDN a0=some y0/\xs=[.s (.str a0)]/\r = .val (.s (.bool y0))
def zHp:zAz:=zAy fun xs r=>zPr xs r
theorem zJr:PSound Tryz.prog 142 zHp:=by
 have gok:=@gok0 Tryz.prog;refine zAA tokW Tryz.call142 Tryz.func142 rfl (fun xs r h=>by obtain⟨_,_,_,rfl,_⟩:=h; show 1<=11; decide) 11 rfl ?_;rintro xs r w0 G0 ⟨s1,y0,h,rfl,rfl⟩ _;rw[zDN]at h;refine zYe [] [] rfl ?_;show Tri ..;refine zAa ?_;refine zYe [] [] rfl ?_;show Tri ..;obtain⟨fl,hj,ho1⟩:=zAc h;refine zBt (fl:=fl) (fun z=>match z with | _=>⟨ofL [],fun _=>none,0⟩) ?_ (fun z σ' hz hle=>?_)
 ·replace h:=hj;refine zAl ?_;refine zAa ?_;refine zYe [] [] rfl ?_;show Tri ..;obtain⟨x2,hj,h⟩:=zAc h;refine zAv ⟨ofL [(4,.s (.bool x2))],fun _=>none,0⟩ ?_ (fun σ' hle=>?_)
  ·replace h:=hj;refine zAh rfl h (fun hb h=>?_) (fun hb h=>?_)
   ·refine zAf ?_;cases h;exact(Le.forget _ ⟨rfl,trivial⟩)
   ·refine zYe [] [] rfl ?_;show Tri ..;refine zAh rfl h (fun hb h=>?_) (fun hb h=>?_)
    ·refine zAf ?_;cases h;exact(Le.forget _ ⟨rfl,trivial⟩)
    ·refine zYe [] [] rfl ?_;show Tri ..;refine zAh rfl h (fun hb h=>?_) (fun hb h=>?_)
     ·refine zAf ?_;cases h;exact(Le.forget _ ⟨rfl,trivial⟩)
     ·refine zYe [] [] rfl ?_;show Tri ..;refine zAh rfl h (fun hb h=>?_) (fun hb h=>?_)
      ·refine zAf ?_;cases h;exact(Le.forget _ ⟨rfl,trivial⟩)
      ·refine zYe [] [] rfl ?_;show Tri ..;refine zAh rfl h (fun hb h=>?_) (fun hb h=>?_)
       ·refine zAf ?_;cases h;exact(Le.forget _ ⟨rfl,trivial⟩)
       ·refine zAb [] [] rfl ?_;cases h;exact(Le.forget _ ⟨rfl,trivial⟩)
  ·show Tri ..;refine zAk hle ?_;refine zAh rfl h (fun hb h=>?_) (fun hb h=>?_)
   ·refine zYe [] [] rfl ?_;show Tri ..;refine zAe ?_;cases h;replace h:some _=some _:=ho1;have hy:=Option.some.inj h;subst hy;unfold zAw;exact⟨_,Le.refl _ _,rfl,rfl⟩
   ·refine zAf ?_;cases h;exact⟨_,rfl,(Le.forget _ trivial)⟩
 ·subst hz;obtain _:=z;replace h:=ho1;show Tri ..;refine zAk hle ?_;refine zYe [] [] rfl ?_;show Tri ..;refine zAe ?_;have hy:=Option.some.inj h;subst hy;unfold zAw;exact⟨_,Le.refl _ _,rfl,rfl⟩
def zPq (n:Nat) (xs:List AV) (r:Ret):Prop:=∃ (a0:List UInt8) (y0:Bool),zEE n a0=some y0/\xs=[.s (.str a0)]/\r = .val (.s (.bool y0))
def zKf:zAz:=zAy fun xs r=>∃ n,zPq n xs r
theorem zOa:PSound Tryz.prog 139 zKf:=by
 have gok:∀ f s,look? f [(170,zJg),(171,zGv),(172,zJf),(142,zHp)]=some s->PSound Tryz.prog f s:=zAt (by
  simp only[List.forall_mem_cons]
  exact⟨zNb,zJQ,zNa,zJr,by simp⟩)
 refine zAA tokW Tryz.call139 Tryz.func139 rfl (fun xs r h=>by obtain⟨n,_,_,_,rfl,_⟩:=h; show 1<=34; decide) 34 rfl ?_;rintro xs r w0 G0 ⟨n,s1,y0,h,rfl,rfl⟩ _;rw[zEE]at h;refine zYe [] [] rfl ?_;show Tri ..;refine zAa ?_;refine zYe [] [] rfl ?_;show Tri ..;refine zAh rfl h (fun hb h=>?_) (fun hb h=>?_)
 ·refine zAa ?_;obtain⟨x2,hj,h⟩:=zAc h;refine zAv ⟨ofL [(2,.s (.bool x2))],fun _=>none,0⟩ ?_ (fun σ' hle=>?_)
  ·replace h:=hj;refine zAb [] [8] rfl ?_;obtain⟨y3,hy3,h⟩:=zAc h;refine⟨_,⟨_,_,_,hy3,rfl,rfl⟩,?_⟩
   intro b hb;cases b with
   | true =>
    replace h:=zAE hb.symm h;cases h;exact(Le.forget _ ⟨rfl,trivial⟩)
   | false =>
    replace h:=zAD hb.symm h;obtain⟨y4,hy4,h⟩:=zAc h;refine⟨_,⟨_,_,_,hy4,rfl,rfl⟩,?_⟩
    cases h;exact(Le.forget _ ⟨rfl,trivial⟩)
  ·show Tri ..;refine zAk hle ?_;refine zAe ?_;have hy:=Option.some.inj h;subst hy;unfold zAw;exact⟨_,Le.refl _ _,rfl,rfl⟩
 ·refine zAf ?_;show Tri ..;refine zAa ?_;obtain⟨x5,hj,h⟩:=zAc h;refine zAv ⟨ofL [(2,.s (.bool x5))],fun _=>none,0⟩ ?_ (fun σ' hle=>?_)
  ·replace h:=hj;refine zAb [] [15,20,24,29] rfl ?_;intro b hb;cases b with
   | true =>
    replace h:=zAE hb.symm h;intro b hb;cases b with
    | true =>
     replace h:=zAE hb.symm h;obtain⟨y6,hy6,h⟩:=zAc h;refine⟨_,⟨_,_,_,hy6,rfl,rfl⟩,?_⟩
     intro b hb;cases b with
     | true =>
      replace h:=zAE hb.symm h;obtain⟨y7,hy7,h⟩:=zAc h;refine⟨_,⟨_,_,hy7,rfl,rfl⟩,?_⟩
      intro b hb;cases b with
      | true =>
       replace h:=zAE hb.symm h;obtain⟨y8,hy8,h⟩:=zAc h;refine⟨_,⟨_,_,hy8,rfl,rfl⟩,?_⟩
       cases h;exact(Le.forget _ ⟨rfl,trivial⟩)
      | false =>
       replace h:=zAD hb.symm h;cases h;exact(Le.forget _ ⟨rfl,trivial⟩)
     | false =>
      replace h:=zAD hb.symm h;intro b hb;subst hb;cases h;exact(Le.forget _ ⟨rfl,trivial⟩)
    | false =>
     replace h:=zAD hb.symm h;intro b hb;subst hb;intro b hb;subst hb;cases h;exact(Le.forget _ ⟨rfl,trivial⟩)
   | false =>
    replace h:=zAD hb.symm h;intro b hb;subst hb;intro b hb;subst hb;intro b hb;subst hb;cases h;exact(Le.forget _ ⟨rfl,trivial⟩)
  ·show Tri ..;refine zAk hle ?_;refine zAe ?_;have hy:=Option.some.inj h;subst hy;unfold zAw;exact⟨_,Le.refl _ _,rfl,rfl⟩
def zKR (xs:List AV) (r:Ret):Prop:=∃ (a0:List UInt8) (a1:List UInt8) (y0:List UInt8) (y1:List UInt8) (y2:Bool),zCS a0 a1=some (y0,y1,y2)/\xs=[.s (.str a0),.s (.str a1)]/\r = .val (.tup [.s (.str y0),.s (.str y1),.s (.bool y2)])
def zG3:zAz:=zAy fun xs r=>zKR xs r
theorem zKz:PSound Tryz.prog 193 zG3:=by
 have gok:∀ f s,look? f [(200,zF1)]=some s->PSound Tryz.prog f s:=zAt (by
  simp only[List.forall_mem_cons]
  exact⟨zI3,by simp⟩)
 refine zAA tokW Tryz.call193 Tryz.func193 rfl (fun xs r h=>by obtain⟨_,_,_,_,_,_,rfl,_⟩:=h; show 2<=23; decide) 23 rfl ?_;rintro xs r w0 G0 ⟨s1,sep2,y0,y1,y2,h,rfl,rfl⟩ _;rw[zCS]at h;refine zYe [] [] rfl ?_;show Tri ..;refine zAa ?_;refine zYe [] [] rfl ?_;obtain⟨y3,hy3,h⟩:=zAc h;refine⟨_,⟨_,_,_,hy3,rfl,rfl⟩,?_⟩
 show Tri ..;refine zYe [] [] rfl ?_;show Tri ..;refine zAh rfl h (fun hb h=>?_) (fun hb h=>?_)
 ·refine zAa ?_;refine zAQ [] [] [] rfl (by decide +kernel) ?_;obtain⟨hq,h⟩:=zAK h;refine And.intro hq ?_;obtain⟨hq,h⟩:=zAK h;refine And.intro hq ?_;show Tri ..;refine zAe ?_;obtain⟨hj1,hk1⟩:=pij h;subst hj1;obtain⟨hj2,hk2⟩:=Prod.mk.inj hk1;subst hj2;subst hk2;unfold zAw;exact⟨_,Le.refl _ _,rfl,rfl⟩
 ·refine zAf ?_;show Tri ..;refine zYe [] [] rfl ?_;show Tri ..;refine zAe ?_;obtain⟨hj1,hk1⟩:=pij h;subst hj1;obtain⟨hj2,hk2⟩:=Prod.mk.inj hk1;subst hj2;subst hk2;unfold zAw;exact⟨_,Le.refl _ _,rfl,rfl⟩
def zPx (xs:List AV) (r:Ret):Prop:=∃ (a0:List UInt8) (a1:List UInt8) (y0:List UInt8) (y1:List UInt8) (y2:Bool),zEI a0 a1=some (y0,y1,y2)/\xs=[.s (.str a0),.s (.str a1)]/\r = .val (.tup [.s (.str y0),.s (.str y1),.s (.bool y2)])
def zKj:zAz:=zAy fun xs r=>zPx xs r
theorem zOe:PSound Tryz.prog 173 zKj:=by
 have gok:∀ f s,look? f [(193,zG3)]=some s->PSound Tryz.prog f s:=zAt (by
  simp only[List.forall_mem_cons]
  exact⟨zKz,by simp⟩)
 refine zAA tokW Tryz.call173 Tryz.func173 rfl (fun xs r h=>by obtain⟨_,_,_,_,_,_,rfl,_⟩:=h; show 2<=13; decide) 13 rfl ?_;rintro xs r w0 G0 ⟨s1,sep2,y0,y1,y2,h,rfl,rfl⟩ _;rw[zEI]at h;refine zYe [] [] rfl ?_;show Tri ..;refine zYe [] [] rfl ?_;obtain⟨⟨y3,y4,y5⟩,hy3,h⟩:=zAc h;refine⟨_,⟨_,_,_,_,_,hy3,rfl,rfl⟩,?_⟩
 show Tri ..;refine zAe ?_;obtain⟨hj1,hk1⟩:=pij h;subst hj1;obtain⟨hj2,hk2⟩:=Prod.mk.inj hk1;subst hj2;subst hk2;unfold zAw;exact⟨_,Le.refl _ _,rfl,rfl⟩
def zPs (n:Nat) (xs:List AV) (r:Ret):Prop:=∃ (a0:List UInt8) (y0:Bool),zDO n a0=some y0/\xs=[.s (.str a0)]/\r = .val (.s (.bool y0))
def zKg:zAz:=zAy fun xs r=>∃ n,zPs n xs r
theorem zOb:PSound Tryz.prog 174 zKg:=by
 have gok:=@gok0 Tryz.prog;refine zAA tokW Tryz.call174 Tryz.func174 rfl (fun xs r h=>by obtain⟨n,_,_,_,rfl,_⟩:=h; show 1<=22; decide) 22 rfl ?_;rintro xs r w0 G0 ⟨n,s1,y0,h,rfl,rfl⟩ _;rw[zDO]at h;refine zYe [] [] rfl ?_;show Tri ..;refine zAa ?_;refine zYe [] [] rfl ?_;show Tri ..;obtain⟨fl,hl,ho1⟩:=zAc h;refine zBt (fl:=fl) (fun z=>match z with | _=>⟨ofL [(0,.s (.str s1))],fun _=>none,0⟩) ?_ (fun z σ' hz hle=>?_)
 ·refine zAl (zAF (X:=Nat×Int) (fun y=>match y with | (k,i2)=>⟨ofL [(0,.s (.str s1)),(3,.s (.int .i64 i2))],fun _=>none,0⟩) (fun y=>zBz s1 y.1 y.2=some fl) (fun y=>y.1) (n,0) hl ?_ ?_)
  ·exact(Le.forget _ ⟨rfl,rfl,trivial⟩)
  ·rintro⟨k,i2⟩ h;cases k with
   | zero=>cases h
   | succ k =>
    replace h:zBz s1 (k+1) i2=some fl:=h;rw[zBz]at h;refine zAa ?_;refine zYe [] [] rfl ?_;show Tri ..;refine zAh rfl h (fun hb h=>?_) (fun hb h=>?_)
    ·refine zAf ?_;show Tri ..;refine zAa ?_;refine zAl ?_;refine zAa ?_;obtain⟨x3,hj,h⟩:=zAc h;refine zAv ⟨ofL [(0,.s (.str s1)),(3,.s (.int .i64 i2)),(19,.s (.bool x3))],fun _=>none,0⟩ ?_ (fun σ' hle=>?_)
     ·replace h:=hj;refine zAb [] [12,14,17] rfl ?_;obtain⟨c4,hc4,h⟩:=zAc h;refine And.intro (zBJ hc4).1 ?_;intro v5 hv5;obtain rfl:(c4.toNat:Int)=v5:=(hv5.trans (zBJ hc4).2).symm;intro b hb;cases b with
      | true =>
       replace h:=zAE hb.symm h;cases h;exact(Le.forget _ ⟨rfl,rfl,rfl,trivial⟩)
      | false =>
       replace h:=zAD hb.symm h;obtain⟨c6,hc6,h⟩:=zAc h;refine And.intro (zBJ hc6).1 ?_;intro v7 hv7;obtain rfl:(c6.toNat:Int)=v7:=(hv7.trans (zBJ hc6).2).symm;cases h;exact(Le.forget _ ⟨rfl,rfl,rfl,trivial⟩)
     ·show Tri ..;refine zAk hle ?_;refine zAh rfl h (fun hb h=>?_) (fun hb h=>?_)
      ·refine zYe [] [] rfl ?_;show Tri ..;refine zAe ?_;cases h;replace h:some _=some _:=ho1;have hy:=Option.some.inj h;subst hy;unfold zAw;exact⟨_,Le.refl _ _,rfl,rfl⟩
      ·refine zAf ?_;show Tri ..;refine zAb [] [] rfl ?_;refine⟨(k,IntKind.i64.wrap (i2+1)),h,(Le.forget _ ⟨rfl,rfl,trivial⟩),Nat.lt_succ_self k⟩
    ·refine zAI ?_;cases h;exact⟨_,rfl,(Le.forget _ ⟨rfl,trivial⟩)⟩
 ·subst hz;obtain _:=z;replace h:=ho1;show Tri ..;refine zAk hle ?_;refine zYe [] [] rfl ?_;show Tri ..;refine zAe ?_;have hy:=Option.some.inj h;subst hy;unfold zAw;exact⟨_,Le.refl _ _,rfl,rfl⟩
def zPp (n:Nat) (xs:List AV) (r:Ret):Prop:=∃ (a0:List UInt8) (y0:Bool),zDM n a0=some y0/\xs=[.s (.str a0)]/\r = .val (.s (.bool y0))
def zKe:zAz:=zAy fun xs r=>∃ n,zPp n xs r
theorem zN9:PSound Tryz.prog 140 zKe:=by
 have gok:∀ f s,look? f [(173,zKj),(174,zKg)]=some s->PSound Tryz.prog f s:=zAt (by
  simp only[List.forall_mem_cons]
  exact⟨zOe,zOb,by simp⟩)
 refine zAA tokW Tryz.call140 Tryz.func140 rfl (fun xs r h=>by obtain⟨n,_,_,_,rfl,_⟩:=h; show 1<=27; decide) 27 rfl ?_;rintro xs r w0 G0 ⟨n,s1,y0,h,rfl,rfl⟩ _;rw[zDM]at h;refine zYe [] [] rfl ?_;show Tri ..;refine zYe [] [] rfl ?_;obtain⟨⟨y2,y3,y4⟩,hy2,h⟩:=zAc h;refine⟨_,⟨_,_,_,_,_,hy2,rfl,rfl⟩,?_⟩
 show Tri ..;refine zAa ?_;obtain⟨x5,hj,h⟩:=zAc h;refine zAv ⟨ofL [(2,.s (.bool x5))],fun _=>none,0⟩ ?_ (fun σ' hle=>?_)
 ·replace h:=hj;refine zAb [] [15,19,22] rfl ?_;intro b hb;cases b with
  | true =>
   replace h:=zAE hb.symm h;obtain⟨y6,hy6,h⟩:=zAc h;refine⟨_,⟨_,_,_,hy6,rfl,rfl⟩,?_⟩
   intro b hb;cases b with
   | true =>
    replace h:=zAE hb.symm h;intro b hb;cases b with
    | true =>
     replace h:=zAE hb.symm h;cases h;exact(Le.forget _ ⟨rfl,trivial⟩)
    | false =>
     replace h:=zAD hb.symm h;obtain⟨y7,hy7,h⟩:=zAc h;refine⟨_,⟨_,_,_,hy7,rfl,rfl⟩,?_⟩
     cases h;exact(Le.forget _ ⟨rfl,trivial⟩)
   | false =>
    replace h:=zAD hb.symm h;cases h;exact(Le.forget _ ⟨rfl,trivial⟩)
  | false =>
   replace h:=zAD hb.symm h;intro b hb;subst hb;cases h;exact(Le.forget _ ⟨rfl,trivial⟩)
 ·show Tri ..;refine zAk hle ?_;refine zAe ?_;have hy:=Option.some.inj h;subst hy;unfold zAw;exact⟨_,Le.refl _ _,rfl,rfl⟩
def zQF (n:Nat) (xs:List AV) (r:Ret):Prop:=∃ (a0:List UInt8) (y0:Bool),zFg n a0=some y0/\xs=[.s (.str a0)]/\r = .val (.s (.bool y0))
def zLm:zAz:=zAy fun xs r=>∃ n,zQF n xs r
theorem zP0:PSound Tryz.prog 141 zLm:=by
 have gok:=@gok0 Tryz.prog;refine zAA tokW Tryz.call141 Tryz.func141 rfl (fun xs r h=>by obtain⟨n,_,_,_,rfl,_⟩:=h; show 1<=23; decide) 23 rfl ?_;rintro xs r w0 G0 ⟨n,s1,y0,h,rfl,rfl⟩ _;rw[zFg]at h;refine zYe [] [] rfl ?_;show Tri ..;refine zAa ?_;refine zYe [] [] rfl ?_;show Tri ..;obtain⟨fl,hl,ho1⟩:=zAc h;refine zBt (fl:=fl) (fun z=>match z with | _=>⟨ofL [(0,.s (.str s1))],fun _=>none,0⟩) ?_ (fun z σ' hz hle=>?_)
 ·refine zAl (zAF (X:=Nat×Int) (fun y=>match y with | (k,i2)=>⟨ofL [(0,.s (.str s1)),(3,.s (.int .i64 i2))],fun _=>none,0⟩) (fun y=>zBQ s1 y.1 y.2=some fl) (fun y=>y.1) (n,0) hl ?_ ?_)
  ·exact(Le.forget _ ⟨rfl,rfl,trivial⟩)
  ·rintro⟨k,i2⟩ h;cases k with
   | zero=>cases h
   | succ k =>
    replace h:zBQ s1 (k+1) i2=some fl:=h;rw[zBQ]at h;refine zAa ?_;refine zYe [] [] rfl ?_;show Tri ..;refine zAh rfl h (fun hb h=>?_) (fun hb h=>?_)
    ·refine zAf ?_;show Tri ..;refine zAa ?_;refine zAl ?_;refine zAa ?_;obtain⟨x3,hj,h⟩:=zAc h;refine zAv ⟨ofL [(0,.s (.str s1)),(3,.s (.int .i64 i2)),(19,.s (.bool x3))],fun _=>none,0⟩ ?_ (fun σ' hle=>?_)
     ·replace h:=hj;refine zAb [] [12,14,17] rfl ?_;obtain⟨c4,hc4,h⟩:=zAc h;refine And.intro (zBJ hc4).1 ?_;intro v5 hv5;obtain rfl:(c4.toNat:Int)=v5:=(hv5.trans (zBJ hc4).2).symm;intro b hb;cases b with
      | true =>
       replace h:=zAE hb.symm h;cases h;exact(Le.forget _ ⟨rfl,rfl,rfl,trivial⟩)
      | false =>
       replace h:=zAD hb.symm h;obtain⟨c6,hc6,h⟩:=zAc h;refine And.intro (zBJ hc6).1 ?_;intro v7 hv7;obtain rfl:(c6.toNat:Int)=v7:=(hv7.trans (zBJ hc6).2).symm;cases h;exact(Le.forget _ ⟨rfl,rfl,rfl,trivial⟩)
     ·show Tri ..;refine zAk hle ?_;refine zAh rfl h (fun hb h=>?_) (fun hb h=>?_)
      ·refine zYe [] [] rfl ?_;show Tri ..;refine zAe ?_;cases h;replace h:some _=some _:=ho1;have hy:=Option.some.inj h;subst hy;unfold zAw;exact⟨_,Le.refl _ _,rfl,rfl⟩
      ·refine zAf ?_;show Tri ..;refine zAb [] [] rfl ?_;refine⟨(k,IntKind.i64.wrap (i2+1)),h,(Le.forget _ ⟨rfl,rfl,trivial⟩),Nat.lt_succ_self k⟩
    ·refine zAI ?_;cases h;exact⟨_,rfl,(Le.forget _ ⟨rfl,trivial⟩)⟩
 ·subst hz;obtain _:=z;replace h:=ho1;show Tri ..;refine zAk hle ?_;refine zYe [] [] rfl ?_;show Tri ..;refine zAe ?_;have hy:=Option.some.inj h;subst hy;unfold zAw;exact⟨_,Le.refl _ _,rfl,rfl⟩
def zQD (xs:List AV) (r:Ret):Prop:=∃ (a0:List UInt8) (y0:Bool),zFf a0=some y0/\xs=[.s (.str a0)]/\r = .val (.s (.bool y0))
def zLk:zAz:=zAy fun xs r=>zQD xs r
theorem zPY:PSound Tryz.prog 143 zLk:=by
 have gok:∀ f s,look? f [(175,zF0)]=some s->PSound Tryz.prog f s:=zAt (by
  simp only[List.forall_mem_cons]
  exact⟨zI2,by simp⟩)
 refine zAA tokW Tryz.call143 Tryz.func143 rfl (fun xs r h=>by obtain⟨_,_,_,rfl,_⟩:=h; show 1<=18; decide) 18 rfl ?_;rintro xs r w0 G0 ⟨s1,y0,h,rfl,rfl⟩ _;rw[zFf]at h;refine zYe [] [] rfl ?_;show Tri ..;refine zAa ?_;obtain⟨x2,hj,h⟩:=zAc h;refine zAv ⟨ofL [(2,.s (.bool x2))],fun _=>none,0⟩ ?_ (fun σ' hle=>?_)
 ·replace h:=hj;refine zAb [] [6,8,12,14] rfl ?_;intro b hb;cases b with
  | true =>
   replace h:=zAE hb.symm h;obtain⟨c3,hc3,h⟩:=zAc h;refine And.intro (zBJ hc3).1 ?_;intro v4 hv4;obtain rfl:(c3.toNat:Int)=v4:=(hv4.trans (zBJ hc3).2).symm;obtain⟨y5,hy5,h⟩:=zAc h;refine⟨_,⟨_,_,_,hy5,rfl,rfl⟩,?_⟩
   intro b hb;cases b with
   | true =>
    replace h:=zAE hb.symm h;obtain⟨c6,hc6,h⟩:=zAc h;refine And.intro (zBJ hc6).1 ?_;intro v7 hv7;obtain rfl:(c6.toNat:Int)=v7:=(hv7.trans (zBJ hc6).2).symm;obtain⟨y8,hy8,h⟩:=zAc h;refine⟨_,⟨_,_,_,hy8,rfl,rfl⟩,?_⟩
    cases h;exact(Le.forget _ ⟨rfl,trivial⟩)
   | false =>
    replace h:=zAD hb.symm h;cases h;exact(Le.forget _ ⟨rfl,trivial⟩)
  | false =>
   replace h:=zAD hb.symm h;intro b hb;subst hb;cases h;exact(Le.forget _ ⟨rfl,trivial⟩)
 ·show Tri ..;refine zAk hle ?_;refine zAe ?_;have hy:=Option.some.inj h;subst hy;unfold zAw;exact⟨_,Le.refl _ _,rfl,rfl⟩
def zAq (p:Unit):List S:=[.str [],.int .i64 0,.nf,.str [114,111,119],.int .i64 0,.fn 138,.str [115,121,109],.int .i64 0,.fn 139,.str [110,117,109],.int .i64 0,.fn 140,.str [116,101,120,116],.int .i64 0,.fn 141,.str [102,114,97,99],.int .i64 2,.fn 138,.str [114,111,111,116],.int .i64 2,.fn 138,.str [115,117,98],.int .i64 2,.fn 138,.str [115,117,112],.int .i64 2,.fn 138,.str [98,111,116,104],.int .i64 3,.fn 138,.str [97,99,99,101,110,116],.int .i64 1,.fn 142,.str [102,101,110,99,101],.int .i64 1,.fn 143,.str [109,97,116,114,105,120],.int .i64 0,.fn 138]
def zQE (xs:List AV) (r:Ret):Prop:=∃ (y0:Unit),zGw=some y0/\xs=[]/\r = .val (.agg ((zAq y0).map .s))
def zLl:zAz:=zAy fun xs r=>zQE xs r
theorem zPZ:PSound Tryz.prog 109 zLl:=by
 have gok:=@gok0 Tryz.prog;refine zAA tokW Tryz.call109 Tryz.func109 rfl (fun xs r h=>by obtain⟨_,_,rfl,_⟩:=h; show 0<=14; decide) 14 rfl ?_;rintro xs r w0 G0 ⟨y0,h,rfl,rfl⟩ _;rw[zGw]at h;refine zYe [0] [] rfl ?_;show Tri ..;refine zYe [] [] rfl ?_;show Tri ..;refine zAe ?_;have hy:=Option.some.inj h;subst hy;unfold zAw;exact⟨_,Le.refl _ _,rfl,rfl⟩
def zAm (p:(Unit×Int)):List S:=[.str [],.int .i64 0,.nf,.str [114,111,119],.int .i64 0,.fn 138,.str [115,121,109],.int .i64 0,.fn 139,.str [110,117,109],.int .i64 0,.fn 140,.str [116,101,120,116],.int .i64 0,.fn 141,.str [102,114,97,99],.int .i64 2,.fn 138,.str [114,111,111,116],.int .i64 2,.fn 138,.str [115,117,98],.int .i64 2,.fn 138,.str [115,117,112],.int .i64 2,.fn 138,.str [98,111,116,104],.int .i64 3,.fn 138,.str [97,99,99,101,110,116],.int .i64 1,.fn 142,.str [102,101,110,99,101],.int .i64 1,.fn 143,.str [109,97,116,114,105,120],.int .i64 0,.fn 138,.int .i64 p.2]
def zJ6 (n:Nat) (xs:List AV) (os:List Ob) (x:AV) (os':List (Option Ob)):Prop:=∃ (a0:(Unit×Int)) (a1:Nd) (y0:Bool) (z0:(Unit×Int)),zCy n a0 a1=some (y0,z0)/\xs=[.op 0 0,.s (.pt (Nd.enc a1))]/\os=[.box 167 ((zAm a0).map .s)]/\x = .s (.bool y0)/\os'=[some (.box 167 ((zAm z0).map .s))]
def zGu:zAz:=zC8 (fun xs os x os'=>∃ n,zJ6 n xs os x os')
theorem zJP:PSound Tryz.prog 144 zGu:=by
 have gok:∀ f s,look? f [(138,zLj),(139,zKf),(140,zKe),(141,zLm),(142,zHp),(143,zLk)]=some s->PSound Tryz.prog f s:=zAt (by
  simp only[List.forall_mem_cons]
  exact⟨zPX,zOa,zN9,zP0,zJr,zPY,by simp⟩)
 refine PSound.withNil (zFn tokW Tryz.call144 Tryz.func144 rfl (fun xs os x os' h=>by obtain⟨n,_,_,_,_,_,rfl,rfl,_,rfl⟩:=h; exact⟨by show 2<=120; decide,by show 1<=1; decide⟩) 120 rfl ?_) _;rintro xs os x os' w0 G0 B0 ⟨n,⟨_,o1S⟩,⟨a2A,a2B,a2D,a2C⟩,y0,z0,h,rfl,rfl,rfl,rfl⟩ _;rw[zCy]at h;refine zYe [] [] rfl ?_;show Tri ..;refine zAa ?_;refine zAa ?_;obtain⟨x3,hj,h⟩:=zAc h
 refine zAv ⟨ofL [(0,.op 0 0),(1,.s (.pt [.int .i64 a2A,.str a2B,.int .i64 a2D,.sl 4 (Nd.encs a2C)])),(34,.s (.bool x3))],ofH [(0,.box 167 [.s (.str []),.s (.int .i64 0),.s (.nf),.s (.str [114,111,119]),.s (.int .i64 0),.s (.fn 138),.s (.str [115,121,109]),.s (.int .i64 0),.s (.fn 139),.s (.str [110,117,109]),.s (.int .i64 0),.s (.fn 140),.s (.str [116,101,120,116]),.s (.int .i64 0),.s (.fn 141),.s (.str [102,114,97,99]),.s (.int .i64 2),.s (.fn 138),.s (.str [114,111,111,116]),.s (.int .i64 2),.s (.fn 138),.s (.str [115,117,98]),.s (.int .i64 2),.s (.fn 138),.s (.str [115,117,112]),.s (.int .i64 2),.s (.fn 138),.s (.str [98,111,116,104]),.s (.int .i64 3),.s (.fn 138),.s (.str [97,99,99,101,110,116]),.s (.int .i64 1),.s (.fn 142),.s (.str [102,101,110,99,101]),.s (.int .i64 1),.s (.fn 143),.s (.str [109,97,116,114,105,120]),.s (.int .i64 0),.s (.fn 138),.s (.int .i64 o1S)])],1⟩ ?_ (fun σ' hle=>?_)
 ·replace h:=hj;refine zAQ [] [10,17,22] [22] rfl (by decide +kernel) ?_;intro b hb;cases b with
  | true =>
   replace h:=zAE hb.symm h;intro b hb;subst hb;cases h;exact(Le.rnm [(0,0)] _ _ _ ⟨rfl,rfl,rfl,trivial⟩ ⟨rfl,⟨_,rfl,rfl⟩,trivial⟩)
  | false =>
   replace h:=zAD hb.symm h;intro b hb;cases b with
   | true =>
    replace h:=zAE hb.symm h;cases h;exact(Le.rnm [(0,0)] _ _ _ ⟨rfl,rfl,rfl,trivial⟩ ⟨rfl,⟨_,rfl,rfl⟩,trivial⟩)
   | false =>
    replace h:=zAD hb.symm h;intro vsp hvsp;cases hc:(a2A == 1) with
    | true =>
     replace h:=zAE hc h;obtain rfl:(1:Int)=vsp:=(hvsp.trans (eq_of_beq hc)).symm;refine And.intro (by decide) ?_;obtain⟨y4,hy4,h⟩:=zAc h;refine⟨_,⟨_,_,hy4,rfl,rfl⟩,?_⟩
     cases h;exact(Le.rnm [(0,0)] _ _ _ ⟨rfl,rfl,rfl,trivial⟩ ⟨rfl,⟨_,rfl,rfl⟩,trivial⟩)
    | false =>
     replace h:=zAD hc h;cases hc:(a2A == 2) with
     | true =>
      replace h:=zAE hc h;obtain rfl:(2:Int)=vsp:=(hvsp.trans (eq_of_beq hc)).symm;refine And.intro (by decide) ?_;obtain⟨y5,hy5,h⟩:=zAc h;refine⟨_,⟨_,_,_,hy5,rfl,rfl⟩,?_⟩
      cases h;exact(Le.rnm [(0,0)] _ _ _ ⟨rfl,rfl,rfl,trivial⟩ ⟨rfl,⟨_,rfl,rfl⟩,trivial⟩)
     | false =>
      replace h:=zAD hc h;cases hc:(a2A == 3) with
      | true =>
       replace h:=zAE hc h;obtain rfl:(3:Int)=vsp:=(hvsp.trans (eq_of_beq hc)).symm;refine And.intro (by decide) ?_;obtain⟨y6,hy6,h⟩:=zAc h;refine⟨_,⟨_,_,_,hy6,rfl,rfl⟩,?_⟩
       cases h;exact(Le.rnm [(0,0)] _ _ _ ⟨rfl,rfl,rfl,trivial⟩ ⟨rfl,⟨_,rfl,rfl⟩,trivial⟩)
      | false =>
       replace h:=zAD hc h;cases hc:(a2A == 4) with
       | true =>
        replace h:=zAE hc h;obtain rfl:(4:Int)=vsp:=(hvsp.trans (eq_of_beq hc)).symm;refine And.intro (by decide) ?_;obtain⟨y7,hy7,h⟩:=zAc h;refine⟨_,⟨_,_,_,hy7,rfl,rfl⟩,?_⟩
        cases h;exact(Le.rnm [(0,0)] _ _ _ ⟨rfl,rfl,rfl,trivial⟩ ⟨rfl,⟨_,rfl,rfl⟩,trivial⟩)
       | false =>
        replace h:=zAD hc h;cases hc:(a2A == 5) with
        | true =>
         replace h:=zAE hc h;obtain rfl:(5:Int)=vsp:=(hvsp.trans (eq_of_beq hc)).symm;refine And.intro (by decide) ?_;obtain⟨y8,hy8,h⟩:=zAc h;refine⟨_,⟨_,_,hy8,rfl,rfl⟩,?_⟩
         cases h;exact(Le.rnm [(0,0)] _ _ _ ⟨rfl,rfl,rfl,trivial⟩ ⟨rfl,⟨_,rfl,rfl⟩,trivial⟩)
        | false =>
         replace h:=zAD hc h;cases hc:(a2A == 6) with
         | true =>
          replace h:=zAE hc h;obtain rfl:(6:Int)=vsp:=(hvsp.trans (eq_of_beq hc)).symm;refine And.intro (by decide) ?_;obtain⟨y9,hy9,h⟩:=zAc h;refine⟨_,⟨_,_,hy9,rfl,rfl⟩,?_⟩
          cases h;exact(Le.rnm [(0,0)] _ _ _ ⟨rfl,rfl,rfl,trivial⟩ ⟨rfl,⟨_,rfl,rfl⟩,trivial⟩)
         | false =>
          replace h:=zAD hc h;cases hc:(a2A == 7) with
          | true =>
           replace h:=zAE hc h;obtain rfl:(7:Int)=vsp:=(hvsp.trans (eq_of_beq hc)).symm;refine And.intro (by decide) ?_;obtain⟨y10,hy10,h⟩:=zAc h;refine⟨_,⟨_,_,hy10,rfl,rfl⟩,?_⟩
           cases h;exact(Le.rnm [(0,0)] _ _ _ ⟨rfl,rfl,rfl,trivial⟩ ⟨rfl,⟨_,rfl,rfl⟩,trivial⟩)
          | false =>
           replace h:=zAD hc h;cases hc:(a2A == 8) with
           | true =>
            replace h:=zAE hc h;obtain rfl:(8:Int)=vsp:=(hvsp.trans (eq_of_beq hc)).symm;refine And.intro (by decide) ?_;obtain⟨y11,hy11,h⟩:=zAc h;refine⟨_,⟨_,_,hy11,rfl,rfl⟩,?_⟩
            cases h;exact(Le.rnm [(0,0)] _ _ _ ⟨rfl,rfl,rfl,trivial⟩ ⟨rfl,⟨_,rfl,rfl⟩,trivial⟩)
           | false =>
            replace h:=zAD hc h;cases hc:(a2A == 9) with
            | true =>
             replace h:=zAE hc h;obtain rfl:(9:Int)=vsp:=(hvsp.trans (eq_of_beq hc)).symm;refine And.intro (by decide) ?_;obtain⟨y12,hy12,h⟩:=zAc h;refine⟨_,⟨_,_,hy12,rfl,rfl⟩,?_⟩
             cases h;exact(Le.rnm [(0,0)] _ _ _ ⟨rfl,rfl,rfl,trivial⟩ ⟨rfl,⟨_,rfl,rfl⟩,trivial⟩)
            | false =>
             replace h:=zAD hc h;cases hc:(a2A == 10) with
             | true =>
              replace h:=zAE hc h;obtain rfl:(10:Int)=vsp:=(hvsp.trans (eq_of_beq hc)).symm;refine And.intro (by decide) ?_;obtain⟨y13,hy13,h⟩:=zAc h;refine⟨_,⟨_,_,hy13,rfl,rfl⟩,?_⟩
              cases h;exact(Le.rnm [(0,0)] _ _ _ ⟨rfl,rfl,rfl,trivial⟩ ⟨rfl,⟨_,rfl,rfl⟩,trivial⟩)
             | false =>
              replace h:=zAD hc h;cases hc:(a2A == 11) with
              | true =>
               replace h:=zAE hc h;obtain rfl:(11:Int)=vsp:=(hvsp.trans (eq_of_beq hc)).symm;refine And.intro (by decide) ?_;obtain⟨y14,hy14,h⟩:=zAc h;refine⟨_,⟨_,_,hy14,rfl,rfl⟩,?_⟩
               cases h;exact(Le.rnm [(0,0)] _ _ _ ⟨rfl,rfl,rfl,trivial⟩ ⟨rfl,⟨_,rfl,rfl⟩,trivial⟩)
              | false =>
               replace h:=zAD hc h;cases hc:(a2A == 12) with
               | true =>
                replace h:=zAE hc h;obtain rfl:(12:Int)=vsp:=(hvsp.trans (eq_of_beq hc)).symm;refine And.intro (by decide) ?_;obtain⟨y15,hy15,h⟩:=zAc h;refine⟨_,⟨_,_,hy15,rfl,rfl⟩,?_⟩
                cases h;exact(Le.rnm [(0,0)] _ _ _ ⟨rfl,rfl,rfl,trivial⟩ ⟨rfl,⟨_,rfl,rfl⟩,trivial⟩)
               | false =>
                replace h:=zAD hc h;cases h
 ·show Tri ..;refine zAk hle ?_;refine zAh rfl h (fun hb h=>?_) (fun hb h=>?_)
  ·refine zYe [] [] rfl ?_;show Tri ..;refine zAe ?_;obtain⟨hj1,hk1⟩:=pij h;subst hj1 hk1;unfold zBp
   exact⟨_,(Le.rnm [(0,0)] [(4,.s (.bool false))] [(0,.box 167 [.s (.str []),.s (.int .i64 0),.s (.nf),.s (.str [114,111,119]),.s (.int .i64 0),.s (.fn 138),.s (.str [115,121,109]),.s (.int .i64 0),.s (.fn 139),.s (.str [110,117,109]),.s (.int .i64 0),.s (.fn 140),.s (.str [116,101,120,116]),.s (.int .i64 0),.s (.fn 141),.s (.str [102,114,97,99]),.s (.int .i64 2),.s (.fn 138),.s (.str [114,111,111,116]),.s (.int .i64 2),.s (.fn 138),.s (.str [115,117,98]),.s (.int .i64 2),.s (.fn 138),.s (.str [115,117,112]),.s (.int .i64 2),.s (.fn 138),.s (.str [98,111,116,104]),.s (.int .i64 3),.s (.fn 138),.s (.str [97,99,99,101,110,116]),.s (.int .i64 1),.s (.fn 142),.s (.str [102,101,110,99,101]),.s (.int .i64 1),.s (.fn 143),.s (.str [109,97,116,114,105,120]),.s (.int .i64 0),.s (.fn 138),.s (.int .i64 o1S)])] 1 ⟨rfl,trivial⟩ ⟨rfl,⟨_,rfl,rfl⟩,trivial⟩),rfl,rfl,rfl,rfl,trivial⟩
  ·refine zAf ?_;show Tri ..;refine zAa ?_;refine zYe [] [] rfl ?_;show Tri ..;refine zAl ?_;refine zYe [] [] rfl ?_;show Tri ..;refine zAh rfl h (fun hb h=>?_) (fun hb h=>?_)
   ·refine zAa ?_;obtain⟨x16,hj,h⟩:=zAc h
    refine zAv ⟨ofL [(4,.s (.bool x16))],ofH [(0,.box 167 [.s (.str []),.s (.int .i64 0),.s (.nf),.s (.str [114,111,119]),.s (.int .i64 0),.s (.fn 138),.s (.str [115,121,109]),.s (.int .i64 0),.s (.fn 139),.s (.str [110,117,109]),.s (.int .i64 0),.s (.fn 140),.s (.str [116,101,120,116]),.s (.int .i64 0),.s (.fn 141),.s (.str [102,114,97,99]),.s (.int .i64 2),.s (.fn 138),.s (.str [114,111,111,116]),.s (.int .i64 2),.s (.fn 138),.s (.str [115,117,98]),.s (.int .i64 2),.s (.fn 138),.s (.str [115,117,112]),.s (.int .i64 2),.s (.fn 138),.s (.str [98,111,116,104]),.s (.int .i64 3),.s (.fn 138),.s (.str [97,99,99,101,110,116]),.s (.int .i64 1),.s (.fn 142),.s (.str [102,101,110,99,101]),.s (.int .i64 1),.s (.fn 143),.s (.str [109,97,116,114,105,120]),.s (.int .i64 0),.s (.fn 138),.s (.int .i64 o1S)])],1⟩ ?_ (fun σ' hle=>?_)
    ·replace h:=hj;refine zAb [] [46,51] rfl ?_;intro b hb;cases b with
     | true =>
      replace h:=zAE hb.symm h;intro n17 hn17;obtain rfl:(a2C.length:Int)=n17:=(hn17.trans (congrArg (fun m:Nat=>(m:Int)) (rlen Nd.encs_eq a2C))).symm;cases h;exact(Le.rnm [(0,0)] _ _ _ ⟨rfl,trivial⟩ ⟨rfl,⟨_,rfl,rfl⟩,trivial⟩)
     | false =>
      replace h:=zAD hb.symm h;cases h;exact(Le.rnm [(0,0)] _ _ _ ⟨rfl,trivial⟩ ⟨rfl,⟨_,rfl,rfl⟩,trivial⟩)
    ·show Tri ..;refine zAk hle ?_;refine zAe ?_;obtain⟨hj1,hk1⟩:=pij h;subst hj1 hk1;unfold zBp
     exact⟨_,(Le.rnm [(0,0)] [(4,.s (.bool x16))] [(0,.box 167 [.s (.str []),.s (.int .i64 0),.s (.nf),.s (.str [114,111,119]),.s (.int .i64 0),.s (.fn 138),.s (.str [115,121,109]),.s (.int .i64 0),.s (.fn 139),.s (.str [110,117,109]),.s (.int .i64 0),.s (.fn 140),.s (.str [116,101,120,116]),.s (.int .i64 0),.s (.fn 141),.s (.str [102,114,97,99]),.s (.int .i64 2),.s (.fn 138),.s (.str [114,111,111,116]),.s (.int .i64 2),.s (.fn 138),.s (.str [115,117,98]),.s (.int .i64 2),.s (.fn 138),.s (.str [115,117,112]),.s (.int .i64 2),.s (.fn 138),.s (.str [98,111,116,104]),.s (.int .i64 3),.s (.fn 138),.s (.str [97,99,99,101,110,116]),.s (.int .i64 1),.s (.fn 142),.s (.str [102,101,110,99,101]),.s (.int .i64 1),.s (.fn 143),.s (.str [109,97,116,114,105,120]),.s (.int .i64 0),.s (.fn 138),.s (.int .i64 o1S)])] 1 ⟨rfl,trivial⟩ ⟨rfl,⟨_,rfl,rfl⟩,trivial⟩),rfl,rfl,rfl,rfl,trivial⟩
   ·refine zYe [] [] rfl ?_;show Tri ..;refine zAh rfl h (fun hb h=>?_) (fun hb h=>?_)
    ·refine zAa ?_;obtain⟨x18,hj,h⟩:=zAc h
     refine zAv ⟨ofL [(4,.s (.bool x18))],ofH [(0,.box 167 [.s (.str []),.s (.int .i64 0),.s (.nf),.s (.str [114,111,119]),.s (.int .i64 0),.s (.fn 138),.s (.str [115,121,109]),.s (.int .i64 0),.s (.fn 139),.s (.str [110,117,109]),.s (.int .i64 0),.s (.fn 140),.s (.str [116,101,120,116]),.s (.int .i64 0),.s (.fn 141),.s (.str [102,114,97,99]),.s (.int .i64 2),.s (.fn 138),.s (.str [114,111,111,116]),.s (.int .i64 2),.s (.fn 138),.s (.str [115,117,98]),.s (.int .i64 2),.s (.fn 138),.s (.str [115,117,112]),.s (.int .i64 2),.s (.fn 138),.s (.str [98,111,116,104]),.s (.int .i64 3),.s (.fn 138),.s (.str [97,99,99,101,110,116]),.s (.int .i64 1),.s (.fn 142),.s (.str [102,101,110,99,101]),.s (.int .i64 1),.s (.fn 143),.s (.str [109,97,116,114,105,120]),.s (.int .i64 0),.s (.fn 138),.s (.int .i64 o1S)])],1⟩ ?_ (fun σ' hle=>?_)
     ·replace h:=hj;refine zAQ [] [61,68,73,76,81,84,89] [] rfl (by decide +kernel) ?_;intro b hb;cases b with
      | true =>
       replace h:=zAE hb.symm h;intro b hb;cases b with
       | true =>
        replace h:=zAE hb.symm h;intro n19 hn19;obtain rfl:(a2C.length:Int)=n19:=(hn19.trans (congrArg (fun m:Nat=>(m:Int)) (rlen Nd.encs_eq a2C))).symm;intro b hb;cases b with
        | true =>
         replace h:=zAE hb.symm h;intro n20 hn20;obtain rfl:(a2C.length:Int)=n20:=(hn20.trans (congrArg (fun m:Nat=>(m:Int)) (rlen Nd.encs_eq a2C))).symm;intro b hb;cases b with
         | true =>
          replace h:=zAE hb.symm h;intro n21 hn21;obtain rfl:(a2C.length:Int)=n21:=(hn21.trans (congrArg (fun m:Nat=>(m:Int)) (rlen Nd.encs_eq a2C))).symm;obtain⟨hq,h⟩:=zAK h;refine And.intro hq ?_;cases h;exact(Le.rnm [(0,0)] _ _ _ ⟨rfl,trivial⟩ ⟨rfl,⟨_,rfl,rfl⟩,trivial⟩)
         | false =>
          replace h:=zAD hb.symm h;cases h;exact(Le.rnm [(0,0)] _ _ _ ⟨rfl,trivial⟩ ⟨rfl,⟨_,rfl,rfl⟩,trivial⟩)
        | false =>
         replace h:=zAD hb.symm h;intro b hb;subst hb;cases h;exact(Le.rnm [(0,0)] _ _ _ ⟨rfl,trivial⟩ ⟨rfl,⟨_,rfl,rfl⟩,trivial⟩)
       | false =>
        replace h:=zAD hb.symm h;intro b hb;subst hb;intro b hb;subst hb;cases h;exact(Le.rnm [(0,0)] _ _ _ ⟨rfl,trivial⟩ ⟨rfl,⟨_,rfl,rfl⟩,trivial⟩)
      | false =>
       replace h:=zAD hb.symm h;intro b hb;subst hb;intro b hb;subst hb;intro b hb;subst hb;cases h;exact(Le.rnm [(0,0)] _ _ _ ⟨rfl,trivial⟩ ⟨rfl,⟨_,rfl,rfl⟩,trivial⟩)
     ·show Tri ..;refine zAk hle ?_;refine zAe ?_;obtain⟨hj1,hk1⟩:=pij h;subst hj1 hk1;unfold zBp
      exact⟨_,(Le.rnm [(0,0)] [(4,.s (.bool x18))] [(0,.box 167 [.s (.str []),.s (.int .i64 0),.s (.nf),.s (.str [114,111,119]),.s (.int .i64 0),.s (.fn 138),.s (.str [115,121,109]),.s (.int .i64 0),.s (.fn 139),.s (.str [110,117,109]),.s (.int .i64 0),.s (.fn 140),.s (.str [116,101,120,116]),.s (.int .i64 0),.s (.fn 141),.s (.str [102,114,97,99]),.s (.int .i64 2),.s (.fn 138),.s (.str [114,111,111,116]),.s (.int .i64 2),.s (.fn 138),.s (.str [115,117,98]),.s (.int .i64 2),.s (.fn 138),.s (.str [115,117,112]),.s (.int .i64 2),.s (.fn 138),.s (.str [98,111,116,104]),.s (.int .i64 3),.s (.fn 138),.s (.str [97,99,99,101,110,116]),.s (.int .i64 1),.s (.fn 142),.s (.str [102,101,110,99,101]),.s (.int .i64 1),.s (.fn 143),.s (.str [109,97,116,114,105,120]),.s (.int .i64 0),.s (.fn 138),.s (.int .i64 o1S)])] 1 ⟨rfl,trivial⟩ ⟨rfl,⟨_,rfl,rfl⟩,trivial⟩),rfl,rfl,rfl,rfl,trivial⟩
    ·refine zAf ?_;show Tri ..;refine zAa ?_;obtain⟨x22,hj,h⟩:=zAc h
     refine zAv ⟨ofL [(4,.s (.bool x22))],ofH [(0,.box 167 [.s (.str []),.s (.int .i64 0),.s (.nf),.s (.str [114,111,119]),.s (.int .i64 0),.s (.fn 138),.s (.str [115,121,109]),.s (.int .i64 0),.s (.fn 139),.s (.str [110,117,109]),.s (.int .i64 0),.s (.fn 140),.s (.str [116,101,120,116]),.s (.int .i64 0),.s (.fn 141),.s (.str [102,114,97,99]),.s (.int .i64 2),.s (.fn 138),.s (.str [114,111,111,116]),.s (.int .i64 2),.s (.fn 138),.s (.str [115,117,98]),.s (.int .i64 2),.s (.fn 138),.s (.str [115,117,112]),.s (.int .i64 2),.s (.fn 138),.s (.str [98,111,116,104]),.s (.int .i64 3),.s (.fn 138),.s (.str [97,99,99,101,110,116]),.s (.int .i64 1),.s (.fn 142),.s (.str [102,101,110,99,101]),.s (.int .i64 1),.s (.fn 143),.s (.str [109,97,116,114,105,120]),.s (.int .i64 0),.s (.fn 138),.s (.int .i64 o1S)])],1⟩ ?_ (fun σ' hle=>?_)
     ·replace h:=hj;refine zAQ [] [102,107,112] [20] rfl (by decide +kernel) ?_;intro b hb;cases b with
      | true =>
       replace h:=zAE hb.symm h;intro n23 hn23;obtain rfl:(a2C.length:Int)=n23:=(hn23.trans (congrArg (fun m:Nat=>(m:Int)) (rlen Nd.encs_eq a2C))).symm;intro vsp hvsp;cases hc:(a2A == 1) with
       | true =>
        replace h:=zAE hc h;obtain rfl:(1:Int)=vsp:=(hvsp.trans (eq_of_beq hc)).symm;refine And.intro (by decide) ?_;cases h;exact(Le.rnm [(0,0)] _ _ _ ⟨rfl,trivial⟩ ⟨rfl,⟨_,rfl,rfl⟩,trivial⟩)
       | false =>
        replace h:=zAD hc h;cases hc:(a2A == 2) with
        | true =>
         replace h:=zAE hc h;obtain rfl:(2:Int)=vsp:=(hvsp.trans (eq_of_beq hc)).symm;refine And.intro (by decide) ?_;cases h;exact(Le.rnm [(0,0)] _ _ _ ⟨rfl,trivial⟩ ⟨rfl,⟨_,rfl,rfl⟩,trivial⟩)
        | false =>
         replace h:=zAD hc h;cases hc:(a2A == 3) with
         | true =>
          replace h:=zAE hc h;obtain rfl:(3:Int)=vsp:=(hvsp.trans (eq_of_beq hc)).symm;refine And.intro (by decide) ?_;cases h;exact(Le.rnm [(0,0)] _ _ _ ⟨rfl,trivial⟩ ⟨rfl,⟨_,rfl,rfl⟩,trivial⟩)
         | false =>
          replace h:=zAD hc h;cases hc:(a2A == 4) with
          | true =>
           replace h:=zAE hc h;obtain rfl:(4:Int)=vsp:=(hvsp.trans (eq_of_beq hc)).symm;refine And.intro (by decide) ?_;cases h;exact(Le.rnm [(0,0)] _ _ _ ⟨rfl,trivial⟩ ⟨rfl,⟨_,rfl,rfl⟩,trivial⟩)
          | false =>
           replace h:=zAD hc h;cases hc:(a2A == 5) with
           | true =>
            replace h:=zAE hc h;obtain rfl:(5:Int)=vsp:=(hvsp.trans (eq_of_beq hc)).symm;refine And.intro (by decide) ?_;cases h;exact(Le.rnm [(0,0)] _ _ _ ⟨rfl,trivial⟩ ⟨rfl,⟨_,rfl,rfl⟩,trivial⟩)
           | false =>
            replace h:=zAD hc h;cases hc:(a2A == 6) with
            | true =>
             replace h:=zAE hc h;obtain rfl:(6:Int)=vsp:=(hvsp.trans (eq_of_beq hc)).symm;refine And.intro (by decide) ?_;cases h;exact(Le.rnm [(0,0)] _ _ _ ⟨rfl,trivial⟩ ⟨rfl,⟨_,rfl,rfl⟩,trivial⟩)
            | false =>
             replace h:=zAD hc h;cases hc:(a2A == 7) with
             | true =>
              replace h:=zAE hc h;obtain rfl:(7:Int)=vsp:=(hvsp.trans (eq_of_beq hc)).symm;refine And.intro (by decide) ?_;cases h;exact(Le.rnm [(0,0)] _ _ _ ⟨rfl,trivial⟩ ⟨rfl,⟨_,rfl,rfl⟩,trivial⟩)
             | false =>
              replace h:=zAD hc h;cases hc:(a2A == 8) with
              | true =>
               replace h:=zAE hc h;obtain rfl:(8:Int)=vsp:=(hvsp.trans (eq_of_beq hc)).symm;refine And.intro (by decide) ?_;cases h;exact(Le.rnm [(0,0)] _ _ _ ⟨rfl,trivial⟩ ⟨rfl,⟨_,rfl,rfl⟩,trivial⟩)
              | false =>
               replace h:=zAD hc h;cases hc:(a2A == 9) with
               | true =>
                replace h:=zAE hc h;obtain rfl:(9:Int)=vsp:=(hvsp.trans (eq_of_beq hc)).symm;refine And.intro (by decide) ?_;cases h;exact(Le.rnm [(0,0)] _ _ _ ⟨rfl,trivial⟩ ⟨rfl,⟨_,rfl,rfl⟩,trivial⟩)
               | false =>
                replace h:=zAD hc h;cases hc:(a2A == 10) with
                | true =>
                 replace h:=zAE hc h;obtain rfl:(10:Int)=vsp:=(hvsp.trans (eq_of_beq hc)).symm;refine And.intro (by decide) ?_;cases h;exact(Le.rnm [(0,0)] _ _ _ ⟨rfl,trivial⟩ ⟨rfl,⟨_,rfl,rfl⟩,trivial⟩)
                | false =>
                 replace h:=zAD hc h;cases hc:(a2A == 11) with
                 | true =>
                  replace h:=zAE hc h;obtain rfl:(11:Int)=vsp:=(hvsp.trans (eq_of_beq hc)).symm;refine And.intro (by decide) ?_;cases h;exact(Le.rnm [(0,0)] _ _ _ ⟨rfl,trivial⟩ ⟨rfl,⟨_,rfl,rfl⟩,trivial⟩)
                 | false =>
                  replace h:=zAD hc h;cases hc:(a2A == 12) with
                  | true =>
                   replace h:=zAE hc h;obtain rfl:(12:Int)=vsp:=(hvsp.trans (eq_of_beq hc)).symm;refine And.intro (by decide) ?_;cases h;exact(Le.rnm [(0,0)] _ _ _ ⟨rfl,trivial⟩ ⟨rfl,⟨_,rfl,rfl⟩,trivial⟩)
                  | false =>
                   replace h:=zAD hc h;cases h
      | false =>
       replace h:=zAD hb.symm h;cases h;exact(Le.rnm [(0,0)] _ _ _ ⟨rfl,trivial⟩ ⟨rfl,⟨_,rfl,rfl⟩,trivial⟩)
     ·show Tri ..;refine zAk hle ?_;refine zAe ?_;obtain⟨hj1,hk1⟩:=pij h;subst hj1 hk1;unfold zBp
      exact⟨_,(Le.rnm [(0,0)] [(4,.s (.bool x22))] [(0,.box 167 [.s (.str []),.s (.int .i64 0),.s (.nf),.s (.str [114,111,119]),.s (.int .i64 0),.s (.fn 138),.s (.str [115,121,109]),.s (.int .i64 0),.s (.fn 139),.s (.str [110,117,109]),.s (.int .i64 0),.s (.fn 140),.s (.str [116,101,120,116]),.s (.int .i64 0),.s (.fn 141),.s (.str [102,114,97,99]),.s (.int .i64 2),.s (.fn 138),.s (.str [114,111,111,116]),.s (.int .i64 2),.s (.fn 138),.s (.str [115,117,98]),.s (.int .i64 2),.s (.fn 138),.s (.str [115,117,112]),.s (.int .i64 2),.s (.fn 138),.s (.str [98,111,116,104]),.s (.int .i64 3),.s (.fn 138),.s (.str [97,99,99,101,110,116]),.s (.int .i64 1),.s (.fn 142),.s (.str [102,101,110,99,101]),.s (.int .i64 1),.s (.fn 143),.s (.str [109,97,116,114,105,120]),.s (.int .i64 0),.s (.fn 138),.s (.int .i64 o1S)])] 1 ⟨rfl,trivial⟩ ⟨rfl,⟨_,rfl,rfl⟩,trivial⟩),rfl,rfl,rfl,rfl,trivial⟩
def zCd (n:Nat) (xs:List AV) (os:List Ob) (x:AV) (os':List (Option Ob)):Prop:=∃ (a0:(Unit×Int)) (a1:Nd) (a2:Int) (y0:Bool) (z0:(Unit×Int)),zA4 n a0 a1 a2=some (y0,z0)/\xs=[.op 0 0,.s (.pt (Nd.enc a1)),.s (.int .i64 a2)]/\os=[.box 167 ((zAm a0).map .s)]/\x = .s (.bool y0)/\os'=[some (.box 167 ((zAm z0).map .s))]
theorem zH0 (n:Nat) (ih:PSound Tryz.prog 110 (zC8 (zCd n))):PSound Tryz.prog 110 (zC8 (zCd (n+1))):=by
 have gok:∀ f s,look? f [(144,zGu),(110,zC8 (zCd n))]=some s->PSound Tryz.prog f s:=zAt (by
  simp only[List.forall_mem_cons]
  exact⟨zJP,ih,by simp⟩)
 refine PSound.withNil (zFn tokW Tryz.call110 Tryz.func110 rfl (fun xs os x os' h=>by obtain⟨_,_,_,_,_,_,rfl,rfl,_,rfl⟩:=h; exact⟨by show 3<=67; decide,by show 1<=1; decide⟩) 67 rfl ?_) _;rintro xs os x os' w0 G0 B0 ⟨⟨_,o1S⟩,⟨a2A,a2B,a2D,a2C⟩,a3,y0,z0,h,rfl,rfl,rfl,rfl⟩ _;rw[zA4]at h;refine zYe [] [] rfl ?_;show Tri ..;refine zYe [] [] rfl ?_;show Tri ..;refine zAa ?_;refine zAa ?_;obtain⟨⟨x4,x5⟩,hj,h⟩:=zAc h
 refine zAv ⟨ofL [(0,.op 0 0),(1,.s (.pt [.int .i64 a2A,.str a2B,.int .i64 a2D,.sl 4 (Nd.encs a2C)])),(2,.s (.int .i64 a3)),(29,.s (.bool x4))],ofH [(0,.box 167 [.s (.str []),.s (.int .i64 0),.s (.nf),.s (.str [114,111,119]),.s (.int .i64 0),.s (.fn 138),.s (.str [115,121,109]),.s (.int .i64 0),.s (.fn 139),.s (.str [110,117,109]),.s (.int .i64 0),.s (.fn 140),.s (.str [116,101,120,116]),.s (.int .i64 0),.s (.fn 141),.s (.str [102,114,97,99]),.s (.int .i64 2),.s (.fn 138),.s (.str [114,111,111,116]),.s (.int .i64 2),.s (.fn 138),.s (.str [115,117,98]),.s (.int .i64 2),.s (.fn 138),.s (.str [115,117,112]),.s (.int .i64 2),.s (.fn 138),.s (.str [98,111,116,104]),.s (.int .i64 3),.s (.fn 138),.s (.str [97,99,99,101,110,116]),.s (.int .i64 1),.s (.fn 142),.s (.str [102,101,110,99,101]),.s (.int .i64 1),.s (.fn 143),.s (.str [109,97,116,114,105,120]),.s (.int .i64 0),.s (.fn 138),.s (.int .i64 x5)])],1⟩ ?_ (fun σ' hle=>?_)
 ·replace h:=hj;refine zAb [] [20,24] rfl ?_;intro b hb;cases b with
  | true =>
   replace h:=zAE hb.symm h;intro b hb;subst hb;cases h;exact(Le.rnm [(0,0)] _ _ _ ⟨rfl,rfl,rfl,rfl,trivial⟩ ⟨rfl,⟨_,rfl,rfl⟩,trivial⟩)
  | false =>
   replace h:=zAD hb.symm h;intro b hb;cases b with
   | true =>
    replace h:=zAE hb.symm h;cases h;exact(Le.rnm [(0,0)] _ _ _ ⟨rfl,rfl,rfl,rfl,trivial⟩ ⟨rfl,⟨_,rfl,rfl⟩,trivial⟩)
   | false =>
    replace h:=zAD hb.symm h;obtain⟨⟨y6,⟨_,w7S⟩⟩,hy6,h⟩:=zAc h;refine⟨_,_,⟨_,_,_,_,_,hy6,rfl,rfl,rfl,rfl⟩,?_⟩
    cases h;exact(Le.rnm [(0,0)] _ _ _ ⟨rfl,rfl,rfl,rfl,trivial⟩ ⟨rfl,⟨_,rfl,rfl⟩,trivial⟩)
 ·show Tri ..;refine zAk hle ?_;refine zAh rfl h (fun hb h=>?_) (fun hb h=>?_)
  ·refine zYe [] [] rfl ?_;show Tri ..;refine zAe ?_;obtain⟨hj1,hk1⟩:=pij h;subst hj1 hk1;unfold zBp
   exact⟨_,(Le.rnm [(0,0)] [(6,.s (.bool false))] [(0,.box 167 [.s (.str []),.s (.int .i64 0),.s (.nf),.s (.str [114,111,119]),.s (.int .i64 0),.s (.fn 138),.s (.str [115,121,109]),.s (.int .i64 0),.s (.fn 139),.s (.str [110,117,109]),.s (.int .i64 0),.s (.fn 140),.s (.str [116,101,120,116]),.s (.int .i64 0),.s (.fn 141),.s (.str [102,114,97,99]),.s (.int .i64 2),.s (.fn 138),.s (.str [114,111,111,116]),.s (.int .i64 2),.s (.fn 138),.s (.str [115,117,98]),.s (.int .i64 2),.s (.fn 138),.s (.str [115,117,112]),.s (.int .i64 2),.s (.fn 138),.s (.str [98,111,116,104]),.s (.int .i64 3),.s (.fn 138),.s (.str [97,99,99,101,110,116]),.s (.int .i64 1),.s (.fn 142),.s (.str [102,101,110,99,101]),.s (.int .i64 1),.s (.fn 143),.s (.str [109,97,116,114,105,120]),.s (.int .i64 0),.s (.fn 138),.s (.int .i64 x5)])] 1 ⟨rfl,trivial⟩ ⟨rfl,⟨_,rfl,rfl⟩,trivial⟩),rfl,rfl,rfl,rfl,trivial⟩
  ·refine zAf ?_;show Tri ..;refine zAa ?_;refine zYe [] [34] rfl ?_;intro n8 hn8;obtain rfl:(a2C.length:Int)=n8:=(hn8.trans (congrArg (fun m:Nat=>(m:Int)) (rlen Nd.encs_eq a2C))).symm;show Tri ..;obtain⟨fl,hl,ho1⟩:=zAc h
   refine zBt (fl:=fl) (fun z=>match z with | x11=>⟨ofL [],ofH [(0,.box 167 [.s (.str []),.s (.int .i64 0),.s (.nf),.s (.str [114,111,119]),.s (.int .i64 0),.s (.fn 138),.s (.str [115,121,109]),.s (.int .i64 0),.s (.fn 139),.s (.str [110,117,109]),.s (.int .i64 0),.s (.fn 140),.s (.str [116,101,120,116]),.s (.int .i64 0),.s (.fn 141),.s (.str [102,114,97,99]),.s (.int .i64 2),.s (.fn 138),.s (.str [114,111,111,116]),.s (.int .i64 2),.s (.fn 138),.s (.str [115,117,98]),.s (.int .i64 2),.s (.fn 138),.s (.str [115,117,112]),.s (.int .i64 2),.s (.fn 138),.s (.str [98,111,116,104]),.s (.int .i64 3),.s (.fn 138),.s (.str [97,99,99,101,110,116]),.s (.int .i64 1),.s (.fn 142),.s (.str [102,101,110,99,101]),.s (.int .i64 1),.s (.fn 143),.s (.str [109,97,116,114,105,120]),.s (.int .i64 0),.s (.fn 138),.s (.int .i64 x11)])],1⟩) ?_ (fun x11 σ' hz hle=>?_)
   ·refine zAl (zAF (X:=Nat×Int×Int) (fun y=>match y with | (k,x9,x10)=>⟨ofL [(0,.op 0 0),(1,.s (.pt [.int .i64 a2A,.str a2B,.int .i64 a2D,.sl 4 (Nd.encs a2C)])),(2,.s (.int .i64 a3)),(34,.s (.int .i64 (a2C.length:Int))),(35,.s (.int .i64 x10))],ofH [(0,.box 167 [.s (.str []),.s (.int .i64 0),.s (.nf),.s (.str [114,111,119]),.s (.int .i64 0),.s (.fn 138),.s (.str [115,121,109]),.s (.int .i64 0),.s (.fn 139),.s (.str [110,117,109]),.s (.int .i64 0),.s (.fn 140),.s (.str [116,101,120,116]),.s (.int .i64 0),.s (.fn 141),.s (.str [102,114,97,99]),.s (.int .i64 2),.s (.fn 138),.s (.str [114,111,111,116]),.s (.int .i64 2),.s (.fn 138),.s (.str [115,117,98]),.s (.int .i64 2),.s (.fn 138),.s (.str [115,117,112]),.s (.int .i64 2),.s (.fn 138),.s (.str [98,111,116,104]),.s (.int .i64 3),.s (.fn 138),.s (.str [97,99,99,101,110,116]),.s (.int .i64 1),.s (.fn 142),.s (.str [102,101,110,99,101]),.s (.int .i64 1),.s (.fn 143),.s (.str [109,97,116,114,105,120]),.s (.int .i64 0),.s (.fn 138),.s (.int .i64 x9)])],1⟩) (fun y=>zAY (zA4 n) a2A a2C a3 y.1 y.2.1 y.2.2=some fl) (fun y=>y.1) (n,x5,0) hl ?_ ?_)
    ·exact(Le.rnm [(0,0)] _ _ _ ⟨rfl,rfl,rfl,rfl,rfl,trivial⟩ ⟨rfl,⟨_,rfl,rfl⟩,trivial⟩)
    ·rintro⟨k,x9,x10⟩ h;cases k with
     | zero=>cases h
     | succ k =>
      replace h:zAY (zA4 n) a2A a2C a3 (k+1) x9 x10=some fl:=h;rw[zAY]at h;refine zYe [] [] rfl ?_;show Tri ..;refine zAa ?_;refine zAh rfl h (fun hb h=>?_) (fun hb h=>?_)
      ·refine zAf ?_;show Tri ..;refine zAa ?_;refine zAl ?_;refine zYe [] [] rfl ?_;show Tri ..;refine zAa ?_;obtain⟨⟨x12,x13⟩,hj,h⟩:=zAc h
       refine zAv ⟨ofL [(0,.op 0 0),(1,.s (.pt [.int .i64 a2A,.str a2B,.int .i64 a2D,.sl 4 (Nd.encs a2C)])),(2,.s (.int .i64 a3)),(34,.s (.int .i64 (a2C.length:Int))),(35,.s (.int .i64 x10)),(65,.s (.bool x12))],ofH [(0,.box 167 [.s (.str []),.s (.int .i64 0),.s (.nf),.s (.str [114,111,119]),.s (.int .i64 0),.s (.fn 138),.s (.str [115,121,109]),.s (.int .i64 0),.s (.fn 139),.s (.str [110,117,109]),.s (.int .i64 0),.s (.fn 140),.s (.str [116,101,120,116]),.s (.int .i64 0),.s (.fn 141),.s (.str [102,114,97,99]),.s (.int .i64 2),.s (.fn 138),.s (.str [114,111,111,116]),.s (.int .i64 2),.s (.fn 138),.s (.str [115,117,98]),.s (.int .i64 2),.s (.fn 138),.s (.str [115,117,112]),.s (.int .i64 2),.s (.fn 138),.s (.str [98,111,116,104]),.s (.int .i64 3),.s (.fn 138),.s (.str [97,99,99,101,110,116]),.s (.int .i64 1),.s (.fn 142),.s (.str [102,101,110,99,101]),.s (.int .i64 1),.s (.fn 143),.s (.str [109,97,116,114,105,120]),.s (.int .i64 0),.s (.fn 138),.s (.int .i64 x13)])],1⟩ ?_ (fun σ' hle=>?_)
       ·replace h:=hj;refine zAQ [] [48,53,60] [25] rfl (by decide +kernel) ?_;obtain⟨⟨e14A,e14B,e14D,e14C⟩,he14,h⟩:=zAc h;refine And.intro (zAB Nd.encs_eq he14).1 ?_;intro r15 hr15;obtain rfl:[.int .i64 e14A,.str e14B,.int .i64 e14D,.sl 4 (Nd.encs e14C)]=r15:=(hr15.trans (zAB Nd.encs_eq he14).2.1).symm;intro b hb;cases b with
        | true =>
         replace h:=zAE hb.symm h;cases h;exact(Le.rnm [(0,0)] _ _ _ ⟨rfl,rfl,rfl,rfl,rfl,rfl,trivial⟩ ⟨rfl,⟨_,rfl,rfl⟩,trivial⟩)
        | false =>
         replace h:=zAD hb.symm h;obtain⟨⟨e16A,e16B,e16D,e16C⟩,he16,h⟩:=zAc h;refine And.intro (zAB Nd.encs_eq he16).1 ?_;intro r17 hr17;obtain rfl:[.int .i64 e16A,.str e16B,.int .i64 e16D,.sl 4 (Nd.encs e16C)]=r17:=(hr17.trans (zAB Nd.encs_eq he16).2.1).symm;obtain⟨⟨y18,⟨_,w19S⟩⟩,hy18,h⟩:=zAc h;refine⟨_,_,⟨_,_,_,_,_,hy18,rfl,rfl,rfl,rfl⟩,?_⟩
         cases h;exact(Le.rnm [(0,0)] _ _ _ ⟨rfl,rfl,rfl,rfl,rfl,rfl,trivial⟩ ⟨rfl,⟨_,rfl,rfl⟩,trivial⟩)
       ·show Tri ..;refine zAk hle ?_;refine zAh rfl h (fun hb h=>?_) (fun hb h=>?_)
        ·refine zYe [] [] rfl ?_;show Tri ..;refine zAe ?_;cases h;replace h:some _=some _:=ho1;obtain⟨hj1,hk1⟩:=pij h;subst hj1 hk1;unfold zBp
         exact⟨_,(Le.rnm [(0,0)] [(6,.s (.bool false))] [(0,.box 167 [.s (.str []),.s (.int .i64 0),.s (.nf),.s (.str [114,111,119]),.s (.int .i64 0),.s (.fn 138),.s (.str [115,121,109]),.s (.int .i64 0),.s (.fn 139),.s (.str [110,117,109]),.s (.int .i64 0),.s (.fn 140),.s (.str [116,101,120,116]),.s (.int .i64 0),.s (.fn 141),.s (.str [102,114,97,99]),.s (.int .i64 2),.s (.fn 138),.s (.str [114,111,111,116]),.s (.int .i64 2),.s (.fn 138),.s (.str [115,117,98]),.s (.int .i64 2),.s (.fn 138),.s (.str [115,117,112]),.s (.int .i64 2),.s (.fn 138),.s (.str [98,111,116,104]),.s (.int .i64 3),.s (.fn 138),.s (.str [97,99,99,101,110,116]),.s (.int .i64 1),.s (.fn 142),.s (.str [102,101,110,99,101]),.s (.int .i64 1),.s (.fn 143),.s (.str [109,97,116,114,105,120]),.s (.int .i64 0),.s (.fn 138),.s (.int .i64 x13)])] 1 ⟨rfl,trivial⟩ ⟨rfl,⟨_,rfl,rfl⟩,trivial⟩),rfl,rfl,rfl,rfl,trivial⟩
        ·refine zAf ?_;show Tri ..;refine zAb [] [] rfl ?_;refine⟨(k,x13,IntKind.i64.wrap (x10+1)),h,(Le.rnm [(0,0)] _ _ _ ⟨rfl,rfl,rfl,rfl,rfl,trivial⟩ ⟨rfl,⟨_,rfl,rfl⟩,trivial⟩),Nat.lt_succ_self k⟩
      ·refine zAI ?_;cases h;exact⟨_,rfl,(Le.rnm [(0,0)] _ _ _ trivial ⟨rfl,⟨_,rfl,rfl⟩,trivial⟩)⟩
   ·subst hz;replace h:=ho1;show Tri ..;refine zAk hle ?_;refine zYe [] [] rfl ?_;show Tri ..;refine zAe ?_;obtain⟨hj1,hk1⟩:=pij h;subst hj1 hk1;unfold zBp
    exact⟨_,(Le.rnm [(0,0)] [(6,.s (.bool true))] [(0,.box 167 [.s (.str []),.s (.int .i64 0),.s (.nf),.s (.str [114,111,119]),.s (.int .i64 0),.s (.fn 138),.s (.str [115,121,109]),.s (.int .i64 0),.s (.fn 139),.s (.str [110,117,109]),.s (.int .i64 0),.s (.fn 140),.s (.str [116,101,120,116]),.s (.int .i64 0),.s (.fn 141),.s (.str [102,114,97,99]),.s (.int .i64 2),.s (.fn 138),.s (.str [114,111,111,116]),.s (.int .i64 2),.s (.fn 138),.s (.str [115,117,98]),.s (.int .i64 2),.s (.fn 138),.s (.str [115,117,112]),.s (.int .i64 2),.s (.fn 138),.s (.str [98,111,116,104]),.s (.int .i64 3),.s (.fn 138),.s (.str [97,99,99,101,110,116]),.s (.int .i64 1),.s (.fn 142),.s (.str [102,101,110,99,101]),.s (.int .i64 1),.s (.fn 143),.s (.str [109,97,116,114,105,120]),.s (.int .i64 0),.s (.fn 138),.s (.int .i64 x11)])] 1 ⟨rfl,trivial⟩ ⟨rfl,⟨_,rfl,rfl⟩,trivial⟩),rfl,rfl,rfl,rfl,trivial⟩
theorem zH9:∀ n,PSound Tryz.prog 110 (zC8 (zCd n)):=by
 intro n
 induction n with
 | zero=>exact zNh Tryz.call110 (fun xs os x os' h=>by obtain⟨_,_,_,_,_,h,_⟩:=h; cases h) _
 | succ n ih=>exact zH0 n ih
def zFU:zAz:=zC8 (fun xs os x os'=>∃ n,zCd n xs os x os')
theorem zIZ:PSound Tryz.prog 110 zFU:=zOU zH9 _
def zQB (n:Nat) (xs:List AV) (r:Ret):Prop:=∃ (a0:Nd) (y0:Bool),zAX n a0=some y0/\xs=[.agg ((Nd.enc a0).map .s)]/\r = .val (.s (.bool y0))
def zCs:zAz:=zAy fun xs r=>∃ n,zQB n xs r
theorem zCA:PSound Tryz.prog 73 zCs:=by
 have gok:∀ f s,look? f [(109,zLl),(110,zFU)]=some s->PSound Tryz.prog f s:=zAt (by
  simp only[List.forall_mem_cons]
  exact⟨zPZ,zIZ,by simp⟩)
 refine zAA tokW Tryz.call73 Tryz.func73 rfl (fun xs r h=>by obtain⟨n,_,_,_,rfl,_⟩:=h; show 1<=14; decide) 14 rfl ?_;rintro xs r w0 G0 ⟨n,⟨n1A,n1B,n1D,n1C⟩,y0,h,rfl,rfl⟩ _;rw[zAX]at h;refine zYe [] [] rfl ?_;show Tri ..;refine zYe [6] [] rfl ?_;obtain⟨_,hy2,h⟩:=zAc h;refine⟨_,⟨_,hy2,rfl,rfl⟩,?_⟩
 show Tri ..;refine zAa ?_;obtain⟨x3,hj,h⟩:=zAc h;refine zAv ⟨ofL [(2,.s (.bool x3))],fun _=>none,0⟩ ?_ (fun σ' hle=>?_)
 ·replace h:=hj;refine zAb [] [10] rfl ?_;intro b hb;cases b with
  | true =>
   replace h:=zAE hb.symm h;obtain⟨⟨y4,⟨_,w5S⟩⟩,hy4,h⟩:=zAc h;refine⟨_,_,⟨_,_,_,_,_,_,hy4,rfl,rfl,rfl,rfl⟩,?_⟩
   cases h;exact(Le.rnm [] _ [] 0 ⟨rfl,trivial⟩ trivial)
  | false =>
   replace h:=zAD hb.symm h;cases h;exact(Le.rnm [] _ [] 0 ⟨rfl,trivial⟩ trivial)
 ·show Tri ..;refine zAk hle ?_;refine zAe ?_;have hy:=Option.some.inj h;subst hy;unfold zAw;exact⟨_,Le.refl _ _,rfl,rfl⟩
def zKP (n:Nat) (xs:List AV) (r:Ret):Prop:=∃ (a0:List Nd) (y0:Bool),zCa n a0=some y0/\xs=[.s (.sl 4 (Nd.encs a0))]/\r = .val (.s (.bool y0))
def zET:zAz:=zAy fun xs r=>∃ n,zKP n xs r
theorem zGy:PSound Tryz.prog 176 zET:=by
 have gok:∀ f s,look? f [(73,zCs)]=some s->PSound Tryz.prog f s:=zAt (by
  simp only[List.forall_mem_cons]
  exact⟨zCA,by simp⟩)
 refine zAA tokW Tryz.call176 Tryz.func176 rfl (fun xs r h=>by obtain⟨n,_,_,_,rfl,_⟩:=h; show 1<=6; decide) 6 rfl ?_;rintro xs r w0 G0 ⟨n,l1,y0,h,rfl,rfl⟩ _;rw[zCa]at h;refine zYe [] [] rfl ?_;show Tri ..;refine zYe [] [] rfl ?_;obtain⟨y2,hy2,h⟩:=zAc h;refine⟨_,⟨_,_,_,hy2,rfl,rfl⟩,?_⟩
 show Tri ..;refine zAe ?_;have hy:=Option.some.inj h;subst hy;unfold zAw;exact⟨_,Le.refl _ _,rfl,rfl⟩
def zQA (xs:List AV) (r:Ret):Prop:=∃ (a0:Nd) (y0:Int),zDz a0=some y0/\xs=[.agg ((Nd.enc a0).map .s)]/\r = .val (.s (.int .i64 y0))
def zGt:zAz:=zAy fun xs r=>zQA xs r
theorem zHE:PSound Tryz.prog 195 zGt:=by
 have gok:=@gok0 Tryz.prog;refine zAA tokW Tryz.call195 Tryz.func195 rfl (fun xs r h=>by obtain⟨_,_,_,rfl,_⟩:=h; show 1<=9; decide) 9 rfl ?_;rintro xs r w0 G0 ⟨⟨n1A,n1B,n1D,n1C⟩,y0,h,rfl,rfl⟩ _;rw[zDz]at h;refine zYe [] [] rfl ?_;show Tri ..;refine zAa ?_;refine zYe [] [] rfl ?_;show Tri ..;refine zAh rfl h (fun hb h=>?_) (fun hb h=>?_)
 ·refine zYe [] [] rfl ?_;show Tri ..;refine zAe ?_;have hy:=Option.some.inj h;subst hy;unfold zAw;exact⟨_,Le.refl _ _,rfl,rfl⟩
 ·refine zAf ?_;show Tri ..;refine zYe [] [8] rfl ?_;intro n2 hn2;obtain rfl:(n1C.length:Int)=n2:=(hn2.trans (congrArg (fun m:Nat=>(m:Int)) (rlen Nd.encs_eq n1C))).symm;show Tri ..;refine zAe ?_;have hy:=Option.some.inj h;subst hy;unfold zAw;exact⟨_,Le.refl _ _,rfl,rfl⟩
def zQG (xs:List AV) (r:Ret):Prop:=∃ (a0:Int) (y0:Bool),zEt a0=some y0/\xs=[.s (.int .u8 a0)]/\r = .val (.s (.bool y0))
def zH8:zAz:=zAy fun xs r=>zQG xs r
theorem zKx:PSound Tryz.prog 186 zH8:=by
 have gok:=@gok0 Tryz.prog;refine zAA tokW Tryz.call186 Tryz.func186 rfl (fun xs r h=>by obtain⟨_,_,_,rfl,_⟩:=h; show 1<=17; decide) 17 rfl ?_;rintro xs r w0 G0 ⟨c1,y0,h,rfl,rfl⟩ _;rw[zEt]at h;refine zYe [] [] rfl ?_;show Tri ..;refine zAa ?_;obtain⟨x2,hj,h⟩:=zAc h;refine zAv ⟨ofL [(2,.s (.bool x2))],fun _=>none,0⟩ ?_ (fun σ' hle=>?_)
 ·replace h:=hj;refine zAb [] [5,9,12] rfl ?_;intro b hb;cases b with
  | true =>
   replace h:=zAE hb.symm h;intro b hb;cases b with
   | true =>
    replace h:=zAE hb.symm h;cases h;exact(Le.forget _ ⟨rfl,trivial⟩)
   | false =>
    replace h:=zAD hb.symm h;intro b hb;cases b with
    | true =>
     replace h:=zAE hb.symm h;cases h;exact(Le.forget _ ⟨rfl,trivial⟩)
    | false =>
     replace h:=zAD hb.symm h;cases h;exact(Le.forget _ ⟨rfl,trivial⟩)
  | false =>
   replace h:=zAD hb.symm h;intro b hb;subst hb;intro b hb;cases b with
   | true =>
    replace h:=zAE hb.symm h;cases h;exact(Le.forget _ ⟨rfl,trivial⟩)
   | false =>
    replace h:=zAD hb.symm h;cases h;exact(Le.forget _ ⟨rfl,trivial⟩)
 ·show Tri ..;refine zAk hle ?_;refine zAe ?_;have hy:=Option.some.inj h;subst hy;unfold zAw;exact⟨_,Le.refl _ _,rfl,rfl⟩
def zUM (n:Nat) (xs:List AV) (r:Ret):Prop:=∃ (a0:List UInt8) (a1:Int) (y0:Bool),zDB n a0 a1=some y0/\xs=[.s (.str a0),.s (.int .u8 a1)]/\r = .val (.s (.bool y0))
def zMv:zAz:=zAy fun xs r=>∃ n,zUM n xs r
theorem zOS:PSound Tryz.prog 154 zMv:=by
 have gok:=@gok0 Tryz.prog;refine zAA tokW Tryz.call154 Tryz.func154 rfl (fun xs r h=>by obtain⟨n,_,_,_,_,rfl,_⟩:=h; show 2<=17; decide) 17 rfl ?_;rintro xs r w0 G0 ⟨n,s1,c2,y0,h,rfl,rfl⟩ _;rw[zDB]at h;refine zYe [] [] rfl ?_;show Tri ..;refine zAa ?_;refine zYe [] [] rfl ?_;show Tri ..;obtain⟨fl,hl,ho1⟩:=zAc h;refine zBt (fl:=fl) (fun z=>match z with | _=>⟨ofL [],fun _=>none,0⟩) ?_ (fun z σ' hz hle=>?_)
 ·refine zAl (zAF (X:=Nat×Int) (fun y=>match y with | (k,i3)=>⟨ofL [(0,.s (.str s1)),(1,.s (.int .u8 c2)),(5,.s (.int .i64 i3))],fun _=>none,0⟩) (fun y=>zCU s1 c2 y.1 y.2=some fl) (fun y=>y.1) (n,0) hl ?_ ?_)
  ·exact(Le.forget _ ⟨rfl,rfl,rfl,trivial⟩)
  ·rintro⟨k,i3⟩ h;cases k with
   | zero=>cases h
   | succ k =>
    replace h:zCU s1 c2 (k+1) i3=some fl:=h;rw[zCU]at h;refine zAa ?_;refine zYe [] [] rfl ?_;show Tri ..;refine zAh rfl h (fun hb h=>?_) (fun hb h=>?_)
    ·refine zAf ?_;show Tri ..;refine zAa ?_;refine zAl ?_;refine zYe [] [14] rfl ?_;obtain⟨c4,hc4,h⟩:=zAc h;refine And.intro (zBJ hc4).1 ?_;intro v5 hv5;obtain rfl:(c4.toNat:Int)=v5:=(hv5.trans (zBJ hc4).2).symm;show Tri ..;refine zAh rfl h (fun hb h=>?_) (fun hb h=>?_)
     ·refine zYe [] [] rfl ?_;show Tri ..;refine zAe ?_;cases h;replace h:some _=some _:=ho1;have hy:=Option.some.inj h;subst hy;unfold zAw;exact⟨_,Le.refl _ _,rfl,rfl⟩
     ·refine zAf ?_;show Tri ..;refine zAb [] [] rfl ?_;refine⟨(k,IntKind.i64.wrap (i3+1)),h,(Le.forget _ ⟨rfl,rfl,rfl,trivial⟩),Nat.lt_succ_self k⟩
    ·refine zAI ?_;cases h;exact⟨_,rfl,(Le.forget _ trivial)⟩
 ·subst hz;obtain _:=z;replace h:=ho1;show Tri ..;refine zAk hle ?_;refine zYe [] [] rfl ?_;show Tri ..;refine zAe ?_;have hy:=Option.some.inj h;subst hy;unfold zAw;exact⟨_,Le.refl _ _,rfl,rfl⟩
def zMj (n:Nat) (xs:List AV) (r:Ret):Prop:=∃ (a0:Int) (y0:Bool),zEG n a0=some y0/\xs=[.s (.int .u8 a0)]/\r = .val (.s (.bool y0))
def zH7:zAz:=zAy fun xs r=>∃ n,zMj n xs r
theorem zLY:PSound Tryz.prog 185 zH7:=by
 have gok:∀ f s,look? f [(186,zH8),(154,zMv)]=some s->PSound Tryz.prog f s:=zAt (by
  simp only[List.forall_mem_cons]
  exact⟨zKx,zOS,by simp⟩)
 refine zAA tokW Tryz.call185 Tryz.func185 rfl (fun xs r h=>by obtain⟨n,_,_,_,rfl,_⟩:=h; show 1<=9; decide) 9 rfl ?_;rintro xs r w0 G0 ⟨n,c1,y0,h,rfl,rfl⟩ _;rw[zEG]at h;refine zYe [] [] rfl ?_;show Tri ..;refine zAa ?_;obtain⟨x2,hj,h⟩:=zAc h;refine zAv ⟨ofL [(2,.s (.bool x2))],fun _=>none,0⟩ ?_ (fun σ' hle=>?_)
 ·replace h:=hj;refine zAb [] [5] rfl ?_;obtain⟨y3,hy3,h⟩:=zAc h;refine⟨_,⟨_,_,hy3,rfl,rfl⟩,?_⟩
  intro b hb;cases b with
  | true =>
   replace h:=zAE hb.symm h;cases h;exact(Le.forget _ ⟨rfl,trivial⟩)
  | false =>
   replace h:=zAD hb.symm h;obtain⟨y4,hy4,h⟩:=zAc h;refine⟨_,⟨_,_,_,_,hy4,rfl,rfl⟩,?_⟩
   cases h;exact(Le.forget _ ⟨rfl,trivial⟩)
 ·show Tri ..;refine zAk hle ?_;refine zAe ?_;have hy:=Option.some.inj h;subst hy;unfold zAw;exact⟨_,Le.refl _ _,rfl,rfl⟩
def zAx (p:List UInt8):List S:=[.str p]
def zNS (xs:List AV) (r:Ret):Prop:=∃ (y0:List (List UInt8)),zE7=some y0/\xs=[]/\r = .val (.s (.sl 1 ((List.map zAx) y0)))
def zJh:zAz:=zAy fun xs r=>zNS xs r
theorem zNc:PSound Tryz.prog 187 zJh:=by
 have gok:=@gok0 Tryz.prog;refine zAA tokW Tryz.call187 Tryz.func187 rfl (fun xs r h=>by obtain⟨_,_,rfl,_⟩:=h; show 0<=2; decide) 2 rfl ?_;rintro xs r w0 G0 ⟨y0,h,rfl,rfl⟩ _;rw[zE7]at h;refine zYe [] [] rfl ?_;show Tri ..;refine zYe [] [1] rfl ?_;intro r1 hr1
 obtain rfl:(List.map zAx) [[102,114,97,99],[114,111,111,116],[109,97,116,114,105,120],[102,101,110,99,101]]=r1:=(hr1.trans (by simp[List.map_append,List.map_take,List.map_drop,irow,brow,zAG,List.map_cons,List.map_nil,zAC,Nd.encs_eq,Nd.enc,CV.encs_eq,CV.enc,zAq,zAm,zAx])).symm;show Tri ..;refine zAe ?_;have hy:=Option.some.inj h;subst hy;unfold zAw;exact⟨_,Le.refl _ _,rfl,rfl⟩
def zVY (n:Nat) (xs:List AV) (r:Ret):Prop:=∃ (a0:List (List UInt8)) (a1:List UInt8) (y0:Bool),zE6 n a0 a1=some y0/\xs=[.s (.sl 1 ((List.map zAx) a0)),.s (.str a1)]/\r = .val (.s (.bool y0))
def zPy:zAz:=zAy fun xs r=>∃ n,zVY n xs r
theorem zRL:PSound Tryz.prog 152 zPy:=by
 have gok:=@gok0 Tryz.prog;refine zAA tokW Tryz.call152 Tryz.func152 rfl (fun xs r h=>by obtain⟨n,_,_,_,_,rfl,_⟩:=h; show 2<=18; decide) 18 rfl ?_;rintro xs r w0 G0 ⟨n,l1,s2,y0,h,rfl,rfl⟩ _;rw[zE6]at h;refine zYe [] [] rfl ?_;show Tri ..;refine zAa ?_;refine zYe [] [] rfl ?_;show Tri ..;obtain⟨fl,hl,ho1⟩:=zAc h;refine zBt (fl:=fl) (fun z=>match z with | _=>⟨ofL [],fun _=>none,0⟩) ?_ (fun z σ' hz hle=>?_)
 ·refine zAl (zAF (X:=Nat×Int) (fun y=>match y with | (k,i3)=>⟨ofL [(0,.s (.sl 1 ((List.map zAx) l1))),(1,.s (.str s2)),(5,.s (.int .i64 i3))],fun _=>none,0⟩) (fun y=>zDA l1 s2 y.1 y.2=some fl) (fun y=>y.1) (n,0) hl ?_ ?_)
  ·exact(Le.forget _ ⟨rfl,rfl,rfl,trivial⟩)
  ·rintro⟨k,i3⟩ h;cases k with
   | zero=>cases h
   | succ k =>
    replace h:zDA l1 s2 (k+1) i3=some fl:=h;rw[zDA]at h;refine zAa ?_;refine zYe [] [8] rfl ?_;intro n4 hn4;obtain rfl:(l1.length:Int)=n4:=(hn4.trans (congrArg (fun m:Nat=>(m:Int)) (rlen (fun _=>rfl) l1))).symm;show Tri ..;refine zAh rfl h (fun hb h=>?_) (fun hb h=>?_)
    ·refine zAf ?_;show Tri ..;refine zAa ?_;refine zAl ?_;refine zYe [] [14] rfl ?_;obtain⟨e5,he5,h⟩:=zAc h;refine And.intro (zAB (fun _=>rfl) he5).1 ?_;intro r6 hr6;obtain rfl:[.str e5]=r6:=(hr6.trans (zAB (fun _=>rfl) he5).2.1).symm;show Tri ..;refine zAh rfl h (fun hb h=>?_) (fun hb h=>?_)
     ·refine zYe [] [] rfl ?_;show Tri ..;refine zAe ?_;cases h;replace h:some _=some _:=ho1;have hy:=Option.some.inj h;subst hy;unfold zAw;exact⟨_,Le.refl _ _,rfl,rfl⟩
     ·refine zAf ?_;show Tri ..;refine zAb [] [] rfl ?_;refine⟨(k,IntKind.i64.wrap (i3+1)),h,(Le.forget _ ⟨rfl,rfl,rfl,trivial⟩),Nat.lt_succ_self k⟩
    ·refine zAI ?_;cases h;exact⟨_,rfl,(Le.forget _ trivial)⟩
 ·subst hz;obtain _:=z;replace h:=ho1;show Tri ..;refine zAk hle ?_;refine zYe [] [] rfl ?_;show Tri ..;refine zAe ?_;have hy:=Option.some.inj h;subst hy;unfold zAw;exact⟨_,Le.refl _ _,rfl,rfl⟩
def zPu (xs:List AV) (r:Ret):Prop:=∃ (y0:List (List UInt8)),zDP=some y0/\xs=[]/\r = .val (.s (.sl 1 ((List.map zAx) y0)))
def zHq:zAz:=zAy fun xs r=>zPu xs r
theorem zJs:PSound Tryz.prog 153 zHq:=by
 have gok:=@gok0 Tryz.prog;refine zAA tokW Tryz.call153 Tryz.func153 rfl (fun xs r h=>by obtain⟨_,_,rfl,_⟩:=h; show 0<=2; decide) 2 rfl ?_;rintro xs r w0 G0 ⟨y0,h,rfl,rfl⟩ _;rw[zDP]at h;refine zYe [] [] rfl ?_;show Tri ..;refine zYe [] [1] rfl ?_;intro r1 hr1
 obtain rfl:(List.map zAx) [[104,97,116],[98,97,114],[118,101,99],[100,111,116],[116,105,108,100,101],[99,104,101,99,107]]=r1:=(hr1.trans (by simp[List.map_append,List.map_take,List.map_drop,irow,brow,zAG,List.map_cons,List.map_nil,zAC,Nd.encs_eq,Nd.enc,CV.encs_eq,CV.enc,zAq,zAm,zAx])).symm;show Tri ..;refine zAe ?_;have hy:=Option.some.inj h;subst hy;unfold zAw;exact⟨_,Le.refl _ _,rfl,rfl⟩
def zQI (n:Nat) (xs:List AV) (r:Ret):Prop:=∃ (a0:List UInt8) (y0:Bool),zFi n a0=some y0/\xs=[.s (.str a0)]/\r = .val (.s (.bool y0))
def zLo:zAz:=zAy fun xs r=>∃ n,zQI n xs r
theorem zP2:PSound Tryz.prog 150 zLo:=by
 have gok:∀ f s,look? f [(185,zH7),(186,zH8),(187,zJh),(152,zPy),(153,zHq)]=some s->PSound Tryz.prog f s:=zAt (by
  simp only[List.forall_mem_cons]
  exact⟨zLY,zKx,zNc,zRL,zJs,by simp⟩)
 refine zAA tokW Tryz.call150 Tryz.func150 rfl (fun xs r h=>by obtain⟨n,_,_,_,rfl,_⟩:=h; show 1<=41; decide) 41 rfl ?_;rintro xs r w0 G0 ⟨n,s1,y0,h,rfl,rfl⟩ _;rw[zFi]at h;refine zYe [] [] rfl ?_;show Tri ..;refine zAa ?_;refine zYe [] [] rfl ?_;show Tri ..;refine zAh rfl h (fun hb h=>?_) (fun hb h=>?_)
 ·refine zYe [] [8] rfl ?_;obtain⟨c2,hc2,h⟩:=zAc h;refine And.intro (zBJ hc2).1 ?_;intro v3 hv3;obtain rfl:(c2.toNat:Int)=v3:=(hv3.trans (zBJ hc2).2).symm;obtain⟨y4,hy4,h⟩:=zAc h;refine⟨_,⟨_,_,_,hy4,rfl,rfl⟩,?_⟩
  show Tri ..;refine zAe ?_;have hy:=Option.some.inj h;subst hy;unfold zAw;exact⟨_,Le.refl _ _,rfl,rfl⟩
 ·refine zAf ?_;show Tri ..;refine zAa ?_;refine zYe [] [] rfl ?_;show Tri ..;obtain⟨fl,hl,ho1⟩:=zAc h;refine zBt (fl:=fl) (fun z=>match z with | _=>⟨ofL [(0,.s (.str s1))],fun _=>none,0⟩) ?_ (fun z σ' hz hle=>?_)
  ·refine zAl (zAF (X:=Nat×Int) (fun y=>match y with | (k,i5)=>⟨ofL [(0,.s (.str s1)),(3,.s (.int .i64 i5))],fun _=>none,0⟩) (fun y=>zBx s1 y.1 y.2=some fl) (fun y=>y.1) (n,0) hl ?_ ?_)
   ·exact(Le.forget _ ⟨rfl,rfl,trivial⟩)
   ·rintro⟨k,i5⟩ h;cases k with
    | zero=>cases h
    | succ k =>
     replace h:zBx s1 (k+1) i5=some fl:=h;rw[zBx]at h;refine zAa ?_;refine zYe [] [] rfl ?_;show Tri ..;refine zAh rfl h (fun hb h=>?_) (fun hb h=>?_)
     ·refine zAf ?_;show Tri ..;refine zAa ?_;refine zAl ?_;refine zYe [] [18] rfl ?_;obtain⟨c6,hc6,h⟩:=zAc h;refine And.intro (zBJ hc6).1 ?_;intro v7 hv7;obtain rfl:(c6.toNat:Int)=v7:=(hv7.trans (zBJ hc6).2).symm;obtain⟨y8,hy8,h⟩:=zAc h;refine⟨_,⟨_,_,hy8,rfl,rfl⟩,?_⟩
      show Tri ..;refine zAh rfl h (fun hb h=>?_) (fun hb h=>?_)
      ·refine zYe [] [] rfl ?_;show Tri ..;refine zAe ?_;cases h;replace h:some _=some _:=ho1;have hy:=Option.some.inj h;subst hy;unfold zAw;exact⟨_,Le.refl _ _,rfl,rfl⟩
      ·refine zAf ?_;show Tri ..;refine zAb [] [] rfl ?_;refine⟨(k,IntKind.i64.wrap (i5+1)),h,(Le.forget _ ⟨rfl,rfl,trivial⟩),Nat.lt_succ_self k⟩
     ·refine zAI ?_;cases h;exact⟨_,rfl,(Le.forget _ ⟨rfl,trivial⟩)⟩
  ·subst hz;obtain _:=z;replace h:=ho1;show Tri ..;refine zAk hle ?_;refine zAa ?_;obtain⟨x9,hj,h⟩:=zAc h;refine zAv ⟨ofL [(2,.s (.bool x9))],fun _=>none,0⟩ ?_ (fun σ' hle=>?_)
   ·replace h:=hj;refine zAb [] [24,29,35] rfl ?_;intro b hb;cases b with
    | true =>
     replace h:=zAE hb.symm h;intro b hb;cases b with
     | true =>
      replace h:=zAE hb.symm h;obtain⟨y10,hy10,h⟩:=zAc h;refine⟨_,⟨_,hy10,rfl,rfl⟩,?_⟩
      obtain⟨y11,hy11,h⟩:=zAc h;refine⟨_,⟨_,_,_,_,hy11,rfl,rfl⟩,?_⟩
      intro b hb;cases b with
      | true =>
       replace h:=zAE hb.symm h;obtain⟨y12,hy12,h⟩:=zAc h;refine⟨_,⟨_,hy12,rfl,rfl⟩,?_⟩
       obtain⟨y13,hy13,h⟩:=zAc h;refine⟨_,⟨_,_,_,_,hy13,rfl,rfl⟩,?_⟩
       cases h;exact(Le.forget _ ⟨rfl,trivial⟩)
      | false =>
       replace h:=zAD hb.symm h;cases h;exact(Le.forget _ ⟨rfl,trivial⟩)
     | false =>
      replace h:=zAD hb.symm h;intro b hb;subst hb;cases h;exact(Le.forget _ ⟨rfl,trivial⟩)
    | false =>
     replace h:=zAD hb.symm h;intro b hb;subst hb;intro b hb;subst hb;cases h;exact(Le.forget _ ⟨rfl,trivial⟩)
   ·show Tri ..;refine zAk hle ?_;refine zAe ?_;have hy:=Option.some.inj h;subst hy;unfold zAw;exact⟨_,Le.refl _ _,rfl,rfl⟩
def zSq (xs:List AV) (r:Ret):Prop:=∃ (a0:Int) (y0:Bool),zGd a0=some y0/\xs=[.s (.int .u8 a0)]/\r = .val (.s (.bool y0))
def zMt:zAz:=zAy fun xs r=>zSq xs r
theorem zRK:PSound Tryz.prog 188 zMt:=by
 have gok:=@gok0 Tryz.prog;refine zAA tokW Tryz.call188 Tryz.func188 rfl (fun xs r h=>by obtain⟨_,_,_,rfl,_⟩:=h; show 1<=9; decide) 9 rfl ?_;rintro xs r w0 G0 ⟨c1,y0,h,rfl,rfl⟩ _;rw[zGd]at h;refine zYe [] [] rfl ?_;show Tri ..;refine zAa ?_;obtain⟨x2,hj,h⟩:=zAc h;refine zAv ⟨ofL [(2,.s (.bool x2))],fun _=>none,0⟩ ?_ (fun σ' hle=>?_)
 ·replace h:=hj;refine zAb [] [5] rfl ?_;intro b hb;cases b with
  | true =>
   replace h:=zAE hb.symm h;cases h;exact(Le.forget _ ⟨rfl,trivial⟩)
  | false =>
   replace h:=zAD hb.symm h;cases h;exact(Le.forget _ ⟨rfl,trivial⟩)
 ·show Tri ..;refine zAk hle ?_;refine zAe ?_;have hy:=Option.some.inj h;subst hy;unfold zAw;exact⟨_,Le.refl _ _,rfl,rfl⟩
def zQH (n:Nat) (xs:List AV) (r:Ret):Prop:=∃ (a0:List UInt8) (y0:Bool),zFh n a0=some y0/\xs=[.s (.str a0)]/\r = .val (.s (.bool y0))
def zLn:zAz:=zAy fun xs r=>∃ n,zQH n xs r
theorem zP1:PSound Tryz.prog 151 zLn:=by
 have gok:∀ f s,look? f [(188,zMt)]=some s->PSound Tryz.prog f s:=zAt (by
  simp only[List.forall_mem_cons]
  exact⟨zRK,by simp⟩)
 refine zAA tokW Tryz.call151 Tryz.func151 rfl (fun xs r h=>by obtain⟨n,_,_,_,rfl,_⟩:=h; show 1<=45; decide) 45 rfl ?_;rintro xs r w0 G0 ⟨n,s1,y0,h,rfl,rfl⟩ _;rw[zFh]at h;refine zYe [] [] rfl ?_;show Tri ..;refine zYe [] [] rfl ?_;show Tri ..;refine zAa ?_;refine zYe [] [] rfl ?_;show Tri ..;obtain⟨fl,hl,ho1⟩:=zAc h;refine zBt (fl:=fl) (fun z=>match z with | points4=>⟨ofL [(0,.s (.str s1)),(3,.s (.int .i64 points4))],fun _=>none,0⟩) ?_ (fun points4 σ' hz hle=>?_)
 ·refine zAl (zAF (X:=Nat×Int×Int) (fun y=>match y with | (k,points2,i3)=>⟨ofL [(0,.s (.str s1)),(3,.s (.int .i64 points2)),(4,.s (.int .i64 i3))],fun _=>none,0⟩) (fun y=>zCg s1 y.1 y.2.1 y.2.2=some fl) (fun y=>y.1) (n,0,0) hl ?_ ?_)
  ·exact(Le.forget _ ⟨rfl,rfl,rfl,trivial⟩)
  ·rintro⟨k,points2,i3⟩ h;cases k with
   | zero=>cases h
   | succ k =>
    replace h:zCg s1 (k+1) points2 i3=some fl:=h;rw[zCg]at h;refine zAa ?_;refine zYe [] [] rfl ?_;show Tri ..;refine zAh rfl h (fun hb h=>?_) (fun hb h=>?_)
    ·refine zAf ?_;show Tri ..;refine zAa ?_;obtain⟨fl,hj,ho2⟩:=zAc h;refine zBt (fl:=fl) (fun z=>match z with | points5=>⟨ofL [(0,.s (.str s1)),(3,.s (.int .i64 points5)),(4,.s (.int .i64 i3))],fun _=>none,0⟩) ?_ (fun points5 σ' hz hle=>?_)
     ·replace h:=hj;refine zAl ?_;refine zAa ?_;obtain⟨x6,hj,h⟩:=zAc h;refine zAv ⟨ofL [(0,.s (.str s1)),(3,.s (.int .i64 points2)),(4,.s (.int .i64 i3)),(25,.s (.bool x6))],fun _=>none,0⟩ ?_ (fun σ' hle=>?_)
      ·replace h:=hj;refine zAb [] [13,15,19] rfl ?_;obtain⟨c7,hc7,h⟩:=zAc h;refine And.intro (zBJ hc7).1 ?_;intro v8 hv8;obtain rfl:(c7.toNat:Int)=v8:=(hv8.trans (zBJ hc7).2).symm;intro b hb;cases b with
       | true =>
        replace h:=zAE hb.symm h;intro b hb;cases b with
        | true =>
         replace h:=zAE hb.symm h;cases h;exact(Le.forget _ ⟨rfl,rfl,rfl,rfl,trivial⟩)
        | false =>
         replace h:=zAD hb.symm h;cases h;exact(Le.forget _ ⟨rfl,rfl,rfl,rfl,trivial⟩)
       | false =>
        replace h:=zAD hb.symm h;intro b hb;subst hb;cases h;exact(Le.forget _ ⟨rfl,rfl,rfl,rfl,trivial⟩)
      ·show Tri ..;refine zAk hle ?_;refine zAh rfl h (fun hb h=>?_) (fun hb h=>?_)
       ·refine zAb [] [] rfl ?_;cases h;exact⟨_,rfl,(Le.forget _ ⟨rfl,rfl,rfl,trivial⟩)⟩
       ·refine zYe [] [30] rfl ?_;obtain⟨c9,hc9,h⟩:=zAc h;refine And.intro (zBJ hc9).1 ?_;intro v10 hv10;obtain rfl:(c9.toNat:Int)=v10:=(hv10.trans (zBJ hc9).2).symm;obtain⟨y11,hy11,h⟩:=zAc h;refine⟨_,⟨_,_,hy11,rfl,rfl⟩,?_⟩
        show Tri ..;refine zAh rfl h (fun hb h=>?_) (fun hb h=>?_)
        ·refine zYe [] [] rfl ?_;show Tri ..;refine zAe ?_;cases h;replace h:some _=some _:=ho2;cases h;replace h:some _=some _:=ho1;have hy:=Option.some.inj h;subst hy;unfold zAw;exact⟨_,Le.refl _ _,rfl,rfl⟩
        ·refine zAf ?_;cases h;exact⟨_,rfl,(Le.forget _ ⟨rfl,rfl,rfl,trivial⟩)⟩
     ·subst hz;replace h:=ho2;show Tri ..;refine zAk hle ?_;refine zAb [] [] rfl ?_;refine⟨(k,points5,IntKind.i64.wrap (i3+1)),h,(Le.forget _ ⟨rfl,rfl,rfl,trivial⟩),Nat.lt_succ_self k⟩
    ·refine zAI ?_;cases h;exact⟨_,rfl,(Le.forget _ ⟨rfl,rfl,trivial⟩)⟩
 ·subst hz;replace h:=ho1;show Tri ..;refine zAk hle ?_;refine zAa ?_;obtain⟨x12,hj,h⟩:=zAc h;refine zAv ⟨ofL [(2,.s (.bool x12))],fun _=>none,0⟩ ?_ (fun σ' hle=>?_)
  ·replace h:=hj;refine zAb [] [36,41] rfl ?_;intro b hb;cases b with
   | true =>
    replace h:=zAE hb.symm h;intro b hb;cases b with
    | true =>
     replace h:=zAE hb.symm h;cases h;exact(Le.forget _ ⟨rfl,trivial⟩)
    | false =>
     replace h:=zAD hb.symm h;cases h;exact(Le.forget _ ⟨rfl,trivial⟩)
   | false =>
    replace h:=zAD hb.symm h;intro b hb;subst hb;cases h;exact(Le.forget _ ⟨rfl,trivial⟩)
  ·show Tri ..;refine zAk hle ?_;refine zAe ?_;have hy:=Option.some.inj h;subst hy;unfold zAw;exact⟨_,Le.refl _ _,rfl,rfl⟩
def zMk (n:Nat) (xs:List AV) (r:Ret):Prop:=∃ (a0:List UInt8) (y0:Bool),zCR n a0=some y0/\xs=[.s (.str a0)]/\r = .val (.s (.bool y0))
def zFV:zAz:=zAy fun xs r=>∃ n,zMk n xs r
theorem zHO:PSound Tryz.prog 34 zFV:=by
 have gok:=@gok0 Tryz.prog;refine zAA tokW Tryz.call34 Tryz.func34 rfl (fun xs r h=>by obtain⟨n,_,_,_,rfl,_⟩:=h; show 1<=20; decide) 20 rfl ?_;rintro xs r w0 G0 ⟨n,s1,y0,h,rfl,rfl⟩ _;rw[zCR]at h;refine zYe [] [] rfl ?_;show Tri ..;refine zAa ?_;refine zYe [] [] rfl ?_;show Tri ..;obtain⟨fl,hl,ho1⟩:=zAc h;refine zBt (fl:=fl) (fun z=>match z with | _=>⟨ofL [],fun _=>none,0⟩) ?_ (fun z σ' hz hle=>?_)
 ·refine zAl (zAF (X:=Nat×Int) (fun y=>match y with | (k,i2)=>⟨ofL [(0,.s (.str s1)),(3,.s (.int .i64 i2))],fun _=>none,0⟩) (fun y=>zBj s1 y.1 y.2=some fl) (fun y=>y.1) (n,0) hl ?_ ?_)
  ·exact(Le.forget _ ⟨rfl,rfl,trivial⟩)
  ·rintro⟨k,i2⟩ h;cases k with
   | zero=>cases h
   | succ k =>
    replace h:zBj s1 (k+1) i2=some fl:=h;rw[zBj]at h;refine zAa ?_;refine zYe [] [] rfl ?_;show Tri ..;refine zAh rfl h (fun hb h=>?_) (fun hb h=>?_)
    ·refine zAf ?_;show Tri ..;refine zAa ?_;refine zAl ?_;refine zAa ?_;obtain⟨x3,hj,h⟩:=zAc h;refine zAv ⟨ofL [(0,.s (.str s1)),(3,.s (.int .i64 i2)),(19,.s (.bool x3))],fun _=>none,0⟩ ?_ (fun σ' hle=>?_)
     ·replace h:=hj;refine zAb [] [12,14,17] rfl ?_;obtain⟨c4,hc4,h⟩:=zAc h;refine And.intro (zBJ hc4).1 ?_;intro v5 hv5;obtain rfl:(c4.toNat:Int)=v5:=(hv5.trans (zBJ hc4).2).symm;intro b hb;cases b with
      | true =>
       replace h:=zAE hb.symm h;cases h;exact(Le.forget _ ⟨rfl,rfl,rfl,trivial⟩)
      | false =>
       replace h:=zAD hb.symm h;obtain⟨c6,hc6,h⟩:=zAc h;refine And.intro (zBJ hc6).1 ?_;intro v7 hv7;obtain rfl:(c6.toNat:Int)=v7:=(hv7.trans (zBJ hc6).2).symm;cases h;exact(Le.forget _ ⟨rfl,rfl,rfl,trivial⟩)
     ·show Tri ..;refine zAk hle ?_;refine zAh rfl h (fun hb h=>?_) (fun hb h=>?_)
      ·refine zYe [] [] rfl ?_;show Tri ..;refine zAe ?_;cases h;replace h:some _=some _:=ho1;have hy:=Option.some.inj h;subst hy;unfold zAw;exact⟨_,Le.refl _ _,rfl,rfl⟩
      ·refine zAf ?_;show Tri ..;refine zAb [] [] rfl ?_;refine⟨(k,IntKind.i64.wrap (i2+1)),h,(Le.forget _ ⟨rfl,rfl,trivial⟩),Nat.lt_succ_self k⟩
    ·refine zAI ?_;cases h;exact⟨_,rfl,(Le.forget _ trivial)⟩
 ·subst hz;obtain _:=z;replace h:=ho1;show Tri ..;refine zAk hle ?_;refine zYe [] [] rfl ?_;show Tri ..;refine zAe ?_;have hy:=Option.some.inj h;subst hy;unfold zAw;exact⟨_,Le.refl _ _,rfl,rfl⟩
def zTT (n:Nat) (xs:List AV) (r:Ret):Prop:=∃ (a0:Nd) (y0:Bool),zHf n a0=some y0/\xs=[.agg ((Nd.enc a0).map .s)]/\r = .val (.s (.bool y0))
def zOu:zAz:=zAy fun xs r=>∃ n,zTT n xs r
theorem zST:PSound Tryz.prog 113 zOu:=by
 have gok:∀ f s,look? f [(150,zLo),(151,zLn),(34,zFV),(153,zHq),(152,zPy),(154,zMv)]=some s->PSound Tryz.prog f s:=zAt (by
  simp only[List.forall_mem_cons]
  exact⟨zP2,zP1,zHO,zJs,zRL,zOS,by simp⟩)
 refine zAA tokW Tryz.call113 Tryz.func113 rfl (fun xs r h=>by obtain⟨n,_,_,_,rfl,_⟩:=h; show 1<=53; decide) 53 rfl ?_;rintro xs r w0 G0 ⟨n,⟨n1A,n1B,n1D,n1C⟩,y0,h,rfl,rfl⟩ _;rw[zHf]at h;refine zYe [] [] rfl ?_;show Tri ..;refine zAa ?_;refine zYe [] [] rfl ?_;show Tri ..;refine zAl ?_;refine zYe [] [] rfl ?_;show Tri ..;refine zAh rfl h (fun hb h=>?_) (fun hb h=>?_)
 ·refine zYe [] [] rfl ?_;obtain⟨y2,hy2,h⟩:=zAc h;refine⟨_,⟨_,_,_,hy2,rfl,rfl⟩,?_⟩
  show Tri ..;refine zAe ?_;have hy:=Option.some.inj h;subst hy;unfold zAw;exact⟨_,Le.refl _ _,rfl,rfl⟩
 ·refine zYe [] [] rfl ?_;show Tri ..;refine zAh rfl h (fun hb h=>?_) (fun hb h=>?_)
  ·refine zYe [] [] rfl ?_;obtain⟨y3,hy3,h⟩:=zAc h;refine⟨_,⟨_,_,_,hy3,rfl,rfl⟩,?_⟩
   show Tri ..;refine zAe ?_;have hy:=Option.some.inj h;subst hy;unfold zAw;exact⟨_,Le.refl _ _,rfl,rfl⟩
  ·refine zYe [] [] rfl ?_;show Tri ..;refine zAh rfl h (fun hb h=>?_) (fun hb h=>?_)
   ·refine zAa ?_;obtain⟨x4,hj,h⟩:=zAc h;refine zAv ⟨ofL [(2,.s (.bool x4))],fun _=>none,0⟩ ?_ (fun σ' hle=>?_)
    ·replace h:=hj;refine zAb [] [21] rfl ?_;intro b hb;cases b with
     | true =>
      replace h:=zAE hb.symm h;obtain⟨y5,hy5,h⟩:=zAc h;refine⟨_,⟨_,_,_,hy5,rfl,rfl⟩,?_⟩
      cases h;exact(Le.forget _ ⟨rfl,trivial⟩)
     | false =>
      replace h:=zAD hb.symm h;cases h;exact(Le.forget _ ⟨rfl,trivial⟩)
    ·show Tri ..;refine zAk hle ?_;refine zAe ?_;have hy:=Option.some.inj h;subst hy;unfold zAw;exact⟨_,Le.refl _ _,rfl,rfl⟩
   ·refine zYe [] [] rfl ?_;show Tri ..;refine zAh rfl h (fun hb h=>?_) (fun hb h=>?_)
    ·refine zAa ?_;refine zAQ [] [] [] rfl (by decide +kernel) ?_;obtain⟨y6,hy6,h⟩:=zAc h;refine⟨_,⟨_,hy6,rfl,rfl⟩,?_⟩
     obtain⟨y7,hy7,h⟩:=zAc h;refine⟨_,⟨_,_,_,_,hy7,rfl,rfl⟩,?_⟩
     show Tri ..;refine zAe ?_;have hy:=Option.some.inj h;subst hy;unfold zAw;exact⟨_,Le.refl _ _,rfl,rfl⟩
    ·refine zYe [] [] rfl ?_;show Tri ..;refine zAh rfl h (fun hb h=>?_) (fun hb h=>?_)
     ·refine zAa ?_;obtain⟨x8,hj,h⟩:=zAc h;refine zAv ⟨ofL [(2,.s (.bool x8))],fun _=>none,0⟩ ?_ (fun σ' hle=>?_)
      ·replace h:=hj;refine zAb [] [38,41,44,47] rfl ?_;intro b hb;cases b with
       | true =>
        replace h:=zAE hb.symm h;obtain⟨c9,hc9,h⟩:=zAc h;refine And.intro (zBJ hc9).1 ?_;intro v10 hv10;obtain rfl:(c9.toNat:Int)=v10:=(hv10.trans (zBJ hc9).2).symm;obtain⟨y11,hy11,h⟩:=zAc h;refine⟨_,⟨_,_,_,_,hy11,rfl,rfl⟩,?_⟩
        intro b hb;cases b with
        | true =>
         replace h:=zAE hb.symm h;obtain⟨c12,hc12,h⟩:=zAc h;refine And.intro (zBJ hc12).1 ?_;intro v13 hv13;obtain rfl:(c12.toNat:Int)=v13:=(hv13.trans (zBJ hc12).2).symm;obtain⟨y14,hy14,h⟩:=zAc h;refine⟨_,⟨_,_,_,_,hy14,rfl,rfl⟩,?_⟩
         cases h;exact(Le.forget _ ⟨rfl,trivial⟩)
        | false =>
         replace h:=zAD hb.symm h;cases h;exact(Le.forget _ ⟨rfl,trivial⟩)
       | false =>
        replace h:=zAD hb.symm h;intro b hb;subst hb;cases h;exact(Le.forget _ ⟨rfl,trivial⟩)
      ·show Tri ..;refine zAk hle ?_;refine zAe ?_;have hy:=Option.some.inj h;subst hy;unfold zAw;exact⟨_,Le.refl _ _,rfl,rfl⟩
     ·refine zAf ?_;show Tri ..;refine zYe [] [] rfl ?_;show Tri ..;refine zAe ?_;have hy:=Option.some.inj h;subst hy;unfold zAw;exact⟨_,Le.refl _ _,rfl,rfl⟩
def zTS (xs:List AV) (r:Ret):Prop:=∃ (a0:Nd) (y0:Bool),zHe a0=some y0/\xs=[.agg ((Nd.enc a0).map .s)]/\r = .val (.s (.bool y0))
def zOs:zAz:=zAy fun xs r=>zTS xs r
theorem zSR:PSound Tryz.prog 114 zOs:=by
 have gok:=@gok0 Tryz.prog;refine zAA tokW Tryz.call114 Tryz.func114 rfl (fun xs r h=>by obtain⟨_,_,_,rfl,_⟩:=h; show 1<=64; decide) 64 rfl ?_;rintro xs r w0 G0 ⟨⟨n1A,n1B,n1D,n1C⟩,y0,h,rfl,rfl⟩ _;rw[zHe]at h;refine zYe [] [] rfl ?_;show Tri ..;refine zYe [] [6] rfl ?_;intro n2 hn2;obtain rfl:(n1C.length:Int)=n2:=(hn2.trans (congrArg (fun m:Nat=>(m:Int)) (rlen Nd.encs_eq n1C))).symm;show Tri ..;refine zAa ?_;refine zYe [] [] rfl ?_;show Tri ..;refine zAh rfl h (fun hb h=>?_) (fun hb h=>?_)
 ·refine zAa ?_;obtain⟨x3,hj,h⟩:=zAc h;refine zAv ⟨ofL [(2,.s (.bool x3))],fun _=>none,0⟩ ?_ (fun σ' hle=>?_)
  ·replace h:=hj;refine zAb [] [13,18,22,26] rfl ?_;intro b hb;cases b with
   | true =>
    replace h:=zAE hb.symm h;intro b hb;cases b with
    | true =>
     replace h:=zAE hb.symm h;intro b hb;cases b with
     | true =>
      replace h:=zAE hb.symm h;intro b hb;cases b with
      | true =>
       replace h:=zAE hb.symm h;obtain⟨hq,h⟩:=zAK h;refine And.intro hq ?_;cases h;exact(Le.forget _ ⟨rfl,trivial⟩)
      | false =>
       replace h:=zAD hb.symm h;cases h;exact(Le.forget _ ⟨rfl,trivial⟩)
     | false =>
      replace h:=zAD hb.symm h;intro b hb;subst hb;cases h;exact(Le.forget _ ⟨rfl,trivial⟩)
    | false =>
     replace h:=zAD hb.symm h;intro b hb;subst hb;intro b hb;subst hb;cases h;exact(Le.forget _ ⟨rfl,trivial⟩)
   | false =>
    replace h:=zAD hb.symm h;intro b hb;subst hb;intro b hb;subst hb;intro b hb;subst hb;cases h;exact(Le.forget _ ⟨rfl,trivial⟩)
  ·show Tri ..;refine zAk hle ?_;refine zAe ?_;have hy:=Option.some.inj h;subst hy;unfold zAw;exact⟨_,Le.refl _ _,rfl,rfl⟩
 ·refine zAf ?_;show Tri ..;refine zAa ?_;refine zYe [] [] rfl ?_;show Tri ..;refine zAh rfl h (fun hb h=>?_) (fun hb h=>?_)
  ·refine zYe [] [] rfl ?_;show Tri ..;refine zAe ?_;have hy:=Option.some.inj h;subst hy;unfold zAw;exact⟨_,Le.refl _ _,rfl,rfl⟩
  ·refine zAf ?_;show Tri ..;refine zAa ?_;refine zYe [] [] rfl ?_;show Tri ..;obtain⟨fl,hj,ho1⟩:=zAc h;refine zBt (fl:=fl) (fun z=>match z with | _=>⟨ofL [],fun _=>none,0⟩) ?_ (fun z σ' hz hle=>?_)
   ·replace h:=hj;refine zAl ?_;refine zYe [] [] rfl ?_;show Tri ..;refine zAh rfl h (fun hb h=>?_) (fun hb h=>?_)
    ·refine zYe [] [] rfl ?_;show Tri ..;refine zAe ?_;cases h;replace h:some _=some _:=ho1;have hy:=Option.some.inj h;subst hy;unfold zAw;exact⟨_,Le.refl _ _,rfl,rfl⟩
    ·refine zAa ?_;refine zYe [] [] rfl ?_;show Tri ..;obtain⟨x4,hj,h⟩:=zAc h;refine zAv ⟨ofL [(3,.s (.int .i64 (n1C.length:Int))),(37,.s (.int .i64 n1A)),(42,.s (.bool x4))],fun _=>none,0⟩ ?_ (fun σ' hle=>?_)
     ·replace h:=hj;refine zAh rfl h (fun hb h=>?_) (fun hb h=>?_)
      ·refine zAf ?_;cases h;exact(Le.forget _ ⟨rfl,rfl,rfl,trivial⟩)
      ·refine zYe [] [] rfl ?_;show Tri ..;refine zAh rfl h (fun hb h=>?_) (fun hb h=>?_)
       ·refine zAf ?_;cases h;exact(Le.forget _ ⟨rfl,rfl,rfl,trivial⟩)
       ·refine zAb [] [] rfl ?_;cases h;exact(Le.forget _ ⟨rfl,rfl,rfl,trivial⟩)
     ·show Tri ..;refine zAk hle ?_;refine zAh rfl h (fun hb h=>?_) (fun hb h=>?_)
      ·refine zYe [] [] rfl ?_;show Tri ..;refine zAe ?_;cases h;replace h:some _=some _:=ho1;have hy:=Option.some.inj h;subst hy;unfold zAw;exact⟨_,Le.refl _ _,rfl,rfl⟩
      ·refine zAa ?_;refine zYe [] [] rfl ?_;show Tri ..;obtain⟨x5,hj,h⟩:=zAc h;refine zAv ⟨ofL [(3,.s (.int .i64 (n1C.length:Int))),(37,.s (.int .i64 n1A)),(48,.s (.bool x5))],fun _=>none,0⟩ ?_ (fun σ' hle=>?_)
       ·replace h:=hj;refine zAh rfl h (fun hb h=>?_) (fun hb h=>?_)
        ·refine zAf ?_;cases h;exact(Le.forget _ ⟨rfl,rfl,rfl,trivial⟩)
        ·refine zYe [] [] rfl ?_;show Tri ..;refine zAh rfl h (fun hb h=>?_) (fun hb h=>?_)
         ·refine zAf ?_;cases h;exact(Le.forget _ ⟨rfl,rfl,rfl,trivial⟩)
         ·refine zYe [] [] rfl ?_;show Tri ..;refine zAh rfl h (fun hb h=>?_) (fun hb h=>?_)
          ·refine zAf ?_;cases h;exact(Le.forget _ ⟨rfl,rfl,rfl,trivial⟩)
          ·refine zAb [] [] rfl ?_;cases h;exact(Le.forget _ ⟨rfl,rfl,rfl,trivial⟩)
       ·show Tri ..;refine zAk hle ?_;refine zAh rfl h (fun hb h=>?_) (fun hb h=>?_)
        ·refine zYe [] [] rfl ?_;show Tri ..;refine zAe ?_;cases h;replace h:some _=some _:=ho1;have hy:=Option.some.inj h;subst hy;unfold zAw;exact⟨_,Le.refl _ _,rfl,rfl⟩
        ·refine zYe [] [] rfl ?_;show Tri ..;refine zAh rfl h (fun hb h=>?_) (fun hb h=>?_)
         ·refine zYe [] [] rfl ?_;show Tri ..;refine zAe ?_;cases h;replace h:some _=some _:=ho1;have hy:=Option.some.inj h;subst hy;unfold zAw;exact⟨_,Le.refl _ _,rfl,rfl⟩
         ·refine zAa ?_;refine zYe [] [] rfl ?_;show Tri ..;obtain⟨x6,hj,h⟩:=zAc h;refine zAv ⟨ofL [(3,.s (.int .i64 (n1C.length:Int))),(59,.s (.bool x6))],fun _=>none,0⟩ ?_ (fun σ' hle=>?_)
          ·replace h:=hj;refine zAh rfl h (fun hb h=>?_) (fun hb h=>?_)
           ·refine zAf ?_;cases h;exact(Le.forget _ ⟨rfl,rfl,trivial⟩)
           ·refine zAb [] [] rfl ?_;cases h;exact(Le.forget _ ⟨rfl,rfl,trivial⟩)
          ·show Tri ..;refine zAk hle ?_;refine zAh rfl h (fun hb h=>?_) (fun hb h=>?_)
           ·refine zYe [] [] rfl ?_;show Tri ..;refine zAe ?_;cases h;replace h:some _=some _:=ho1;have hy:=Option.some.inj h;subst hy;unfold zAw;exact⟨_,Le.refl _ _,rfl,rfl⟩
           ·refine zAf ?_;cases h;exact⟨_,rfl,(Le.forget _ trivial)⟩
   ·subst hz;obtain _:=z;replace h:=ho1;show Tri ..;refine zAk hle ?_;refine zYe [] [] rfl ?_;show Tri ..;refine zAe ?_;have hy:=Option.some.inj h;subst hy;unfold zAw;exact⟨_,Le.refl _ _,rfl,rfl⟩
def zGZ (n:Nat) (xs:List AV) (r:Ret):Prop:=∃ (a0:Nd) (y0:Bool),zDQ n a0=some y0/\xs=[.agg ((Nd.enc a0).map .s)]/\r = .val (.s (.bool y0))
theorem zQm (n:Nat) (ih:PSound Tryz.prog 76 (zAy (zGZ n))):PSound Tryz.prog 76 (zAy (zGZ (n+1))):=by
 have gok:∀ f s,look? f [(113,zOu),(114,zOs),(76,zAy (zGZ n))]=some s->PSound Tryz.prog f s:=zAt (by
  simp only[List.forall_mem_cons]
  exact⟨zST,zSR,ih,by simp⟩)
 refine zAA tokW Tryz.call76 Tryz.func76 rfl (fun xs r h=>by obtain⟨_,_,_,rfl,_⟩:=h; show 1<=39; decide) 39 rfl ?_;rintro xs r w0 G0 ⟨⟨n1A,n1B,n1D,n1C⟩,y0,h,rfl,rfl⟩ _;rw[zDQ]at h;refine zYe [] [] rfl ?_;show Tri ..;refine zAa ?_;refine zAa ?_;obtain⟨x2,hj,h⟩:=zAc h;refine zAv ⟨ofL [(1,.s (.pt [.int .i64 n1A,.str n1B,.int .i64 n1D,.sl 4 (Nd.encs n1C)])),(11,.s (.bool x2))],fun _=>none,0⟩ ?_ (fun σ' hle=>?_)
 ·replace h:=hj;refine zAb [] [7] rfl ?_;obtain⟨y3,hy3,h⟩:=zAc h;refine⟨_,⟨_,_,_,hy3,rfl,rfl⟩,?_⟩
  intro b hb;cases b with
  | true =>
   replace h:=zAE hb.symm h;cases h;exact(Le.forget _ ⟨rfl,rfl,trivial⟩)
  | false =>
   replace h:=zAD hb.symm h;obtain⟨y4,hy4,h⟩:=zAc h;refine⟨_,⟨_,_,hy4,rfl,rfl⟩,?_⟩
   cases h;exact(Le.forget _ ⟨rfl,rfl,trivial⟩)
 ·show Tri ..;refine zAk hle ?_;refine zAh rfl h (fun hb h=>?_) (fun hb h=>?_)
  ·refine zYe [] [] rfl ?_;show Tri ..;refine zAe ?_;have hy:=Option.some.inj h;subst hy;unfold zAw;exact⟨_,Le.refl _ _,rfl,rfl⟩
  ·refine zAf ?_;show Tri ..;refine zAa ?_;refine zYe [] [] rfl ?_;show Tri ..;obtain⟨fl,hl,ho1⟩:=zAc h;refine zBt (fl:=fl) (fun z=>match z with | _=>⟨ofL [],fun _=>none,0⟩) ?_ (fun z σ' hz hle=>?_)
   ·refine zAl (zAF (X:=Nat×Int) (fun y=>match y with | (k,i5)=>⟨ofL [(1,.s (.pt [.int .i64 n1A,.str n1B,.int .i64 n1D,.sl 4 (Nd.encs n1C)])),(3,.s (.int .i64 i5))],fun _=>none,0⟩) (fun y=>zC5 (zDQ n) n1A n1C y.1 y.2=some fl) (fun y=>y.1) (n,0) hl ?_ ?_)
    ·exact(Le.forget _ ⟨rfl,rfl,trivial⟩)
    ·rintro⟨k,i5⟩ h;cases k with
     | zero=>cases h
     | succ k =>
      replace h:zC5 (zDQ n) n1A n1C (k+1) i5=some fl:=h;rw[zC5]at h;refine zAa ?_;refine zYe [] [15] rfl ?_;intro n6 hn6;obtain rfl:(n1C.length:Int)=n6:=(hn6.trans (congrArg (fun m:Nat=>(m:Int)) (rlen Nd.encs_eq n1C))).symm;show Tri ..;refine zAh rfl h (fun hb h=>?_) (fun hb h=>?_)
      ·refine zAf ?_;show Tri ..;refine zAa ?_;refine zAl ?_;refine zAa ?_;obtain⟨x7,hj,h⟩:=zAc h;refine zAv ⟨ofL [(1,.s (.pt [.int .i64 n1A,.str n1B,.int .i64 n1D,.sl 4 (Nd.encs n1C)])),(3,.s (.int .i64 i5)),(38,.s (.bool x7))],fun _=>none,0⟩ ?_ (fun σ' hle=>?_)
       ·replace h:=hj;refine zAQ [] [22,30,34] [] rfl (by decide +kernel) ?_;obtain⟨⟨e8A,e8B,e8D,e8C⟩,he8,h⟩:=zAc h;refine And.intro (zAB Nd.encs_eq he8).1 ?_;intro r9 hr9;obtain rfl:[.int .i64 e8A,.str e8B,.int .i64 e8D,.sl 4 (Nd.encs e8C)]=r9:=(hr9.trans (zAB Nd.encs_eq he8).2.1).symm;intro b hb;cases b with
        | true =>
         replace h:=zAE hb.symm h;cases h;exact(Le.forget _ ⟨rfl,rfl,rfl,trivial⟩)
        | false =>
         replace h:=zAD hb.symm h;obtain⟨⟨e10A,e10B,e10D,e10C⟩,he10,h⟩:=zAc h;refine And.intro (zAB Nd.encs_eq he10).1 ?_;intro r11 hr11;obtain rfl:[.int .i64 e10A,.str e10B,.int .i64 e10D,.sl 4 (Nd.encs e10C)]=r11:=(hr11.trans (zAB Nd.encs_eq he10).2.1).symm;obtain⟨y12,hy12,h⟩:=zAc h;refine⟨_,⟨_,_,hy12,rfl,rfl⟩,?_⟩
         cases h;exact(Le.forget _ ⟨rfl,rfl,rfl,trivial⟩)
       ·show Tri ..;refine zAk hle ?_;refine zAh rfl h (fun hb h=>?_) (fun hb h=>?_)
        ·refine zYe [] [] rfl ?_;show Tri ..;refine zAe ?_;cases h;replace h:some _=some _:=ho1;have hy:=Option.some.inj h;subst hy;unfold zAw;exact⟨_,Le.refl _ _,rfl,rfl⟩
        ·refine zAf ?_;show Tri ..;refine zAb [] [] rfl ?_;refine⟨(k,IntKind.i64.wrap (i5+1)),h,(Le.forget _ ⟨rfl,rfl,trivial⟩),Nat.lt_succ_self k⟩
      ·refine zAI ?_;cases h;exact⟨_,rfl,(Le.forget _ trivial)⟩
   ·subst hz;obtain _:=z;replace h:=ho1;show Tri ..;refine zAk hle ?_;refine zYe [] [] rfl ?_;show Tri ..;refine zAe ?_;have hy:=Option.some.inj h;subst hy;unfold zAw;exact⟨_,Le.refl _ _,rfl,rfl⟩
theorem zQ0:∀ n,PSound Tryz.prog 76 (zAy (zGZ n)):=by
 intro n
 induction n with
 | zero=>exact zBI Tryz.call76 (fun xs r h=>by obtain⟨_,_,h,_⟩:=h; cases h)
 | succ n ih=>exact zQm n ih
def zOr:zAz:=zAy fun xs r=>∃ n,zGZ n xs r
theorem zSQ:PSound Tryz.prog 76 zOr:=zCb zQ0
def zFQ (n:Nat) (xs:List AV) (r:Ret):Prop:=∃ (a0:Nd) (y0:Int),zC2 n a0=some y0/\xs=[.agg ((Nd.enc a0).map .s)]/\r = .val (.s (.int .i64 y0))
theorem zOk (n:Nat) (ih:PSound Tryz.prog 77 (zAy (zFQ n))):PSound Tryz.prog 77 (zAy (zFQ (n+1))):=by
 have gok:∀ f s,look? f [(77,zAy (zFQ n))]=some s->PSound Tryz.prog f s:=zAt (by
  simp only[List.forall_mem_cons]
  exact⟨ih,by simp⟩)
 refine zAA tokW Tryz.call77 Tryz.func77 rfl (fun xs r h=>by obtain⟨_,_,_,rfl,_⟩:=h; show 1<=21; decide) 21 rfl ?_;rintro xs r w0 G0 ⟨⟨n1A,n1B,n1D,n1C⟩,y0,h,rfl,rfl⟩ _;rw[zC2]at h;refine zYe [] [] rfl ?_;show Tri ..;refine zYe [] [] rfl ?_;show Tri ..;refine zAa ?_;refine zYe [] [] rfl ?_;show Tri ..;obtain⟨out4,hl,h⟩:=zAc h;refine zAv ⟨ofL [(3,.s (.int .i64 out4))],fun _=>none,0⟩ ?_ (fun σ' hle=>?_)
 ·refine zAl (zAF (X:=Nat×Int×Int) (fun y=>match y with | (k,out2,i3)=>⟨ofL [(1,.s (.pt [.int .i64 n1A,.str n1B,.int .i64 n1D,.sl 4 (Nd.encs n1C)])),(3,.s (.int .i64 out2)),(4,.s (.int .i64 i3))],fun _=>none,0⟩) (fun y=>zCE (zC2 n) n1C y.1 y.2.1 y.2.2=some out4) (fun y=>y.1) (n,1,0) hl ?_ ?_)
  ·exact(Le.forget _ ⟨rfl,rfl,rfl,trivial⟩)
  ·rintro⟨k,out2,i3⟩ h;cases k with
   | zero=>cases h
   | succ k =>
    replace h:zCE (zC2 n) n1C (k+1) out2 i3=some out4:=h;rw[zCE]at h;refine zAa ?_;refine zYe [] [8] rfl ?_;intro n5 hn5;obtain rfl:(n1C.length:Int)=n5:=(hn5.trans (congrArg (fun m:Nat=>(m:Int)) (rlen Nd.encs_eq n1C))).symm;show Tri ..;refine zAh rfl h (fun hb h=>?_) (fun hb h=>?_)
    ·refine zAf ?_;show Tri ..;refine zAa ?_;refine zAl ?_;refine zAb [] [16] rfl ?_;obtain⟨⟨e6A,e6B,e6D,e6C⟩,he6,h⟩:=zAc h;refine And.intro (zAB Nd.encs_eq he6).1 ?_;intro r7 hr7;obtain rfl:[.int .i64 e6A,.str e6B,.int .i64 e6D,.sl 4 (Nd.encs e6C)]=r7:=(hr7.trans (zAB Nd.encs_eq he6).2.1).symm;obtain⟨y8,hy8,h⟩:=zAc h;refine⟨_,⟨_,_,hy8,rfl,rfl⟩,?_⟩
     show Tri ..;refine zAb [] [] rfl ?_;refine⟨(k,IntKind.i64.wrap (out2+y8),IntKind.i64.wrap (i3+1)),h,(Le.forget _ ⟨rfl,rfl,rfl,trivial⟩),Nat.lt_succ_self k⟩
    ·refine zAI ?_;cases h;exact(Le.forget _ ⟨rfl,trivial⟩)
 ·show Tri ..;refine zAk hle ?_;refine zYe [] [] rfl ?_;show Tri ..;refine zAe ?_;have hy:=Option.some.inj h;subst hy;unfold zAw;exact⟨_,Le.refl _ _,rfl,rfl⟩
theorem zPz:∀ n,PSound Tryz.prog 77 (zAy (zFQ n)):=by
 intro n
 induction n with
 | zero=>exact zBI Tryz.call77 (fun xs r h=>by obtain⟨_,_,h,_⟩:=h; cases h)
 | succ n ih=>exact zOk n ih
def zMr:zAz:=zAy fun xs r=>∃ n,zFQ n xs r
theorem zRI:PSound Tryz.prog 77 zMr:=zCb zPz
def zFR (n:Nat) (xs:List AV) (r:Ret):Prop:=∃ (a0:Nd) (y0:Int),zC3 n a0=some y0/\xs=[.agg ((Nd.enc a0).map .s)]/\r = .val (.s (.int .i64 y0))
theorem zOl (n:Nat) (ih:PSound Tryz.prog 78 (zAy (zFR n))):PSound Tryz.prog 78 (zAy (zFR (n+1))):=by
 have gok:∀ f s,look? f [(78,zAy (zFR n))]=some s->PSound Tryz.prog f s:=zAt (by
  simp only[List.forall_mem_cons]
  exact⟨ih,by simp⟩)
 refine zAA tokW Tryz.call78 Tryz.func78 rfl (fun xs r h=>by obtain⟨_,_,_,rfl,_⟩:=h; show 1<=22; decide) 22 rfl ?_;rintro xs r w0 G0 ⟨⟨n1A,n1B,n1D,n1C⟩,y0,h,rfl,rfl⟩ _;rw[zC3]at h;refine zYe [] [] rfl ?_;show Tri ..;refine zYe [] [] rfl ?_;show Tri ..;refine zAa ?_;refine zYe [] [] rfl ?_;show Tri ..;obtain⟨out4,hl,h⟩:=zAc h;refine zAv ⟨ofL [(3,.s (.int .i64 out4))],fun _=>none,0⟩ ?_ (fun σ' hle=>?_)
 ·refine zAl (zAF (X:=Nat×Int×Int) (fun y=>match y with | (k,out2,i3)=>⟨ofL [(1,.s (.pt [.int .i64 n1A,.str n1B,.int .i64 n1D,.sl 4 (Nd.encs n1C)])),(3,.s (.int .i64 out2)),(4,.s (.int .i64 i3))],fun _=>none,0⟩) (fun y=>zCF (zC3 n) n1C y.1 y.2.1 y.2.2=some out4) (fun y=>y.1) (n,0,0) hl ?_ ?_)
  ·exact(Le.forget _ ⟨rfl,rfl,rfl,trivial⟩)
  ·rintro⟨k,out2,i3⟩ h;cases k with
   | zero=>cases h
   | succ k =>
    replace h:zCF (zC3 n) n1C (k+1) out2 i3=some out4:=h;rw[zCF]at h;refine zAa ?_;refine zYe [] [8] rfl ?_;intro n5 hn5;obtain rfl:(n1C.length:Int)=n5:=(hn5.trans (congrArg (fun m:Nat=>(m:Int)) (rlen Nd.encs_eq n1C))).symm;show Tri ..;refine zAh rfl h (fun hb h=>?_) (fun hb h=>?_)
    ·refine zAf ?_;show Tri ..;refine zAa ?_;refine zAl ?_;refine zAb [] [16] rfl ?_;obtain⟨⟨e6A,e6B,e6D,e6C⟩,he6,h⟩:=zAc h;refine And.intro (zAB Nd.encs_eq he6).1 ?_;intro r7 hr7;obtain rfl:[.int .i64 e6A,.str e6B,.int .i64 e6D,.sl 4 (Nd.encs e6C)]=r7:=(hr7.trans (zAB Nd.encs_eq he6).2.1).symm;obtain⟨y8,hy8,h⟩:=zAc h;refine⟨_,⟨_,_,hy8,rfl,rfl⟩,?_⟩
     show Tri ..;refine zAb [] [] rfl ?_;refine⟨(k,(if out2<y8 then y8 else out2),IntKind.i64.wrap (i3+1)),h,(Le.forget _ ⟨rfl,rfl,rfl,trivial⟩),Nat.lt_succ_self k⟩
    ·refine zAI ?_;cases h;exact(Le.forget _ ⟨rfl,trivial⟩)
 ·show Tri ..;refine zAk hle ?_;refine zYe [] [] rfl ?_;show Tri ..;refine zAe ?_;have hy:=Option.some.inj h;subst hy;unfold zAw;exact⟨_,Le.refl _ _,rfl,rfl⟩
theorem zPA:∀ n,PSound Tryz.prog 78 (zAy (zFR n)):=by
 intro n
 induction n with
 | zero=>exact zBI Tryz.call78 (fun xs r h=>by obtain⟨_,_,h,_⟩:=h; cases h)
 | succ n ih=>exact zOl n ih
def zMs:zAz:=zAy fun xs r=>∃ n,zFR n xs r
theorem zRJ:PSound Tryz.prog 78 zMs:=zCb zPA
def zSs (n:Nat) (xs:List AV) (r:Ret):Prop:=∃ (a0:Nd) (y0:Bool),zBh n a0=some y0/\xs=[.agg ((Nd.enc a0).map .s)]/\r = .val (.s (.bool y0))
def zEc:zAz:=zAy fun xs r=>∃ n,zSs n xs r
theorem zEu:PSound Tryz.prog 35 zEc:=by
 have gok:∀ f s,look? f [(76,zOr),(77,zMr),(78,zMs)]=some s->PSound Tryz.prog f s:=zAt (by
  simp only[List.forall_mem_cons]
  exact⟨zSQ,zRI,zRJ,by simp⟩)
 refine zAA tokW Tryz.call35 Tryz.func35 rfl (fun xs r h=>by obtain⟨n,_,_,_,rfl,_⟩:=h; show 1<=20; decide) 20 rfl ?_;rintro xs r w0 G0 ⟨n,⟨n1A,n1B,n1D,n1C⟩,y0,h,rfl,rfl⟩ _;rw[zBh]at h;refine zYe [] [] rfl ?_;show Tri ..;refine zAa ?_;obtain⟨x2,hj,h⟩:=zAc h;refine zAv ⟨ofL [(2,.s (.bool x2))],fun _=>none,0⟩ ?_ (fun σ' hle=>?_)
 ·replace h:=hj;refine zAb [] [6,10,15] rfl ?_;intro b hb;cases b with
  | true =>
   replace h:=zAE hb.symm h;obtain⟨y3,hy3,h⟩:=zAc h;refine⟨_,⟨_,_,_,hy3,rfl,rfl⟩,?_⟩
   intro b hb;cases b with
   | true =>
    replace h:=zAE hb.symm h;obtain⟨y4,hy4,h⟩:=zAc h;refine⟨_,⟨_,_,_,hy4,rfl,rfl⟩,?_⟩
    intro b hb;cases b with
    | true =>
     replace h:=zAE hb.symm h;obtain⟨y5,hy5,h⟩:=zAc h;refine⟨_,⟨_,_,_,hy5,rfl,rfl⟩,?_⟩
     cases h;exact(Le.forget _ ⟨rfl,trivial⟩)
    | false =>
     replace h:=zAD hb.symm h;cases h;exact(Le.forget _ ⟨rfl,trivial⟩)
   | false =>
    replace h:=zAD hb.symm h;intro b hb;subst hb;cases h;exact(Le.forget _ ⟨rfl,trivial⟩)
  | false =>
   replace h:=zAD hb.symm h;intro b hb;subst hb;intro b hb;subst hb;cases h;exact(Le.forget _ ⟨rfl,trivial⟩)
 ·show Tri ..;refine zAk hle ?_;refine zAe ?_;have hy:=Option.some.inj h;subst hy;unfold zAw;exact⟨_,Le.refl _ _,rfl,rfl⟩
def zER (n:Nat) (xs:List AV) (r:Ret):Prop:=∃ (a0:Nd) (a1:Nd) (y0:Bool),zBv n a0 a1=some y0/\xs=[.agg ((Nd.enc a0).map .s),.agg ((Nd.enc a1).map .s)]/\r = .val (.s (.bool y0))
def zCM (n:Nat) (xs:List AV) (r:Ret):Prop:=∃ (a0:List Nd) (a1:List Nd) (y0:Bool),zBR n a0 a1=some y0/\xs=[.s (.sl 4 (Nd.encs a0)),.s (.sl 4 (Nd.encs a1))]/\r = .val (.s (.bool y0))
theorem zOm (n:Nat) (ih_r09_Equal:PSound Tryz.prog 16 (zAy (zER n))) (ih_r09_SameItems:PSound Tryz.prog 38 (zAy (zCM n))):PSound Tryz.prog 16 (zAy (zER (n+1))):=by
 have gok:∀ f s,look? f [(38,zAy (zCM n))]=some s->PSound Tryz.prog f s:=zAt (by
  simp only[List.forall_mem_cons]
  exact⟨ih_r09_SameItems,by simp⟩)
 refine zAA tokW Tryz.call16 Tryz.func16 rfl (fun xs r h=>by obtain⟨_,_,_,_,rfl,_⟩:=h; show 2<=31; decide) 31 rfl ?_;rintro xs r w0 G0 ⟨⟨a1A,a1B,a1D,a1C⟩,⟨b2A,b2B,b2D,b2C⟩,y0,h,rfl,rfl⟩ _;rw[zBv]at h;refine zYe [] [] rfl ?_;show Tri ..;refine zAa ?_;obtain⟨x3,hj,h⟩:=zAc h;refine zAv ⟨ofL [(4,.s (.bool x3))],fun _=>none,0⟩ ?_ (fun σ' hle=>?_)
 ·replace h:=hj;refine zAb [] [10,17,24] rfl ?_;intro b hb;cases b with
  | true =>
   replace h:=zAE hb.symm h;intro b hb;cases b with
   | true =>
    replace h:=zAE hb.symm h;intro b hb;cases b with
    | true =>
     replace h:=zAE hb.symm h;obtain⟨y4,hy4,h⟩:=zAc h;refine⟨_,⟨_,_,_,hy4,rfl,rfl⟩,?_⟩
     cases h;exact(Le.forget _ ⟨rfl,trivial⟩)
    | false =>
     replace h:=zAD hb.symm h;cases h;exact(Le.forget _ ⟨rfl,trivial⟩)
   | false =>
    replace h:=zAD hb.symm h;intro b hb;subst hb;cases h;exact(Le.forget _ ⟨rfl,trivial⟩)
  | false =>
   replace h:=zAD hb.symm h;intro b hb;subst hb;intro b hb;subst hb;cases h;exact(Le.forget _ ⟨rfl,trivial⟩)
 ·show Tri ..;refine zAk hle ?_;refine zAe ?_;have hy:=Option.some.inj h;subst hy;unfold zAw;exact⟨_,Le.refl _ _,rfl,rfl⟩
theorem zKG (n:Nat) (ih_r09_Equal:PSound Tryz.prog 16 (zAy (zER n))) (ih_r09_SameItems:PSound Tryz.prog 38 (zAy (zCM n))):PSound Tryz.prog 38 (zAy (zCM (n+1))):=by
 have gok:∀ f s,look? f [(16,zAy (zER n))]=some s->PSound Tryz.prog f s:=zAt (by
  simp only[List.forall_mem_cons]
  exact⟨ih_r09_Equal,by simp⟩)
 refine zAA tokW Tryz.call38 Tryz.func38 rfl (fun xs r h=>by obtain⟨_,_,_,_,rfl,_⟩:=h; show 2<=27; decide) 27 rfl ?_;rintro xs r w0 G0 ⟨a1,b2,y0,h,rfl,rfl⟩ _;rw[zBR]at h;refine zYe [] [] rfl ?_;show Tri ..;refine zAa ?_;refine zYe [] [7,9] rfl ?_;intro n3 hn3;obtain rfl:(a1.length:Int)=n3:=(hn3.trans (congrArg (fun m:Nat=>(m:Int)) (rlen Nd.encs_eq a1))).symm;intro n4 hn4;obtain rfl:(b2.length:Int)=n4:=(hn4.trans (congrArg (fun m:Nat=>(m:Int)) (rlen Nd.encs_eq b2))).symm;show Tri ..;refine zAh rfl h (fun hb h=>?_) (fun hb h=>?_)
 ·refine zYe [] [] rfl ?_;show Tri ..;refine zAe ?_;have hy:=Option.some.inj h;subst hy;unfold zAw;exact⟨_,Le.refl _ _,rfl,rfl⟩
 ·refine zAf ?_;show Tri ..;refine zAa ?_;refine zYe [] [] rfl ?_;show Tri ..;obtain⟨fl,hl,ho1⟩:=zAc h;refine zBt (fl:=fl) (fun z=>match z with | _=>⟨ofL [],fun _=>none,0⟩) ?_ (fun z σ' hz hle=>?_)
  ·refine zAl (zAF (X:=Nat×Int) (fun y=>match y with | (k,i5)=>⟨ofL [(0,.s (.sl 4 (Nd.encs a1))),(1,.s (.sl 4 (Nd.encs b2))),(5,.s (.int .i64 i5))],fun _=>none,0⟩) (fun y=>zBw (zBv n) a1 b2 y.1 y.2=some fl) (fun y=>y.1) (n,0) hl ?_ ?_)
   ·exact(Le.forget _ ⟨rfl,rfl,rfl,trivial⟩)
   ·rintro⟨k,i5⟩ h;cases k with
    | zero=>cases h
    | succ k =>
     replace h:zBw (zBv n) a1 b2 (k+1) i5=some fl:=h;rw[zBw]at h;refine zAa ?_;refine zYe [] [13] rfl ?_;intro n6 hn6;obtain rfl:(a1.length:Int)=n6:=(hn6.trans (congrArg (fun m:Nat=>(m:Int)) (rlen Nd.encs_eq a1))).symm;show Tri ..;refine zAh rfl h (fun hb h=>?_) (fun hb h=>?_)
     ·refine zAf ?_;show Tri ..;refine zAa ?_;refine zAl ?_;refine zAa ?_;refine zAQ [] [19,23] [] rfl (by decide +kernel) ?_;obtain⟨⟨e7A,e7B,e7D,e7C⟩,he7,h⟩:=zAc h;refine And.intro (zAB Nd.encs_eq he7).1 ?_;intro r8 hr8;obtain rfl:[.int .i64 e7A,.str e7B,.int .i64 e7D,.sl 4 (Nd.encs e7C)]=r8:=(hr8.trans (zAB Nd.encs_eq he7).2.1).symm;obtain⟨⟨e9A,e9B,e9D,e9C⟩,he9,h⟩:=zAc h;refine And.intro (zAB Nd.encs_eq he9).1 ?_;intro r10 hr10
      obtain rfl:[.int .i64 e9A,.str e9B,.int .i64 e9D,.sl 4 (Nd.encs e9C)]=r10:=(hr10.trans (zAB Nd.encs_eq he9).2.1).symm;obtain⟨y11,hy11,h⟩:=zAc h;refine⟨_,⟨_,_,_,hy11,rfl,rfl⟩,?_⟩
      show Tri ..;refine zAh rfl h (fun hb h=>?_) (fun hb h=>?_)
      ·refine zYe [] [] rfl ?_;show Tri ..;refine zAe ?_;cases h;replace h:some _=some _:=ho1;have hy:=Option.some.inj h;subst hy;unfold zAw;exact⟨_,Le.refl _ _,rfl,rfl⟩
      ·refine zAf ?_;show Tri ..;refine zAb [] [] rfl ?_;refine⟨(k,IntKind.i64.wrap (i5+1)),h,(Le.forget _ ⟨rfl,rfl,rfl,trivial⟩),Nat.lt_succ_self k⟩
     ·refine zAI ?_;cases h;exact⟨_,rfl,(Le.forget _ trivial)⟩
  ·subst hz;obtain _:=z;replace h:=ho1;show Tri ..;refine zAk hle ?_;refine zYe [] [] rfl ?_;show Tri ..;refine zAe ?_;have hy:=Option.some.inj h;subst hy;unfold zAw;exact⟨_,Le.refl _ _,rfl,rfl⟩
theorem zJk:∀ n,PSound Tryz.prog 16 (zAy (zER n))/\PSound Tryz.prog 38 (zAy (zCM n)):=by
 intro n
 induction n with
 | zero =>
  refine⟨?_,?_⟩
  ·exact zBI Tryz.call16 (fun xs r h=>by obtain⟨_,_,_,h,_⟩:=h; rw[zBv]at h; cases h)
  ·exact zBI Tryz.call38 (fun xs r h=>by obtain⟨_,_,_,h,_⟩:=h; rw[zBR]at h; cases h)
 | succ n ih =>
  obtain⟨ih_r09_Equal,ih_r09_SameItems⟩:=ih;exact⟨zOm n ih_r09_Equal ih_r09_SameItems,zKG n ih_r09_Equal ih_r09_SameItems⟩
def zHr:zAz:=zAy fun xs r=>∃ n,zER n xs r
theorem zIz:PSound Tryz.prog 16 zHr:=zCb (fun n=>(zJk n).1)
def zFW:zAz:=zAy fun xs r=>∃ n,zCM n xs r
theorem zHP:PSound Tryz.prog 38 zFW:=zCb (fun n=>(zJk n).2)
def zTQ (n:Nat) (xs:List AV) (r:Ret):Prop:=∃ (a0:Nd) (a1:List Int) (y0:Nd) (y1:Int),zHb n a0 a1=some (y0,y1)/\xs=[.agg ((Nd.enc a0).map .s),.s (.sl 1 (a1.map (irow .i64)))]/\r = .val (.tup [.agg ((Nd.enc y0).map .s),.s (.int .i64 y1)])
def zOp:zAz:=zAy fun xs r=>∃ n,zTQ n xs r
theorem zSO:PSound Tryz.prog 146 zOp:=by
 have gok:∀ f s,look? f [(73,zCs),(178,zMq),(53,zCX)]=some s->PSound Tryz.prog f s:=zAt (by
  simp only[List.forall_mem_cons]
  exact⟨zCA,zRH,zCW,by simp⟩)
 refine zAA tokW Tryz.call146 Tryz.func146 rfl (fun xs r h=>by obtain⟨n,_,_,_,_,_,rfl,_⟩:=h; show 2<=_; decide) _ rfl ?_;rintro xs r w0 G0 ⟨f,⟨k,t,c,ks⟩,p,y0,y1,h,rfl,rfl⟩ _;rw[zHb]at h;obtain⟨b,hb,h⟩:=zAc h;refine zYe [4] [] rfl ?_;show Tri ..;refine zAa ?_;refine zYe [] [] rfl ?_;refine⟨_,⟨f,_,_,hb,rfl,rfl⟩,?_⟩
 show Tri ..;cases b with
 | false =>
  refine zAL rfl (fun _=>?_) (fun h=>by cases h)
  refine zYe [] [] rfl ?_;show Tri ..;refine zAe ?_;obtain⟨rfl,rfl⟩:=Prod.mk.inj (Option.some.inj h)
  unfold zAw;exact⟨_,Le.refl _ _,rfl,rfl⟩
 | true =>
  refine zAL rfl (fun h=>by cases h) (fun _=>?_)
  refine zAf ?_;show Tri ..;replace h:(match zBE (.mk k t c ks) p with | some r=>(zAS r).bind fun r=>some (r,0) | none=>some (zDq,8))=some (y0,y1):=h;refine zYe [] [] rfl ?_;cases hf:zBE (.mk k t c ks) p with
  | none =>
   rw[hf]at h;refine⟨.val (.tup [.junk,.s (.bool false)]),⟨.mk k t c ks,p,rfl,by rw[hf]; rfl⟩,?_⟩
   show Tri ..;refine zAa ?_;refine zYe [] [] rfl ?_;show Tri ..;refine zAL rfl (fun _=>?_) (fun h=>by cases h)
   refine zYe [] [] rfl ?_;show Tri ..;refine zAe ?_;obtain⟨rfl,rfl⟩:=Prod.mk.inj (Option.some.inj h)
   unfold zAw;exact⟨_,Le.refl _ _,rfl,rfl⟩
  | some z =>
   obtain⟨k2,t2,c2,ks2⟩:=z;rw[hf]at h;refine⟨.val (.tup [.s (.pt (Nd.enc (.mk k2 t2 c2 ks2))),.s (.bool true)]),⟨.mk k t c ks,p,rfl,by rw[hf]; rfl⟩,?_⟩
   show Tri ..;refine zAa ?_;refine zYe [] [] rfl ?_;show Tri ..;refine zAL rfl (fun h=>by cases h) (fun _=>?_)
   refine zAf ?_;show Tri ..;obtain⟨⟨k3,t3,c3,ks3⟩,hd,h⟩:=zAc h;obtain⟨rfl,rfl⟩:=Prod.mk.inj (Option.some.inj h)
   refine zYe [] [] rfl ?_;refine⟨_,⟨_,_,hd,rfl,rfl⟩,?_⟩
   show Tri ..;refine zAe ?_;unfold zAw;exact⟨_,Le.refl _ _,rfl,rfl⟩
theorem zVI {T:Nat->Option TI}{own:Bool}{o:Oper}{σ:St}{e t e0:Nat}{args:Array Operand}{ts:Array Nat}{y:Operand}{v:AV}{ks:List Nd}{keys:List Nat} (hv:VAt σ.hp e v ks keys) (ho:o.op = .call { callee:=.builtin .len,args:=args,argTypes:=ts }) (ha:args.toList=[y]) (hts:ts.toList=[t]) (ht:tk T t = .slice e0)
  (hy:opd T σ.env t y=v):step1 T own o σ=some (none,.s (.int .i64 (ks.length:Int)),σ):=by
 rcases hv with ⟨rfl,rfl,_⟩ | ⟨q,rows,keys',w,rfl,hq,hlen,_,_⟩
 ·have e1:zCJ T own o σ.env=some (none,.s (.int .i64 0)) :=(by simp only[zCJ,ho,ha,hts,pLen,ht,hy]; rfl);simp only[step1,e1]; rfl
 ·rw[zNw ho ha hts ht hy hq,hlen]
theorem zVw {k c:Int}{tx:List UInt8}{ks:List Nd}{k2 c2:Int}{tx2:List UInt8}{ks2:List Nd}{z r:Nd}{i s:Int}{p:List Int} (hx:ks[i.toNat]? = some (.mk k2 tx2 c2 ks2)) (hz:ks2[s.toNat]? = some z) :
  putL (.mk k tx c ks) (i::s::p) r = .mk k tx c (ks.set i.toNat (.mk k2 tx2 c2 (ks2.set s.toNat (putL z p r)))):=by
 rw[putL,hx]
 simp only[hz]
theorem Hole.here {hp:Nat->Option Ob}{e:Nat}{p p1:AV}{y:Nd}{keys:List Nat}{F:Nd->Nd} (hn:(zBo p::keys).Nodup) (h:Hole hp e p keys p1 y F):∃ keys0 w0,At hp e p1 y keys0 [] w0/\isL 4 p1/\(zBo p1::keys0).Nodup:=by
 obtain⟨keys0,rest,w0,a1,a2,a3,a4,_⟩:=h;obtain⟨hb,hnk⟩:=List.nodup_cons.1 hn;obtain⟨n0,n1,n01⟩:=List.nodup_append.1 (a1.nodup_iff.1 hnk)
 refine⟨keys0,w0,a2,a3,List.nodup_cons.2 ⟨fun hm=>?_,n0⟩⟩
 rcases a4 with rfl | a4
 ·exact hb (a1.mem_iff.2 (List.mem_append_left _ hm))
 ·exact n01 _ hm _ a4 rfl
theorem Hole.step {hp:Nat->Option Ob}{e q i:Nat}{p p1:AV}{k c:Int}{tx:List UInt8}{ks:List Nd}{x:Nd}{keys:List Nat}{F:Nd->Nd} (hn:(zBo p::keys).Nodup) (h:Hole hp e p keys p1 (.mk k tx c ks) F) (hx:ks[i]? = some x) (hc:zAW hp p1=some (zBd k tx c (.orow q))) :
  Hole hp e p keys (.rp q 4 i 0) x (fun r=>F (.mk k tx c (ks.set i r))) :=
 Hole.trans hn h fun keys0 w0 ha hl hn0=>by
  obtain⟨b,rows,h1,_,_,h4⟩:=Hole.kid ha hl hn0 hx;rw[hc]at h1;have:q=b :=(by simpa [zBd] using h1);rw[this]; exact h4
theorem zWt {t r:Nd}:putL t [] r=r:=by cases t; rfl
def zQv (xs:List AV) (hp:Nat->Option Ob) (n:Nat) (Φ:AV->(Nat->Option Ob)->Nat->Prop):Prop :=
 ∃ (p:AV) (t:Nd) (path:List Int) (keys:List Nat) (w:Nat),xs=[p,.s (.sl 1 (path.map (irow .i64)))]/\isL 4 p/\At hp 24 p t keys [] w/\(zBo p::keys).Nodup /\
  (zBE t path=none->Φ (.tup [.junk,.s (.bool false)]) hp n)/\∀ p1 y F,zBE t path=some y->Hole hp 24 p keys p1 y F->(∀ r,putL t path r=F r)->Φ (.tup [p1,.s (.bool true)]) hp n
def zMc:zAz:=zRo zQv
set_option maxHeartbeats 600000 in
theorem zPI:PSound Tryz.prog 178 zMc:=by
 have gok:=@gok0 Tryz.prog;refine zOH tokW Tryz.call178 Tryz.func178 rfl (fun xs hp n Φ h=>by obtain⟨_,_,_,_,_,rfl,_⟩:=h; show 2<=_; decide) _ rfl ?_;rintro xs hp n Φ w0 G0 B0 ⟨p0,t0,path0,keys,w,rfl,hl0,hat,hnd,hΦ1,hΦ2⟩ _ hhp;refine zYe [] [] rfl ?_;show Tri ..;refine zAa ?_;refine zAl (zAF (X:=AV×Nd×List Int×(Nd->Nd)) (fun x=>match x with | (p,y,q,F)=>⟨ofL [(0,p),(1,.s (.sl 1 (q.map (irow .i64)))),(4,.s .np),(5,.s (.bool false))],hp,n⟩)
  (fun x=>match x with | (p,y,q,F)=>zBE t0 path0=zBE y q/\Hole hp 24 p0 keys p y F/\∀ r,putL t0 path0 r=F (putL y q r)) (fun x=>match x with | (p,y,q,F)=>q.length) (p0,t0,path0,id) ⟨rfl,Hole.refl hat hl0,fun _=>rfl⟩ (Le.forget [(0,p0),(1,.s (.sl 1 (path0.map (irow .i64)))),(4,.s .np),(5,.s (.bool false))] ⟨rfl,rfl,rfl,rfl,trivial⟩) ?_)
 rintro⟨p,⟨k,t,c,ks⟩,q,F⟩ hI;have hI:zBE t0 path0=zBE (.mk k t c ks) q/\Hole hp 24 p0 keys p (.mk k t c ks) F/\∀ r,putL t0 path0 r=F (putL (.mk k t c ks) q r):=hI
 obtain⟨hI1,hI2,hI3⟩:=hI;have hlp:isL 4 p :=(by obtain⟨_,_,_,_,_,h,_⟩:=hI2; exact h);refine zAa ?_;refine zYe [] [] rfl ?_;show Tri ..;refine zAL rfl (fun hb=>?_) (fun hb=>?_)
 ·refine zAf ?_;show Tri ..
  match q,hI1,hI3,hb with
  | [],_,_,hb=>cases hb
  | [_],_,_,hb=>cases hb
  | i::s::q,hI1,hI3,hb =>
   refine zAk (Le.forgetH [(0,p),(1,.s (.sl 1 ((i::s::q).map (irow .i64)))),(4,.s .np),(5,.s (.bool false))] hp n ⟨rfl,rfl,rfl,rfl,trivial⟩ (fun _=>rfl) rfl) ?_;refine zAa ?_;refine zAl ?_;refine zAa ?_;refine zKH (by exact tokW) (by exact gok) (by exact mixed) [] [] [1,2,4,5] rfl (by decide +kernel) ?_;refine And.intro (show(0:Int)<=0/\(0:Int)<((((i::s::q).map (irow .i64)).length:Nat):Int) by simp only[List.map_cons,List.length_cons]; omega) ?_;refine And.intro (show(0:Int)<=1/\(1:Int)<((((i::s::q).map (irow .i64)).length:Nat):Int) by simp only[List.map_cons,List.length_cons]; omega) ?_;show Tri ..
   refine zAk (Le.forgetH [(0,p),(1,.s (.sl 1 ((i::s::q).map (irow .i64)))),(4,.s .np),(5,.s (.bool false)),(6,.s (.int .i64 i)),(7,.s (.int .i64 s))] hp n ⟨rfl,rfl,rfl,rfl,rfl,rfl,trivial⟩ (fun _=>rfl) rfl) ?_;refine zAa ?_;refine zAa ?_
   by_cases hi:i<0
   ·refine zAb [] [21] rfl ?_;intro b hb;obtain rfl:true=b:=(hb.trans (decide_eq_true hi)).symm;show Tri ..;refine zAL rfl (fun _=>?_) (fun h=>by cases h)
    refine zYe [] [] rfl ?_;show Tri ..;refine zAe ?_;unfold zI4;exact⟨_,Le.forget [(5,.s (.bool false))] ⟨rfl,trivial⟩,_,rfl,hΦ1 (hI1.trans (zHt (fun h=>by omega)))⟩
   obtain⟨keys1,w1,hat1,_,hnd1⟩:=hI2.here hnd;obtain⟨v,hcv,hv⟩:=hat1.full;refine zAb [] [] rfl ?_;refine zAg rfl rfl rfl rfl rfl rfl trivial ?_;refine zAg rfl rfl rfl rfl rfl rfl trivial ?_;rw[show decide (i<0)=false from decide_eq_false hi]
   refine zAg rfl rfl rfl rfl rfl rfl trivial ?_;refine zDm (g:=22) rfl rfl rfl ?_;refine zAg rfl rfl rfl rfl rfl rfl trivial ?_;refine zDm (g:=22) rfl rfl rfl ?_;refine zAg rfl rfl rfl rfl rfl (zDl hlp (.inr rfl) rfl rfl) trivial ?_;refine zDm (g:=22) rfl rfl rfl ?_;refine zAg rfl rfl rfl rfl rfl (zE3 hlp rfl rfl) trivial ?_;refine zDm (g:=22) rfl rfl rfl ?_;refine zAg rfl rfl rfl rfl rfl (zFs hlp rfl rfl rfl rfl rfl rfl rfl) trivial ?_;refine zDm (g:=22) rfl rfl rfl ?_;refine zD4 (off:=3) (sz:=4) rfl rfl rfl rfl rfl rfl rfl hlp rfl hcv rfl ?_;refine zDm (g:=22) rfl rfl rfl ?_
   refine zAg rfl rfl rfl rfl rfl (zVI hv rfl rfl rfl rfl rfl) trivial ?_;refine zDm (g:=22) rfl rfl rfl ?_;refine zAg rfl rfl rfl rfl rfl rfl trivial ?_
   by_cases hi2:(ks.length:Int)<=i
   ·rw[show decide ((ks.length:Int)<=i)=true from decide_eq_true hi2]
    refine zAg rfl rfl rfl rfl rfl rfl trivial ?_;show Tri ..;refine zAL rfl (fun _=>?_) (fun h=>by cases h)
    refine zYe [] [] rfl ?_;show Tri ..;refine zAe ?_;unfold zI4;exact⟨_,Le.forget [(5,.s (.bool false))] ⟨rfl,trivial⟩,_,rfl,hΦ1 (hI1.trans (zHt (n:=.mk k t c ks) (fun h=>by have:i<(ks.length:Int):=h.2; omega)))⟩
   rw[show decide ((ks.length:Int)<=i)=false from decide_eq_false hi2]
   refine zAg rfl rfl rfl rfl rfl rfl trivial ?_;show Tri ..;refine zAL rfl (fun h=>by cases h) (fun _=>?_)
   refine zAf ?_;show Tri ..;have hi0:i.toNat<ks.length :=(by omega);obtain⟨⟨k2,t2,c2,ks2⟩,hx⟩:∃ x,ks[i.toNat]? = some x:=⟨_,List.getElem?_eq_getElem hi0⟩
   obtain⟨b1,rows1,hc1,hr1,hlen1,hole1⟩:=Hole.kid hat1 hlp hnd1 hx;refine zAk (Le.forgetH [(0,p),(1,.s (.sl 1 ((i::s::q).map (irow .i64)))),(4,.s .np),(5,.s (.bool false)),(6,.s (.int .i64 i)),(7,.s (.int .i64 s))] hp n ⟨rfl,rfl,rfl,rfl,rfl,rfl,trivial⟩ (fun _=>rfl) rfl) ?_;refine zYe [] [] rfl ?_;refine zAg rfl rfl rfl rfl rfl (zDl hlp (.inr rfl) rfl rfl) trivial ?_;refine zAg rfl rfl rfl rfl rfl (zE3 hlp rfl rfl) trivial ?_;refine zAg rfl rfl rfl rfl rfl (zFs hlp rfl rfl rfl rfl rfl rfl rfl) trivial ?_;refine zD4 (off:=3) (sz:=4) rfl rfl rfl rfl rfl rfl rfl hlp rfl hc1 rfl ?_
   refine zAg rfl rfl rfl rfl rfl rfl trivial ?_;refine zAg rfl rfl rfl rfl rfl (zQj rfl rfl rfl rfl rfl rfl hr1 rfl) ⟨by omega,by rw[hlen1]; omega⟩ ?_;refine zAg rfl rfl rfl rfl rfl rfl trivial ?_;show Tri ..;refine zAk (Le.forgetH [(0,p),(1,.s (.sl 1 ((i::s::q).map (irow .i64)))),(4,.s .np),(5,.s (.bool false)),(6,.s (.int .i64 i)),(7,.s (.int .i64 s)),(8,.rp b1 4 i.toNat 0)] hp n ⟨rfl,rfl,rfl,rfl,rfl,rfl,rfl,trivial⟩ (fun _=>rfl) rfl) ?_;refine zAa ?_;refine zAa ?_
   by_cases hs:s<0
   ·refine zAb [] [38] rfl ?_;intro b hb;obtain rfl:true=b:=(hb.trans (decide_eq_true hs)).symm;show Tri ..;refine zAL rfl (fun _=>?_) (fun h=>by cases h)
    refine zYe [] [] rfl ?_;show Tri ..;refine zAe ?_;unfold zI4;exact⟨_,Le.forget [(5,.s (.bool false))] ⟨rfl,trivial⟩,_,rfl,hΦ1 (hI1.trans (zHu (n:=.mk k t c ks) (by omega) hx (fun h=>by omega)))⟩
   have hl2:isL 4 (.rp b1 4 i.toNat 0):=.inl ⟨b1,i.toNat,rfl⟩
   have hI4:=Hole.step hnd hI2 hx hc1;obtain⟨keys2,w2,hat2,_,hnd2⟩:=hI4.here hnd;obtain⟨v2,hcv2,hv2⟩:=hat2.full;refine zAb [] [] rfl ?_;refine zAg rfl rfl rfl rfl rfl rfl trivial ?_;refine zAg rfl rfl rfl rfl rfl rfl trivial ?_;rw[show decide (s<0)=false from decide_eq_false hs]
   refine zAg rfl rfl rfl rfl rfl rfl trivial ?_;refine zDm (g:=39) rfl rfl rfl ?_;refine zAg rfl rfl rfl rfl rfl rfl trivial ?_;refine zDm (g:=39) rfl rfl rfl ?_;refine zAg rfl rfl rfl rfl rfl (zDl hl2 (.inr rfl) rfl rfl) trivial ?_;refine zDm (g:=39) rfl rfl rfl ?_;refine zAg rfl rfl rfl rfl rfl (zE3 hl2 rfl rfl) trivial ?_;refine zDm (g:=39) rfl rfl rfl ?_;refine zAg rfl rfl rfl rfl rfl (zFs hl2 rfl rfl rfl rfl rfl rfl rfl) trivial ?_;refine zDm (g:=39) rfl rfl rfl ?_;refine zD4 (off:=3) (sz:=4) rfl rfl rfl rfl rfl rfl rfl hl2 rfl hcv2 rfl ?_;refine zDm (g:=39) rfl rfl rfl ?_
   refine zAg rfl rfl rfl rfl rfl (zVI hv2 rfl rfl rfl rfl rfl) trivial ?_;refine zDm (g:=39) rfl rfl rfl ?_;refine zAg rfl rfl rfl rfl rfl rfl trivial ?_
   by_cases hs2:(ks2.length:Int)<=s
   ·rw[show decide ((ks2.length:Int)<=s)=true from decide_eq_true hs2]
    refine zAg rfl rfl rfl rfl rfl rfl trivial ?_;show Tri ..;refine zAL rfl (fun _=>?_) (fun h=>by cases h)
    refine zYe [] [] rfl ?_;show Tri ..;refine zAe ?_;unfold zI4;exact⟨_,Le.forget [(5,.s (.bool false))] ⟨rfl,trivial⟩,_,rfl,hΦ1 (hI1.trans (zHu (n:=.mk k t c ks) (by omega) hx (fun h=>by have:s<(ks2.length:Int):=h.2; omega)))⟩
   rw[show decide ((ks2.length:Int)<=s)=false from decide_eq_false hs2]
   refine zAg rfl rfl rfl rfl rfl rfl trivial ?_;show Tri ..;refine zAL rfl (fun h=>by cases h) (fun _=>?_)
   refine zAf ?_;show Tri ..;have hs0:s.toNat<ks2.length :=(by omega);obtain⟨z,hz⟩:∃ z,ks2[s.toNat]? = some z:=⟨_,List.getElem?_eq_getElem hs0⟩
   obtain⟨b2,rows2,hc2,hr2,hlen2,hole2⟩:=Hole.kid hat2 hl2 hnd2 hz;refine zAk (Le.forgetH [(0,p),(1,.s (.sl 1 ((i::s::q).map (irow .i64)))),(4,.s .np),(5,.s (.bool false)),(6,.s (.int .i64 i)),(7,.s (.int .i64 s)),(8,.rp b1 4 i.toNat 0)] hp n ⟨rfl,rfl,rfl,rfl,rfl,rfl,rfl,trivial⟩ (fun _=>rfl) rfl) ?_;refine zAb [] [] rfl ?_;refine zAg rfl rfl rfl rfl rfl (zDl hl2 (.inr rfl) rfl rfl) trivial ?_;refine zAg rfl rfl rfl rfl rfl (zE3 hl2 rfl rfl) trivial ?_;refine zAg rfl rfl rfl rfl rfl (zFs hl2 rfl rfl rfl rfl rfl rfl rfl) trivial ?_;refine zD4 (off:=3) (sz:=4) rfl rfl rfl rfl rfl rfl rfl hl2 rfl hc2 rfl ?_
   refine zAg rfl rfl rfl rfl rfl rfl trivial ?_;refine zAg rfl rfl rfl rfl rfl (zQj rfl rfl rfl rfl rfl rfl hr2 rfl) ⟨by omega,by rw[hlen2]; omega⟩ ?_;refine zAg rfl rfl rfl rfl rfl rfl trivial ?_;show Tri ..;refine zAk (Le.forgetH [(0,.rp b2 4 s.toNat 0),(1,.s (.sl 1 ((i::s::q).map (irow .i64)))),(4,.s .np),(5,.s (.bool false))] hp n ⟨rfl,rfl,rfl,rfl,trivial⟩ (fun _=>rfl) rfl) ?_;refine zAb [] [] rfl ?_;have h2l:(2:Int)<=((((i::s::q).map (irow .i64)).length:Nat):Int) :=(by simp only[List.map_cons,List.length_cons]; omega);refine zAg rfl rfl rfl rfl rfl rfl trivial ?_
   refine zAg rfl rfl rfl rfl rfl rfl ⟨by decide,h2l,Int.le_refl _⟩ ?_;refine zAg rfl rfl rfl rfl rfl rfl trivial ?_;have hI5:=Hole.step hnd hI4 hz hc2;refine⟨(.rp b2 4 s.toNat 0,z,q,fun r=>F (.mk k t c (ks.set i.toNat (.mk k2 t2 c2 (ks2.set s.toNat r))))),⟨?_,hI5,?_⟩,Le.forgetH [(0,.rp b2 4 s.toNat 0),(1,.s (.sl 1 (q.map (irow .i64)))),(4,.s .np),(5,.s (.bool false))] hp n ⟨rfl,congrArg (fun z=>AV.s (.sl 1 z)) ?_,rfl,rfl,trivial⟩ (fun _=>rfl) rfl,?_⟩
   ·exact hI1.trans (zOE (n:=.mk k t c ks) (by omega) hx (by omega) hz)
   ·intro r;exact(hI3 r).trans (congrArg F (zVw hx hz))
   ·show List.drop 2 (List.take ((((i::s::q).map (irow .i64)).length:Nat):Int).toNat ((i::s::q).map (irow .i64)))=_;rw[Int.toNat_natCast,List.take_length]; rfl
   ·show q.length<q.length+1+1
    omega
 ·refine zAI ?_;show Tri ..;refine zAk (Le.forgetH [(0,p),(1,.s (.sl 1 (q.map (irow .i64)))),(4,.s .np),(5,.s (.bool false))] hp n ⟨rfl,rfl,rfl,rfl,trivial⟩ (fun _=>rfl) rfl) ?_;refine zYe [] [] rfl ?_;refine zAg rfl rfl rfl rfl rfl (zDl hlp (.inr rfl) rfl rfl) trivial ?_
  match q,hI1,hI3,hb with
  | [],hI1,hI3,_ =>
   refine zAg rfl rfl rfl rfl rfl rfl trivial ?_;refine zAg rfl rfl rfl rfl rfl rfl trivial ?_;refine zAg rfl rfl rfl rfl rfl rfl trivial ?_;refine zAg rfl rfl rfl rfl rfl (zDl hlp (.inl rfl) rfl rfl) trivial ?_;refine zAg rfl rfl rfl rfl rfl rfl trivial ?_;show Tri ..;refine zAe ?_;have hd:AV.deep p=p:=by rcases hlp with ⟨_,_,rfl⟩ | ⟨_,rfl⟩ <;> rfl
   unfold zI4;refine⟨_,Le.forget [(4,p),(5,.s (.bool true))] ⟨rfl,rfl,trivial⟩,.tup [p,.s (.bool true)],?_,hΦ2 p (.mk k t c ks) F (hI1.trans rfl) hI2 fun r=>(hI3 r).trans (by rw[zWt])⟩
   show some (AV.tup [AV.deep p,.s (.bool true)])=_;rw[hd]
  | [i],hI1,_,_ =>
   refine zAg rfl rfl rfl rfl rfl rfl trivial ?_;refine zAg rfl rfl rfl rfl rfl rfl trivial ?_;refine zAg rfl rfl rfl rfl rfl rfl trivial ?_;refine zAg rfl rfl rfl rfl rfl (zDl hlp (.inl rfl) rfl rfl) trivial ?_;refine zAg rfl rfl rfl rfl rfl rfl trivial ?_;show Tri ..;refine zAe ?_;unfold zI4;exact⟨_,Le.forget [(5,.s (.bool false))] ⟨rfl,trivial⟩,_,rfl,hΦ1 (hI1.trans rfl)⟩
  | i::s::p,_,_,hb=>exact absurd (of_decide_eq_false hb) (by simp only[List.map_cons,List.length_cons]; omega)
theorem zIP {T:Nat->Option TI}{σ:St}{t ty q bt u:Nat}{i:TI}{cells:List AV} (h1:σ.env t = .op q 0) (h2:σ.hp q=some (.box bt cells)) (h3:T ty=some i) (ha:i.k.agg=true) (hz:i.size=cells.length):zLZ T σ [.cell t ty,.tmp u]=some (.tup [AV.deep (.agg cells),(σ.env u).deep]):=by
 have hb:Nat.ble i.size cells.length=true :=(by rw[hz]; exact Nat.ble_eq_true_of_le (Nat.le_refl _));simp only[zLZ,zII,zR1,h1,h2,h3,ha,hb]
 rw[hz,List.take_length]
theorem Hole.base {hp:Nat->Option Ob}{e:Nat}{p p1:AV}{y:Nd}{keys:List Nat}{F:Nd->Nd} (h:Hole hp e p keys p1 y F):zBo p1=zBo p∨zBo p1∈keys:=by
 obtain⟨keys0,rest,w0,a1,a2,a3,a4,_⟩:=h;rcases a4 with rfl | a4
 ·exact .inl rfl
 ·exact .inr (a1.mem_iff.2 (List.mem_append_right _ a4))
theorem At.ofV {hp:Nat->Option Ob}{e:Nat}{p v:AV}{k c:Int}{t:List UInt8}{ks:List Nd}{keys:List Nat} (hc:zAW hp p=some (zBd k t c v)) (h:VAt hp e v ks keys):∃ w,At hp e p (.mk k t c ks) keys [] w:=by
 rcases h with ⟨rfl,rfl,rfl⟩ | ⟨q,rows,keys',w,rfl,h1,h2,rfl,h3⟩
 ·exact⟨0,by simp only[At]; exact⟨_,hc,.inr (.inl (by simp))⟩⟩
 ·exact⟨w,by simp only[At]; exact⟨_,hc,.inr (.inr ⟨q,rows,keys',rfl,h1,h2,rfl,h3⟩)⟩⟩
def zSo (n:Nat) (xs:List AV) (r:Ret):Prop:=∃ (a0:Nd) (a1:List Int) (a2:Nd) (y0:Nd) (y1:Int),zEZ n a0 a1 a2=some (y0,y1)/\xs=[.agg ((Nd.enc a0).map .s),.s (.sl 1 (a1.map (irow .i64))),.agg ((Nd.enc a2).map .s)]/\r = .val (.tup [.agg ((Nd.enc y0).map .s),.s (.int .i64 y1)])
def zMp:zAz:=zAy fun xs r=>∃ n,zSo n xs r
set_option maxHeartbeats 600000 in
theorem zRG:PSound Tryz.prog 148 zMp:=by
 have gok:∀ f s,look? f [(73,zCs),(178,zMc),(53,zMb)]=some s->PSound Tryz.prog f s:=zAt (by
  simp only[List.forall_mem_cons]
  exact⟨zCA,zPI,zHv,by simp⟩)
 refine zAA tokW Tryz.call148 Tryz.func148 rfl (fun xs r h=>by obtain⟨n,_,_,_,_,_,_,rfl,_⟩:=h; show 3<=_; decide) _ rfl ?_;rintro xs r w0 G0 ⟨f,⟨k,t,c,ks⟩,path,⟨rk,rt,rc,rks⟩,y0,y1,h,rfl,rfl⟩ _;rw[zEZ]at h;obtain⟨b,hb,h⟩:=zAc h;refine zYe [6] [] rfl ?_;show Tri ..;refine zAa ?_;refine zYe [] [] rfl ?_;refine⟨_,⟨f,_,_,hb,rfl,rfl⟩,?_⟩
 show Tri ..;cases b with
 | false =>
  refine zAL rfl (fun _=>?_) (fun h=>by cases h)
  refine zYe [] [] rfl ?_;show Tri ..;refine zAe ?_;obtain⟨rfl,rfl⟩:=Prod.mk.inj (Option.some.inj h)
  unfold zAw;exact⟨_,Le.refl _ _,rfl,rfl⟩
 | true =>
  refine zAL rfl (fun h=>by cases h) (fun _=>?_)
  refine zAf ?_;show Tri ..;rw[if_pos rfl]at h;obtain⟨n1,hn1,h⟩:=zAc h;obtain⟨hcnt,hn1⟩:=zAK hn1;obtain rfl:=Option.some.inj hn1;refine zYe [8] [] rfl ?_;refine⟨_,⟨k,c,t,ks,hcnt,rfl,fun v hp' n' keys h1 h2 h3 h4 h5=>?_⟩,fun _ _ _ h=>h⟩
  have hv1:v.one=true/\∀ m,n'<m->v.lt m=true:=by
   rcases h3 with ⟨_,rfl,_⟩ | ⟨q,_,_,_,rfl,_,_,hk,_⟩
   ·exact⟨rfl,fun _ _=>rfl⟩
   ·exact⟨rfl,fun m hm=>decide_eq_true (Nat.lt_trans (h5 q (by rw[hk]; exact List.mem_cons_self)).2 hm)⟩
  refine zRt (d:=16) ?_;refine zAg rfl rfl rfl rfl rfl rfl trivial ?_;refine zG5 (sz:=4) (cs:=[.s (.int .i64 0),.s (.str []),.s (.int .i64 0),.nl 4]) (cs':=zBd k t c v) (p:=.op n' 0) rfl rfl rfl rfl rfl (.inr ⟨n',rfl⟩) rfl (zEq (bt:=24) (by show(bif Nat.beq n' n' then _ else hp' n')=_; rw[Nat.beq_refl]; rfl)) rfl rfl rfl (by simp only[zBd,List.all_cons,List.all_nil,hv1.1]; rfl) (by have h0:v.lt (n'+1)=true:=hv1.2 _ (Nat.lt_succ_self _); show AV.ltAll (n'+1) (zBd k t c v)=true; simp only[zBd,AV.ltAll,h0]; rfl) ?_;show Tri ..
  refine zIL [(1,.s (.sl 1 (path.map (irow .i64)))),(5,.s (.pt (Nd.enc (.mk rk rt rc rks)))),(6,.op 0 0),(8,.op n' 0)] (n'+1) ⟨rfl,rfl,rfl,rfl,trivial⟩ rfl fun H hH=>?_
  have g1:H n'=some (.box 24 (zBd k t c v)):=(hH n').trans (by
   show putC (fun m=>bif Nat.beq m n' then some (Ob.box 24 [.s (.int .i64 0),.s (.str []),.s (.int .i64 0),.nl 4]) else hp' m) (.op n' 0) (zBd k t c v) n'=_;rw[zGh (bt:=24) (cs:=[.s (.int .i64 0),.s (.str []),.s (.int .i64 0),.nl 4]) (by simp only[Nat.beq_refl,cond_true])]
   simp only[Nat.beq_refl,cond_true])
  have g2:∀ m,m<n'->H m=hp' m:=fun m hm=>(hH m).trans (by
   show putC (fun m=>bif Nat.beq m n' then some (Ob.box 24 [.s (.int .i64 0),.s (.str []),.s (.int .i64 0),.nl 4]) else hp' m) (.op n' 0) (zBd k t c v) m=_;rw[zBU (show m ≠ n' by omega),zEn (show m ≠ n' by omega)]; rfl)
  clear hH
  have g0:H 0=some (.box 24 [.s (.int .i64 0),.s (.str []),.s (.int .i64 0),.nl 4]):=(g2 0 h1).trans (h2 0 (Nat.lt_succ_self 0))
  obtain⟨w,hat⟩:=At.ofV (zEq g1) (h3.frame fun m hm=>g2 m (h5 m hm).2)
  have hnd:(zBo (.op n' 0)::keys).Nodup:=List.nodup_cons.2 ⟨fun hm=>Nat.lt_irrefl _ (h5 n' hm).2,h4⟩
  refine zYe [] [] rfl ?_;refine⟨_,⟨.op n' 0,.mk k t c ks,path,keys,w,rfl,.inr ⟨n',rfl⟩,hat,hnd,fun hf=>?_,fun p1 y F hf hole hF=>?_⟩,fun _ _ _ h=>h⟩
  ·rw[hf]at h;show Tri ..;refine zAa ?_;refine zYe [] [] rfl ?_;show Tri ..;refine zAL rfl (fun _=>?_) (fun h=>by cases h)
   obtain⟨rfl,rfl⟩:=Prod.mk.inj (Option.some.inj h)
   refine zAk (Le.forgetH [(6,.op 0 0)] H (n'+1) ⟨rfl,trivial⟩ (fun _=>rfl) rfl) ?_;refine zYe [] [] rfl ?_;refine zAg rfl rfl rfl rfl rfl rfl trivial ?_;refine zG5 (sz:=4) (cs:=[.s (.int .i64 0),.s (.str []),.s (.int .i64 0),.nl 4]) (cs':=[.s (.int .i64 0),.s (.str []),.s (.int .i64 0),.nl 4]) (p:=.op 0 0) rfl rfl rfl rfl rfl (.inr ⟨0,rfl⟩) rfl (zEq (bt:=24) g0) rfl rfl rfl rfl rfl ?_;refine zAg rfl rfl rfl rfl rfl rfl trivial ?_;show Tri ..;refine zAe ?_;unfold zAw
   refine⟨_,Le.refl _ _,(zIP (bt:=24) (cells:=[.s (.int .i64 0),.s (.str []),.s (.int .i64 0),.nl 4]) rfl ?_ rfl rfl rfl).trans rfl,rfl⟩
   show putC H (.op 0 0) _ 0=_;rw[zGh (bt:=24) (cs:=[.s (.int .i64 0),.s (.str []),.s (.int .i64 0),.nl 4]) g0]; rfl
  ·rw[hf]at h;obtain⟨keys1,w1,hat1,hl1,hnd1⟩:=hole.here hnd;refine zRt (d:=19) ?_;refine zAg rfl rfl rfl rfl rfl rfl trivial ?_;refine zAg rfl rfl rfl rfl rfl rfl trivial ?_;refine zAg rfl rfl rfl rfl rfl rfl trivial ?_;refine zAg rfl rfl rfl rfl rfl (zDl hl1 (.inl rfl) rfl rfl) trivial ?_;refine zAg rfl rfl rfl rfl rfl rfl trivial ?_;show Tri ..;refine zAk (Le.forgetH [(5,.s (.pt (Nd.enc (.mk rk rt rc rks)))),(6,.op 0 0),(8,.op n' 0),(9,p1),(10,.s (.bool true))] H (n'+1) ⟨rfl,rfl,rfl,rfl,rfl,trivial⟩ (fun _=>rfl) rfl) ?_;refine zAa ?_;refine zYe [] [] rfl ?_;show Tri ..
   refine zAL rfl (fun h=>by cases h) (fun _=>?_)
   refine zAf ?_;show Tri ..;obtain⟨b2,hb2,h⟩:=zAc h;refine zAa ?_;refine zYe [] [] rfl ?_;refine⟨_,⟨f,_,_,hb2,rfl,rfl⟩,?_⟩
   show Tri ..;cases b2 with
   | false =>
    refine zAL rfl (fun _=>?_) (fun h=>by cases h)
    obtain⟨rfl,rfl⟩:=Prod.mk.inj (Option.some.inj h)
    refine zAk (Le.forgetH [(6,.op 0 0)] H (n'+1) ⟨rfl,trivial⟩ (fun _=>rfl) rfl) ?_;refine zYe [] [] rfl ?_;refine zAg rfl rfl rfl rfl rfl rfl trivial ?_;refine zG5 (sz:=4) (cs:=[.s (.int .i64 0),.s (.str []),.s (.int .i64 0),.nl 4]) (cs':=[.s (.int .i64 0),.s (.str []),.s (.int .i64 0),.nl 4]) (p:=.op 0 0) rfl rfl rfl rfl rfl (.inr ⟨0,rfl⟩) rfl (zEq (bt:=24) g0) rfl rfl rfl rfl rfl ?_;refine zAg rfl rfl rfl rfl rfl rfl trivial ?_;show Tri ..;refine zAe ?_;unfold zAw
    refine⟨_,Le.refl _ _,(zIP (bt:=24) (cells:=[.s (.int .i64 0),.s (.str []),.s (.int .i64 0),.nl 4]) rfl ?_ rfl rfl rfl).trans rfl,rfl⟩
    show putC H (.op 0 0) _ 0=_;rw[zGh (bt:=24) (cs:=[.s (.int .i64 0),.s (.str []),.s (.int .i64 0),.nl 4]) g0]; rfl
   | true =>
    refine zAL rfl (fun h=>by cases h) (fun _=>?_)
    refine zAf ?_;show Tri ..;rw[if_pos rfl]at h;obtain⟨n2,hn2,h⟩:=zAc h;obtain⟨hcnt2,hn2⟩:=zAK hn2;obtain rfl:=Option.some.inj hn2;refine zAk (Le.forgetH [(5,.s (.pt (Nd.enc (.mk rk rt rc rks)))),(6,.op 0 0),(8,.op n' 0),(9,p1)] H (n'+1) ⟨rfl,rfl,rfl,rfl,trivial⟩ (fun _=>rfl) rfl) ?_;refine zYe [] [] rfl ?_;refine zAg rfl rfl rfl rfl rfl (zDl hl1 (.inr rfl) rfl rfl) trivial ?_;refine zAg rfl rfl rfl rfl rfl rfl trivial ?_;refine⟨_,⟨rk,rc,rt,rks,hcnt2,rfl,fun v2 hp2 n2 keys2 q1 q2 q3 q4 q5=>?_⟩,fun _ _ _ h=>h⟩
    refine zRt (d:=31) ?_;refine zAg rfl rfl rfl rfl rfl (zE3 hl1 rfl rfl) trivial ?_;have hb1:zBo p1<n'+1:=by
     rcases hole.base with h | h
     ·have:zBo p1=n':=h
      omega
     ·have:=(h5 _ h).2; omega
    obtain⟨yk,yt,yc,yks⟩:=y;obtain⟨vy,hcy,_⟩:=hat1.full;have hcy2:zAW hp2 p1=some (zBd yk yt yc vy):=(zCm hl1 (q2 _ hb1)).trans hcy;have hv2:v2.one=true/\v2.lt n2=true:=by
     rcases q3 with ⟨_,rfl,_⟩ | ⟨q,_,_,_,rfl,_,_,hk,_⟩
     ·exact⟨rfl,rfl⟩
     ·exact⟨rfl,decide_eq_true (q5 q (by rw[hk]; exact List.mem_cons_self)).2⟩
    refine zG5 (sz:=4) (cs':=zBd rk rt rc v2) rfl rfl rfl rfl rfl hl1 rfl hcy2 rfl rfl rfl (by simp only[zBd,List.all_cons,List.all_nil,hv2.1]; rfl) (by show AV.ltAll n2 (zBd rk rt rc v2)=true; simp only[zBd,AV.ltAll,hv2.2]; rfl) ?_;show Tri ..;refine zIL [(6,.op 0 0),(8,.op n' 0)] n2 ⟨rfl,rfl,trivial⟩ rfl fun H2 hH2=>?_
    have hH2:∀ m,H2 m=putC hp2 p1 (zBd rk rt rc v2) m:=hH2
    have hcp:zAW H2 p1=some (zBd rk rt rc v2):=(zCm hl1 (hH2 _)).trans (zJD hl1 hcy2)
    have hb2k:∀ m∈keys2,H2 m=hp2 m:=fun m hm=>(hH2 m).trans (zBU (by have hm1:n'+1<=m:=(q5 m hm).1; omega))
    obtain⟨w3,hat3⟩:=At.ofV hcp (q3.frame hb2k)
    obtain⟨keys0,rest,w0',a1,a2,a3,a4,a5⟩:=hole;have hrest:∀ m,m=n'∨m∈rest->m<n'+1:=fun m hm=>by
     rcases hm with rfl | hm
     ·omega
     ·have:=(h5 m (a1.mem_iff.2 (List.mem_append_right _ hm))).2; omega
    obtain⟨keys3,w4,hperm,hfin⟩:=a5 H2 (.mk rk rt rc rks) keys2 w3 (Sim.put (c:=zBd rk rt rc v2) hl1 hcy fun m hm=>(hH2 m).trans (zIO hl1 (q2 m (hrest m hm)) (q2 _ hb1))) hat3;have hput:F (.mk rk rt rc rks)=putL (.mk k t c ks) path (.mk rk rt rc rks):=(hF _).symm;rw[hput]at hfin;have hn0:∀ m,m=n'∨m∈keys3->m ≠ 0:=fun m hm=>by
     have e1:1<=n':=h1;rcases hm with rfl | hm
     ·omega
     ·rcases List.mem_append.1 (hperm.mem_iff.1 hm) with hm | hm
      ·have e2:1<=m:=(h5 m (a1.mem_iff.2 (List.mem_append_right _ hm))).1
       omega
      ·have e2:n'+1<=m:=(q5 m hm).1
       omega
    have hatD:At (fun m=>bif Nat.beq m 0 then none else H2 m) 24 (.op n' 0) (putL (.mk k t c ks) path (.mk rk rt rc rks)) keys3 [] w4:=hfin.frame (.inr ⟨n',rfl⟩) fun m hm=>by rw[zEn (hn0 m hm)]; rfl
    obtain⟨cs,hcs,hrd⟩:=hatD.rd;rcases zCY (sz:=4) (.inr ⟨n',rfl⟩) hcs with ⟨q,i,e,rows,h1,_⟩ | ⟨q,bt,h1,hbt⟩
    ·cases h1
    cases h1;refine zAk (Le.givePart [(6,.op 0 0),(8,.s (.pt (Nd.enc (putL (.mk k t c ks) path (.mk rk rt rc rks)))))] (fun m=>bif Nat.beq m 0 then none else H2 m) (fun m=>bif Nat.beq m 0 then H2 m else none) (fun m ob hm=>by
     cases e:Nat.beq m 0 with
     | true=>rw[e]at hm; cases hm
     | false=>rw[e]at hm; exact hm) (fun m ob hm=>by
     cases e:Nat.beq m 0 with
     | true=>rw[e]at hm; exact hm
     | false=>rw[e]at hm; cases hm) (fun m ob ob' h1 h2=>by
     cases e:Nat.beq m 0 with
     | true=>rw[e]at h1; cases h1
     | false=>rw[e]at h2; cases h2) ⟨.inl rfl,.inr (Rd.box (off:=0) hbt hrd.1 hrd.2),trivial⟩) ?_
    have hb0:0 ≠ zBo p1:=by
     rcases a4 with rfl | a4
     ·exact Ne.symm (hn0 n' (.inl rfl))
     ·exact Ne.symm (hn0 _ (.inr (hperm.mem_iff.2 (List.mem_append_left _ a4))))
    have g3:H2 0=some (.box 24 [.s (.int .i64 0),.s (.str []),.s (.int .i64 0),.nl 4]):=(hH2 0).trans ((zBU hb0).trans ((q2 0 (Nat.succ_pos n')).trans g0))
    clear hrd hcs hatD hfin hput
    generalize putL (.mk k t c ks) path (.mk rk rt rc rks)=T1 at *;obtain⟨k9,t9,c9,ks9⟩:=T1;obtain⟨b3,hb3,h⟩:=zAc h;refine zIL [(6,.op 0 0),(8,.s (.pt (Nd.enc (.mk k9 t9 c9 ks9))))] n2 ⟨rfl,rfl,trivial⟩ rfl fun H3 hH3=>?_
    have g4:H3 0=some (.box 24 [.s (.int .i64 0),.s (.str []),.s (.int .i64 0),.nl 4]):=(hH3 0).trans g3;refine zAa ?_;refine zYe [] [] rfl ?_;refine⟨_,⟨f,_,_,hb3,rfl,rfl⟩,?_⟩
    show Tri ..;cases b3 with
    | false =>
     refine zAL rfl (fun _=>?_) (fun h=>by cases h)
     obtain⟨rfl,rfl⟩:=Prod.mk.inj (Option.some.inj h)
     refine zAk (Le.forgetH [(6,.op 0 0)] H3 n2 ⟨rfl,trivial⟩ (fun _=>rfl) rfl) ?_;refine zYe [] [] rfl ?_;refine zAg rfl rfl rfl rfl rfl rfl trivial ?_;refine zG5 (sz:=4) (cs:=[.s (.int .i64 0),.s (.str []),.s (.int .i64 0),.nl 4]) (cs':=[.s (.int .i64 0),.s (.str []),.s (.int .i64 0),.nl 4]) (p:=.op 0 0) rfl rfl rfl rfl rfl (.inr ⟨0,rfl⟩) rfl (zEq (bt:=24) g4) rfl rfl rfl rfl rfl ?_;refine zAg rfl rfl rfl rfl rfl rfl trivial ?_;show Tri ..;refine zAe ?_;unfold zAw
     refine⟨_,Le.refl _ _,(zIP (bt:=24) (cells:=[.s (.int .i64 0),.s (.str []),.s (.int .i64 0),.nl 4]) rfl ?_ rfl rfl rfl).trans rfl,rfl⟩
     show putC H3 (.op 0 0) _ 0=_;rw[zGh (bt:=24) (cs:=[.s (.int .i64 0),.s (.str []),.s (.int .i64 0),.nl 4]) g4]; rfl
    | true =>
     refine zAL rfl (fun h=>by cases h) (fun _=>?_)
     obtain⟨rfl,rfl⟩:=Prod.mk.inj (Option.some.inj h)
     refine zAf ?_;show Tri ..;refine zAk (Le.forgetH [(6,.op 0 0),(8,.s (.pt (Nd.enc (.mk k9 t9 c9 ks9))))] H3 n2 ⟨rfl,rfl,trivial⟩ (fun _=>rfl) rfl) ?_;refine zYe [] [] rfl ?_;refine zAg rfl rfl rfl rfl rfl rfl trivial ?_;refine zG5 (sz:=4) (cs:=[.s (.int .i64 0),.s (.str []),.s (.int .i64 0),.nl 4]) (cs':=zBd k9 t9 c9 (.s (.sl 4 (Nd.encs ks9)))) (p:=.op 0 0) rfl rfl rfl rfl rfl (.inr ⟨0,rfl⟩) rfl (zEq (bt:=24) g4) rfl rfl rfl rfl rfl ?_;refine zAg rfl rfl rfl rfl rfl rfl trivial ?_;show Tri ..;refine zAe ?_;unfold zAw
     refine⟨_,Le.refl _ _,(zIP (bt:=24) (cells:=zBd k9 t9 c9 (.s (.sl 4 (Nd.encs ks9)))) rfl ?_ rfl rfl rfl).trans rfl,rfl⟩
     show putC H3 (.op 0 0) _ 0=_;rw[zGh (bt:=24) (cs:=[.s (.int .i64 0),.s (.str []),.s (.int .i64 0),.nl 4]) g4]; rfl
end Go.Proofs.YtgplhldfbkmmgaaGreat
namespace Go.Abs
theorem PSound.giveTop {P:Program}{f e sz:Nat}{R:List AV->(Nat->Option Ob)->Nat->(AV->(Nat->Option Ob)->Nat->Prop)->Prop}{S:List AV->List S->List (List S)->Prop} (h:PSound P f (zRo R))
  (hS:∀ xs cs rs,S xs cs rs->R xs (fun _=>none) 0 fun x hp n=>∃ q rows hpD,x = .agg (cs.map .s++[.orow q])/\hp q=some (.arow e sz rows)/\rows.length=rs.length/\(∀ r∈rs,r.length=sz)/\(∀ k ob,hpD k=some ob->hp k=some ob/\k ≠ q) /\
   ∀ (i:Nat) x s,rows.flatten[i]? = some x->rs.flatten[i]? = some s->Rd hpD x s) :
  PSound P f (zC8 fun xs os x os'=>∃ cs rs,os=[]/\x = .agg (cs.map .s++[.orow 0])/\os'=[some (.row e sz rs)]/\S xs cs rs):=by
 refine PSound.ofOwn h.1 fun G w β xs vs os x os' hlt hgl hv hxl hob ⟨cs,rs,ho,hx,ho',hs⟩=>?_
 subst ho; subst hx; subst ho'
 refine(h.2.2.2 R rfl G w β xs vs (fun _=>none) 0 _ hlt hgl hv hxl ⟨fun k ob hk=>(by cases hk),fun k ob hk=>(by cases hk),fun k k' ob ob' hk=>(by cases hk)⟩ (hS xs cs rs hs)).mono ?_;rintro e' w' ⟨v,G',β',x,hp',n',rfl,⟨q,rows,hpD,rfl,hq,hlen,hsz,hD,hrd⟩,hn,hfr,hsub,hnew,hlt',hx,hxl,hob,hst⟩
 let c:Cx:=zFc P w β (fun _=>none) 0 G 0
 have hk:Keep G G' w w':=⟨hsub,fun b hb=>hfr.old b (hlt b hb) (by rintro⟨k,ob,h,_⟩; cases h)⟩
 have hc:Conc c G' β' ⟨fun _=>.junk,hpD,n'⟩ { tmps:=#[],defers:=[] } w':={
  defers:=rfl
  size:=rfl
  env:=fun t=>by simp only[AVal]
  envlt:=fun t=>rfl
  hp:=fun k ob hk=>hob.obs k ob (hD k ob hk).1
  hplt:=fun k ob hk=>hob.lts k ob (hD k ob hk).1
  inj:=fun k k' ob ob' hk hk'=>hob.inj k k' ob ob' (hD k ob hk).1 (hD k' ob' hk').1
  lt:=hlt'
  sub:=hsub
  new:=hnew
  fr:=hfr
  stay:=⟨hn,hst⟩
  glob:=hgl.keep hk }
 have hmine:∀ b,c.mine b->w.heap.size<=b:=fun b hb=>by
  rcases hb with ⟨k,ob,h,_⟩ | h
  ·cases h
  ·exact h
 have hk':Keep G' (allG G' β' hpD) w' w':=⟨fun _ h=>.inl h,fun _ _=>rfl⟩
 refine⟨v,allG G' β' hpD,fun _=>β' q,rfl,⟨hfr.os,hfr.tape,hfr.output,hfr.size,fun b hb _=>hfr.old b hb (by rintro⟨k,ob,h,_⟩; cases h)⟩,fun b hb=>.inl (hsub b hb),fun b hb=>?_,fun b hb=>?_,?_,?_,Nat.zero_le _,⟨fun i ob hi=>?_,fun i j ob ob' hi hj hne=>?_⟩,fun i ob hi=>absurd hi (Nat.not_lt_zero _)⟩
 ·rcases hb with hb | ⟨k,ob,h1,h2⟩
  ·exact(hnew b hb).imp id fun h=>.inr (hmine b h)
  ·exact .inr (.inr (hmine b (row_block (hc.hp k ob h1) b h2).2))
 ·rcases hb with hb | ⟨k,ob,h1,h2⟩
  ·exact hlt' b hb
  ·exact hc.blk_lt h1 h2
 ·simp only[AVal]at hx ⊢;obtain⟨us,rfl,hus⟩:=hx;refine⟨us,rfl,AVals.mk (by rw[hus.length]; simp) fun i y u hy hu=>?_⟩
  rw[List.getElem?_append]at hy
  by_cases hi:i<(cs.map AV.s).length
  ·rw[if_pos hi]at hy;obtain⟨u',hu',hr⟩:=hus.get (i:=i) (x:=y) (by rw[List.getElem?_append,if_pos hi]; exact hy)
   rw[hu]at hu'; cases hu'
   rw[List.getElem?_map]at hy;obtain⟨s,_,rfl⟩:=Option.map_eq_some_iff.1 hy;simp only[AVal]at hr ⊢;exact hr.keep hk'
  ·rw[if_neg hi]at hy;have h0:i - (cs.map AV.s).length=0 :=(by have:=(List.getElem?_eq_some_iff.1 hy).1; simpa using this);rw[h0]at hy;cases hy;obtain⟨u',hu',hr⟩:=hus.get (i:=i) (x:=.orow q) (by rw[List.getElem?_append,if_neg hi,h0]; rfl)
   rw[hu]at hu'; cases hu'
   simp only[AVal]at hr ⊢;exact hr
 ·simp only[AV.lt]
  refine zD9 fun i y hy=>?_
  rw[List.getElem?_append]at hy;split at hy
  ·rw[List.getElem?_map]at hy;obtain⟨s,_,rfl⟩:=Option.map_eq_some_iff.1 hy
   rfl
  ·rename_i hi
   have h0:i - (cs.map AV.s).length=0 :=(by have:=(List.getElem?_eq_some_iff.1 hy).1; simpa using this);rw[h0]at hy;cases hy
   rfl
 ·match i,hi with
  | 0,hi =>
   cases hi;refine⟨?_,rfl⟩
   obtain⟨hl,hz,ho⟩:=hob.obs q _ hq;refine⟨hsz,hz,?_⟩
   rcases ho with ⟨h1,rfl⟩ | ⟨b,cap,cur,h1,h2,h3,h4,h5,h6,h7⟩
   ·exact .inl ⟨h1,List.length_eq_zero_iff.1 (by simpa using hlen.symm)⟩
   ·refine .inr ⟨b,cap,cur,by rw[← hlen]; exact h1,by rw[← hlen]; exact h2,h3,h4,?_,.inr (hmine b h6),fun i s hi=>?_⟩
    ·rintro(hb | ⟨k,ob,g1,g2⟩)
     ·exact h5 hb
     ·exact hob.inj k q ob _ (hD k ob g1).1 hq (hD k ob g1).2 b g2 (by rw[h1]; rfl)
    ·have hfl:=zAZ hl;have hfs:=zAZ hsz;have hil:i<rows.flatten.length :=(by rw[hfl,hlen,← hfs]; exact(List.getElem?_eq_some_iff.1 hi).1);obtain⟨u,hu,hr',_⟩:=h7 i _ (List.getElem?_eq_getElem hil)
     exact⟨u,hu,(hrd i _ s (List.getElem?_eq_getElem hil) hi).rep hc hr'⟩
  | i+1,hi=>simp at hi
 ·match i,j,hi,hj with
  | 0,0,_,_=>exact absurd rfl hne
  | 0,j+1,_,hj=>simp at hj
  | i+1,_,hi,_=>simp at hi
end Go.Abs
namespace Go.Proofs.YtgplhldfbkmmgaaGreat
open Go.Abs
theorem VAt.rd {hp:Nat->Option Ob}{e:Nat}{v:AV}{ks:List Nd}{keys:List Nat} (h:VAt hp e v ks keys):Rd hp v (.sl 4 (Nd.encs ks)):=by
 rcases h with ⟨rfl,rfl,_⟩ | ⟨q,rows,keys',w,rfl,hq,hlen,rfl,h⟩
 ·exact .s _
 ·exact Rd.rows hq hlen fun j x hj=>(by have:=LAt.rd h j x hj; rwa [Nat.zero_add]at this)
def zTZ (xs:List AV) (cs:List S) (rs:List (List S)):Prop:=∃ (a0:Nd) (k c:Int) (t:List UInt8) (ks:List Nd),zCO a0=some (.mk k t c ks)/\xs=[.agg ((Nd.enc a0).map .s)]/\cs=[.int .i64 k,.str t,.int .i64 c]/\rs=Nd.encs ks
theorem zM4:PSound Tryz.prog 53 (zC8 fun xs os x os'=>∃ cs rs,os=[]/\x = .agg (cs.map .s++[.orow 0])/\os'=[some (.row 24 4 rs)]/\zTZ xs cs rs):=by
 refine PSound.giveTop zHv fun xs cs rs ⟨⟨k0,t0,c0,ks0⟩,k,c,t,ks,hm,hx,hcs,hrs⟩=>?_
 subst hx; subst hcs; subst hrs
 obtain⟨⟨hq,hne⟩,hm⟩:=zAK hm;cases hm;refine⟨k0,c0,t0,ks0,hq,rfl,fun v hp' n' keys _ _ hv hnd _=>?_⟩
 rcases hv with ⟨rfl,_⟩ | ⟨q,rows,keys',w,rfl,hq,hlen,rfl,hl⟩
 ·exact absurd rfl hne
 refine⟨q,rows,fun k=>if k∈keys' then hp' k else none,rfl,hq,by rw[Nd.encs_eq,List.length_map]; exact hlen,fun r hr=>?_,fun k ob hk=>?_,zS5 fun j r s hr hs=>?_⟩
 ·rw[Nd.encs_eq]at hr;obtain⟨x,_,rfl⟩:=List.mem_map.1 hr;cases x; rfl
 ·dsimp only at hk;split at hk
  ·rename_i hm
   exact⟨hk,fun e=>(List.nodup_cons.1 hnd).1 (by rw[← e]; exact hm)⟩
  ·cases hk
 ·rw[Nd.encs_eq,List.getElem?_map]at hs;cases hx:ks0[j]? with
  | none=>rw[hx]at hs; cases hs
  | some x =>
   rw[hx]at hs; cases hs
   obtain⟨keys0,rest,w0,hperm,hat,_⟩:=LAt.hole (i:=0) hl hnd hx;rw[Nat.zero_add]at hat;obtain⟨k2,t2,c2,ks2⟩:=x;obtain⟨v,hc,hv⟩:=hat.full;rw[zFH hq,hr]at hc;cases hc;exact RdC.node (VAt.rd (hv.frame fun k hk=>by
    show(if k∈keys' then hp' k else none)=hp' k;rw[if_pos (hperm.mem_iff.2 (List.mem_append_left _ hk))]))
def zMe (xs:List AV) (os:List Ob) (x:AV) (os':List (Option Ob)):Prop:=∃ (a0:Nd) (y0:Nd),zCO a0=some y0/\xs=[.agg ((Nd.enc a0).map .s)]/\os=[]/\x = .agg (match y0 with | .mk k t c _=>[.s (.int .i64 k),.s (.str t),.s (.int .i64 c),.orow 0])/\os'=[some (.row 24 4 (match y0 with | .mk _ _ _ ks=>Nd.encs ks))]
def zFS:zAz:=zC8 (fun xs os x os'=>zMe xs os x os')
theorem zHN:PSound Tryz.prog 53 zFS :=
 PSound.ofOwn zM4.1 fun G w β xs vs os x os' h1 h2 h3 h4 h5 ⟨a0,⟨k,t,c,ks⟩,hm,hx,ho,hr,ho'⟩ =>
  zM4.2.2.1 _ rfl G w β xs vs os x os' h1 h2 h3 h4 h5 ⟨[.int .i64 k,.str t,.int .i64 c],Nd.encs ks,ho,hr,ho',a0,k,c,t,ks,hm,hx,rfl,rfl⟩
end Go.Proofs.YtgplhldfbkmmgaaGreat
namespace Go.Proofs
open Go.RowKit Go.Lib
theorem Tryz.Grow_nil_sNode (w:World) :
  Calls Tryz.prog 206 #[.slice none 0 0,.int .i64 0] w fun e w'=>e = .returned (.slice none 0 0)/\w'=w:=by
 have h2:wrap64 0=0:=by unfold wrap64; omega
 go_enter Tryz.func206,Tryz.ntmps206
 go_wp2
 go_ret
 exact⟨rfl,rfl⟩
set_option maxHeartbeats 4000000 in
theorem Tryz.Grow_new_sNode (i0:TypeInfo) (z:Value) (hi0:Tryz.prog.info? 24=some i0) (hz0:i0.zero=some z) (hs0:0<i0.size)
  (n:Nat) (w:World) (hroom:0<n) (hbig:n * i0.bytes<=140737488355328) (h63:n<=4611686018427387904) :
  Calls Tryz.prog 206 #[.slice none 0 0,.int .i64 n] w fun e w' =>
   e = .returned (.slice (some ⟨w.heap.size,0,none⟩) 0 (grownCap w n 0 24)) /\
   w'=w.drew.alloc (.cells (#[]++Builtin.zeroCells z.cells n++Builtin.zeroCells z.cells (grownCap w n 0 24 - n)) 24):=by
 have h1:¬ ((n:Int)<0) :=(by omega);have h2:wrap64 0=0 :=(by unfold wrap64; omega);have h3:wrap64 (n:Int)=(n:Int) :=(by unfold wrap64; omega);have h4:(n:Int) > 0 :=(by omega);have hold:(Builtin.firstCells i0.size 0 (.slice none 0 0)).run Tryz.prog w.drew = .ok ([]:List Value).toArray w.drew:=run_firstCells_none w.drew i0.size 0 0 0;have hrz:∀ ty,(Builtin.append_ #[22,3] ty #[.slice none 0 0,.int .i64 (n:Int)]).run Tryz.prog w =
   .ok (.slice (some ⟨w.heap.size,0,none⟩) n (grownCap w n 0 24)) (w.drew.alloc (.cells (#[]++Builtin.zeroCells z.cells n++Builtin.zeroCells z.cells (grownCap w n 0 24 - n)) 24)):=fun ty=>by
  have h:=Lib.run_append_grow_zeros w 22 3 ty 24 i0 z .i64 .i64 Tryz.underlying22 Tryz.underlying3 hi0 hz0 none 0 0 [] hold n (by omega) hs0 (by omega) (by omega) (by omega)
   (by rw[Nat.zero_add]; exact growslice_fits hroom hbig)
  rw[Nat.zero_add]at h;exact h
 have hGn:n<=grownCap w n 0 24:=grownCap_ge w _ _ _;obtain⟨G,hG⟩:∃ G,G=grownCap w n 0 24:=⟨_,rfl⟩
 rw[← hG]at hrz hGn ⊢;have hG63:G<=9223372036854775807:=by
  have:=grownCap_le_maxLen w n 0 24 (by unfold maxLen; omega)
  rw[← hG]at this;unfold maxLen at this
  omega
 clear hold hG
 go_enter Tryz.func206,Tryz.ntmps206
 go_wp2_with (at_builtin; refine Lib.wpList_append_run _ rfl _ _ _ _ rfl _ _ rfl rfl _ _ (hrz _) ?_)
 all_goals (go_ret; exact⟨rfl,rfl⟩)
end Go.Proofs
namespace Go.Proofs.YtgplhldfbkmmgaaGreat
open Go.Abs
theorem zXI (z:Array Value) (n:Nat):(Builtin.zeroCells z n).size=n * z.size:=by simp[Builtin.zeroCells]
def zJy (xs:List AV) (r:Ret):Prop:=∃ (a0:Int) (y0:List Nd),zEh a0=some y0/\xs=[.nl 4,.s (.int .i64 a0)]/\r = .row 24 4 (Nd.encs y0)
def zFZ:zAz:=zYc fun xs r=>zJy xs r
theorem zI1:PSound Tryz.prog 206 zFZ :=
 ⟨Tryz.call206,fun G w xs vs r hl hg _ hv ⟨a0,y0,hm,hx,hr⟩=>by
  subst hx; subst hr
  obtain⟨⟨q1,q2⟩,hm⟩:=zAK hm;obtain rfl:=Option.some.inj hm;obtain⟨n,rfl⟩:=Int.eq_ofNat_of_zero_le q1;simp only[AVals,AVal,Rep]at hv;obtain⟨_,_,rfl,rfl,_,_,rfl,rfl,rfl⟩:=hv
  by_cases h0:n=0
  ·subst h0;exact(Tryz.Grow_nil_sNode w).mono fun e w' ⟨h1,h2⟩=>by
    subst h2;exact⟨_,G,h1,Ext.refl hl,fun r hr=>(by cases hr),by decide,.inl ⟨rfl,rfl⟩⟩
  obtain⟨d,info,z,b1,b2,b3,b4,b5,b6,b7,b8,b9,b10⟩:=tokW 24 _ rfl;have i1:info.size=4:=b4;have i2:info.bytes=56:=b5;have hzs:z.cells.size=4:=zKM b7 b8 b9;refine(Tryz.Grow_new_sNode info z b3 b6 (by omega) n w (by omega) (by rw[i2]; omega) (by omega)).mono fun e w' ⟨h1,h2⟩=>?_
  have hge:n<=grownCap w n 0 24 :=(by unfold grownCap Question.cut; simp);generalize grownCap w n 0 24=g at *;refine⟨_,G,h1,?_,fun r hr=>(by cases hr),by decide,.inr ⟨w.heap.size,g,#[]++Builtin.zeroCells z.cells n++Builtin.zeroCells z.cells (g - n),rfl,Nat.zero_le _,?_,by rw[h2]; exact RowBlk.laid (zDJ w.drew _),fun h=>Nat.lt_irrefl _ (hl _ h),Nat.le_refl _,fun i s hi=>by cases hi⟩⟩
  ·rw[h2]
   exact(Ext.drew hl).trans (Ext.own (w:=w.drew) hl _)
  ·simp only[Array.size_append,Array.size_empty,zXI,hzs]
   omega,
 fun R hR=>(by cases hR),fun R hR=>(by cases hR)⟩
def zIW (xs:List AV) (r:Ret):Prop:=∃ (a0:List Nd) (y0:List Nd),zD1 a0=some y0/\xs=[.s (.sl 4 (Nd.encs a0))]/\r = .val (.s (.sl 4 (Nd.encs y0)))
def zFz:zAz:=zAy fun xs r=>zIW xs r
theorem zIB:PSound Tryz.prog 199 zFz:=by
 have gok:=@gok0 Tryz.prog;refine zAA tokW Tryz.call199 Tryz.func199 rfl (fun xs r h=>by obtain⟨_,_,_,rfl,_⟩:=h; show 1<=_; decide) _ rfl ?_;rintro xs r w0 G0 ⟨l,y,h,rfl,rfl⟩ _;obtain⟨hq,h⟩:=zAK h;obtain rfl:=Option.some.inj h;have hlen:(Nd.encs l).length=l.length:=rlen Nd.encs_eq l;refine zYe [] [] rfl ?_;show Tri ..;refine zAa ?_;refine zYe [] [] rfl ?_;intro b hb;show Tri ..;cases b with
 | true =>
  have hl:=hb rfl;refine zAL rfl (fun _=>?_) (fun h=>by cases h)
  refine zYe [] [] rfl ?_;show Tri ..;refine zAe ?_;unfold zAw;exact⟨_,Le.refl _ _,congrArg (fun z=>some (AV.s (.sl 4 z))) hl.symm,rfl⟩
 | false =>
  refine zAL rfl (fun h=>by cases h) (fun _=>?_)
  refine zAf ?_;show Tri ..;refine zYe [5,7] [] rfl ?_;refine And.intro (show(([]:List (List S)).length+(Nd.encs l).length) * 56<=140737488355328/\([]:List (List S)).length+(Nd.encs l).length<=9223372036854775807 from by rw[hlen]; simp only[List.length_nil]; omega) ?_;show Tri ..;refine zAe ?_;unfold zAw;exact⟨_,Le.giveRow 1 (e:=24) (sz:=4) (rows:=Nd.encs l) rfl,rfl,rfl⟩
def zJx (xs:List AV) (r:Ret):Prop:=∃ (a0:List Int) (y0:List Int),zBH a0=some y0/\xs=[.s (.sl 1 ((List.map (irow .i64)) a0))]/\r = .val (.s (.sl 1 ((List.map (irow .i64)) y0)))
def zFY:zAz:=zAy fun xs r=>zJx xs r
theorem zI0:PSound Tryz.prog 168 zFY:=by
 have gok:=@gok0 Tryz.prog;refine zAA tokW Tryz.call168 Tryz.func168 rfl (fun xs r h=>by obtain⟨_,_,_,rfl,_⟩:=h; show 1<=_; decide) _ rfl ?_;rintro xs r w0 G0 ⟨l,y,h,rfl,rfl⟩ _;obtain⟨hq,h⟩:=zAK h;obtain rfl:=Option.some.inj h;have hlen:((List.map (irow .i64)) l).length=l.length:=rlen (fun _=>rfl) l;refine zYe [] [] rfl ?_;show Tri ..;refine zAa ?_;refine zYe [] [] rfl ?_;intro b hb;show Tri ..;cases b with
 | true =>
  have hl:=hb rfl;refine zAL rfl (fun _=>?_) (fun h=>by cases h)
  refine zYe [] [] rfl ?_;show Tri ..;refine zAe ?_;unfold zAw;exact⟨_,Le.refl _ _,congrArg (fun z=>some (AV.s (.sl 1 z))) hl.symm,rfl⟩
 | false =>
  refine zAL rfl (fun h=>by cases h) (fun _=>?_)
  refine zAf ?_;show Tri ..;refine zYe [5,7] [] rfl ?_;refine And.intro (show(([]:List (List S)).length+((List.map (irow .i64)) l).length) * 8<=140737488355328/\([]:List (List S)).length+((List.map (irow .i64)) l).length<=9223372036854775807 from by rw[hlen]; simp only[List.length_nil]; omega) ?_;show Tri ..;refine zAe ?_;unfold zAw;exact⟨_,Le.giveRow 1 (e:=3) (sz:=1) (rows:=(List.map (irow .i64)) l) rfl,rfl,rfl⟩
def zAr (p:List Nd):List S:=[.sl 4 (Nd.encs p)]
def zH3 (n:Nat) (xs:List AV) (r:Ret):Prop:=∃ (a0:List (List Nd)) (y0:List Nd),zBS n a0=some y0/\xs=[.s (.sl 1 ((List.map zAr) a0))]/\r = .row 24 4 (Nd.encs y0)
def zFa:zAz:=zAy fun xs r=>∃ n,zH3 n xs r
theorem zHZ:PSound Tryz.prog 202 zFa:=by
 have gok:∀ f s,look? f [(206,zFZ)]=some s->PSound Tryz.prog f s:=zAt (by
  simp only[List.forall_mem_cons]
  exact⟨zI1,by simp⟩)
 refine zAA tokW Tryz.call202 Tryz.func202 rfl (fun xs r h=>by obtain⟨n,_,_,_,rfl,_⟩:=h; show 1<=36; decide) 36 rfl ?_;rintro xs r w0 G0 ⟨n,slices1,y0,h,rfl,rfl⟩ _;rw[zBS]at h;refine zYe [2] [] rfl ?_;show Tri ..;refine zAk (Le.rnm [] [(0,.s (.sl 1 ((List.map zAr) slices1)))] [] 0 ⟨rfl,trivial⟩ trivial) ?_;refine zYe [] [] rfl ?_;show Tri ..;refine zAa ?_;refine zYe [] [10] rfl ?_;intro n2 hn2;obtain rfl:(slices1.length:Int)=n2:=(hn2.trans (congrArg (fun m:Nat=>(m:Int)) (rlen (fun _=>rfl) slices1))).symm;show Tri ..
 obtain⟨size5,hl,h⟩:=zAc h;refine zAv ⟨ofL [(0,.s (.sl 1 ((List.map zAr) slices1))),(3,.s (.int .i64 size5))],fun _=>none,0⟩ ?_ (fun σ' hle=>?_)
 ·refine zAl (zAF (X:=Nat×Int×Int) (fun y=>match y with | (k,x3,size4)=>⟨ofL [(0,.s (.sl 1 ((List.map zAr) slices1))),(3,.s (.int .i64 size4)),(9,.s (.sl 1 ((List.map zAr) slices1))),(10,.s (.int .i64 (slices1.length:Int))),(11,.s (.int .i64 x3))],fun _=>none,0⟩) (fun y=>zA0 slices1 y.1 y.2.1 y.2.2=some size5) (fun y=>y.1) (n,0,0) hl ?_ ?_)
  ·exact(Le.forget _ ⟨rfl,rfl,rfl,rfl,rfl,trivial⟩)
  ·rintro⟨k,x3,size4⟩ h;cases k with
   | zero=>cases h
   | succ k =>
    replace h:zA0 slices1 (k+1) x3 size4=some size5:=h;rw[zA0]at h;refine zYe [] [] rfl ?_;show Tri ..;refine zAa ?_;refine zAh rfl h (fun hb h=>?_) (fun hb h=>?_)
    ·refine zAf ?_;show Tri ..;refine zAa ?_;refine zAl ?_;refine zYe [] [13] rfl ?_;obtain⟨e6,he6,h⟩:=zAc h;refine And.intro (zAB (fun _=>rfl) he6).1 ?_;intro r7 hr7;obtain rfl:[.sl 4 (Nd.encs e6)]=r7:=(hr7.trans (zAB (fun _=>rfl) he6).2.1).symm;show Tri ..;refine zYe [] [17] rfl ?_;intro n8 hn8;obtain rfl:(e6.length:Int)=n8:=(hn8.trans (congrArg (fun m:Nat=>(m:Int)) (rlen Nd.encs_eq e6))).symm;show Tri ..;refine zYe [] [] rfl ?_;show Tri ..;refine zAh rfl h (fun hb h=>?_) (fun hb h=>?_)
     ·cases h
     ·refine zAf ?_;show Tri ..;refine zAb [] [] rfl ?_;refine⟨(k,IntKind.i64.wrap (x3+1),IntKind.i64.wrap (size4+(e6.length:Int))),h,(Le.forget _ ⟨rfl,rfl,rfl,rfl,rfl,trivial⟩),Nat.lt_succ_self k⟩
    ·refine zAI ?_;cases h;exact(Le.forget _ ⟨rfl,rfl,trivial⟩)
 ·show Tri ..;refine zAk hle ?_;refine zYe [24] [] rfl ?_;obtain⟨y9,hy9,h⟩:=zAc h;refine⟨_,⟨_,_,hy9,rfl,rfl⟩,?_⟩
  show Tri ..;refine zAa ?_;refine zYe [] [26] rfl ?_;intro n10 hn10;obtain rfl:(slices1.length:Int)=n10:=(hn10.trans (congrArg (fun m:Nat=>(m:Int)) (rlen (fun _=>rfl) slices1))).symm;show Tri ..;obtain⟨l14,hl,h⟩:=zAc h;refine zAv ⟨ofL [(6,.orow 0)],ofH [(0,.row 24 4 (Nd.encs l14))],1⟩ ?_ (fun σ' hle=>?_)
  ·refine zAl (zAF (X:=Nat×Int×(List Nd)) (fun y=>match y with | (k,x11,l13)=>⟨ofL [(6,.orow 0),(25,.s (.sl 1 ((List.map zAr) slices1))),(26,.s (.int .i64 (slices1.length:Int))),(27,.s (.int .i64 x11))],ofH [(0,.row 24 4 (Nd.encs l13))],1⟩) (fun y=>zA1 slices1 y.1 y.2.1 y.2.2=some l14) (fun y=>y.1) (n,0,y9) hl ?_ ?_)
   ·exact(Le.rnm [(0,0)] _ _ _ ⟨rfl,rfl,rfl,rfl,trivial⟩ ⟨rfl,⟨_,rfl,rfl⟩,trivial⟩)
   ·rintro⟨k,x11,l13⟩ h;cases k with
    | zero=>cases h
    | succ k =>
     replace h:zA1 slices1 (k+1) x11 l13=some l14:=h;rw[zA1]at h;refine zYe [] [] rfl ?_;show Tri ..;refine zAa ?_;refine zAh rfl h (fun hb h=>?_) (fun hb h=>?_)
     ·refine zAf ?_;show Tri ..;refine zAa ?_;refine zAl ?_;refine zYe [] [29] rfl ?_;obtain⟨e15,he15,h⟩:=zAc h;refine And.intro (zAB (fun _=>rfl) he15).1 ?_;intro r16 hr16;obtain rfl:[.sl 4 (Nd.encs e15)]=r16:=(hr16.trans (zAB (fun _=>rfl) he15).2.1).symm;show Tri ..;refine zAb [33] [] rfl ?_;obtain⟨hq,h⟩:=zAK h;refine And.intro (show((Nd.encs l13).length+(Nd.encs e15).length) * 56<=140737488355328/\(Nd.encs l13).length+(Nd.encs e15).length<=9223372036854775807 from by simp only[List.length_append,List.length_cons,List.length_nil,List.length_map,rlen Nd.encs_eq]at hq ⊢; omega) ?_
      show Tri ..;refine zAk (Le.rnm [(1,0)] [(6,.orow 0),(25,.s (.sl 1 ((List.map zAr) slices1))),(26,.s (.int .i64 (slices1.length:Int))),(27,.s (.int .i64 x11))] [(0,.row 24 4 (Nd.encs (l13++e15)))] 1 ⟨rfl,rfl,rfl,rfl,trivial⟩ ⟨rfl,⟨_,rfl,congrArg (Ob.row 24 4) (by simp[List.map_append,List.map_take,List.map_drop,irow,brow,zAG,List.map_cons,List.map_nil,zAC,Nd.encs_eq,Nd.enc,CV.encs_eq,CV.enc,zAq,zAm,zAx,zAr])⟩,trivial⟩) ?_;refine zAb [] [] rfl ?_
      refine⟨(k,IntKind.i64.wrap (x11+1),l13++e15),h,(Le.rnm [(0,0)] _ _ _ ⟨rfl,rfl,rfl,rfl,trivial⟩ ⟨rfl,⟨_,rfl,rfl⟩,trivial⟩),Nat.lt_succ_self k⟩
     ·refine zAI ?_;cases h;exact(Le.rnm [(0,0)] _ _ _ ⟨rfl,trivial⟩ ⟨rfl,⟨_,rfl,rfl⟩,trivial⟩)
  ·show Tri ..;refine zAk hle ?_;refine zYe [] [] rfl ?_;show Tri ..;refine zAe ?_;have hy:=Option.some.inj h;subst hy;unfold zAw;exact⟨_,Le.refl _ _,0,rfl,rfl⟩
def zAp (p:(zO8×List Nd)):List S:=[.int .i64 p.1.1,.sl 1 ((List.map (irow .i64)) p.1.2.1),.int .i64 p.1.2.2.1,.int .i64 p.1.2.2.2.1,.sl 4 (Nd.encs p.1.2.2.2.2.1),.int .i64 p.1.2.2.2.2.2.1,.str p.1.2.2.2.2.2.2.1,.str p.1.2.2.2.2.2.2.2,.sl 4 (Nd.encs p.2)]
def zJ1 (n:Nat) (xs:List AV) (r:Ret):Prop:=∃ (a0:(zO8×List Nd)) (a1:Int) (a2:List Nd) (y0:List Nd),zA3 n a0 a1 a2=some y0/\xs=[.agg ((zAp a0).map .s),.s (.int .i64 a1),.s (.sl 4 (Nd.encs a2))]/\r = .val (.s (.sl 4 (Nd.encs y0)))
def zBT:zAz:=zAy fun xs r=>∃ n,zJ1 n xs r
theorem zCh:PSound Tryz.prog 196 zBT:=by
 have gok:∀ f s,look? f [(202,zFa)]=some s->PSound Tryz.prog f s:=zAt (by
  simp only[List.forall_mem_cons]
  exact⟨zHZ,by simp⟩)
 refine zAA tokW Tryz.call196 Tryz.func196 rfl (fun xs r h=>by obtain⟨n,_,_,_,_,_,rfl,_⟩:=h; show 3<=24; decide) 24 rfl ?_;rintro xs r w0 G0 ⟨n,⟨⟨c1Al,c1Aq,c1Ag,c1Am,c1Ai,c1Aj,c1Ap,c1An⟩,c1Ah⟩,n2,nodes3,y0,h,rfl,rfl⟩ _;rw[zA3]at h;refine zYe [] [] rfl ?_;show Tri ..;refine zAa ?_;refine zAQ [] [12,21,22] [] rfl (by decide +kernel) ?_;obtain⟨hq,h⟩:=zAK h;refine And.intro ⟨hq.1,hq.2.1,Int.le_trans hq.2.2 (Int.ofNat_le.2 (Nat.le_of_eq (rlen Nd.encs_eq _).symm))⟩ ?_;intro r4 hr4
 obtain rfl:Nd.encs ((c1Ah.take c1Ag.toNat).drop (0:Int).toNat)=r4:=(hr4.trans (rcut Nd.encs_eq _ _ _)).symm;obtain⟨hq,h⟩:=zAK h;refine And.intro ⟨hq.1,Int.le_trans hq.2.1 (Int.ofNat_le.2 (Nat.le_of_eq (rlen Nd.encs_eq _).symm)),Int.le_refl _⟩ ?_;intro r5 hr5;obtain rfl:Nd.encs ((c1Ah.take (c1Ah.length:Int).toNat).drop (IntKind.i64.wrap (c1Ag+n2)).toNat)=r5:=(hr5.trans ((congrArg (fun m:Nat=>((Nd.encs c1Ah).take m).drop (IntKind.i64.wrap (c1Ag+n2)).toNat) (rlen Nd.encs_eq _)).trans (rcut Nd.encs_eq _ _ _))).symm;intro r6 hr6
 obtain rfl:(List.map zAr) [(c1Ah.take c1Ag.toNat).drop (0:Int).toNat,nodes3,(c1Ah.take (c1Ah.length:Int).toNat).drop (IntKind.i64.wrap (c1Ag+n2)).toNat]=r6:=(hr6.trans (by simp[List.map_append,List.map_take,List.map_drop,irow,brow,zAG,List.map_cons,List.map_nil,zAC,Nd.encs_eq,Nd.enc,CV.encs_eq,CV.enc,zAq,zAm,zAx,zAr])).symm;obtain⟨y7,hy7,h⟩:=zAc h;refine⟨_,⟨_,_,_,hy7,rfl,rfl⟩,?_⟩
 show Tri ..;refine zAe ?_;have hy:=Option.some.inj h;subst hy;unfold zAw;exact⟨_,Le.refl _ _,rfl,rfl⟩
def zEk (n:Nat) (xs:List AV) (r:Ret):Prop:=∃ (a0:Nd) (a1:Nd) (y0:Bool),zB4 n a0 a1=some y0/\xs=[.agg ((Nd.enc a0).map .s),.agg ((Nd.enc a1).map .s)]/\r = .val (.s (.bool y0))
def zBa (n:Nat) (xs:List AV) (r:Ret):Prop:=∃ (a0:List Nd) (a1:List Nd) (y0:Bool),zA2 n a0 a1=some y0/\xs=[.s (.sl 4 (Nd.encs a0)),.s (.sl 4 (Nd.encs a1)),.s (.fn 198)]/\r = .val (.s (.bool y0))
theorem zNB (n:Nat) (ih_node_Equal:PSound Tryz.prog 198 (zAy (zEk n))) (ih_slices_EqualFunc_sNode:PSound Tryz.prog 197 (zAy (zBa n))):PSound Tryz.prog 198 (zAy (zEk (n+1))):=by
 have gok:∀ f s,look? f [(197,zAy (zBa n))]=some s->PSound Tryz.prog f s:=zAt (by
  simp only[List.forall_mem_cons]
  exact⟨ih_slices_EqualFunc_sNode,by simp⟩)
 refine zAA tokW Tryz.call198 Tryz.func198 rfl (fun xs r h=>by obtain⟨_,_,_,_,rfl,_⟩:=h; show 2<=31; decide) 31 rfl ?_;rintro xs r w0 G0 ⟨⟨a1A,a1B,a1D,a1C⟩,⟨b2A,b2B,b2D,b2C⟩,y0,h,rfl,rfl⟩ _;rw[zB4]at h;refine zYe [] [] rfl ?_;show Tri ..;refine zAa ?_;obtain⟨x3,hj,h⟩:=zAc h;refine zAv ⟨ofL [(4,.s (.bool x3))],fun _=>none,0⟩ ?_ (fun σ' hle=>?_)
 ·replace h:=hj;refine zAb [] [10,17,24] rfl ?_;intro b hb;cases b with
  | true =>
   replace h:=zAE hb.symm h;intro b hb;cases b with
   | true =>
    replace h:=zAE hb.symm h;intro b hb;cases b with
    | true =>
     replace h:=zAE hb.symm h;obtain⟨y4,hy4,h⟩:=zAc h;refine⟨_,⟨_,_,_,hy4,rfl,rfl⟩,?_⟩
     cases h;exact(Le.forget _ ⟨rfl,trivial⟩)
    | false =>
     replace h:=zAD hb.symm h;cases h;exact(Le.forget _ ⟨rfl,trivial⟩)
   | false =>
    replace h:=zAD hb.symm h;intro b hb;subst hb;cases h;exact(Le.forget _ ⟨rfl,trivial⟩)
  | false =>
   replace h:=zAD hb.symm h;intro b hb;subst hb;intro b hb;subst hb;cases h;exact(Le.forget _ ⟨rfl,trivial⟩)
 ·show Tri ..;refine zAk hle ?_;refine zAe ?_;have hy:=Option.some.inj h;subst hy;unfold zAw;exact⟨_,Le.refl _ _,rfl,rfl⟩
theorem zGi (n:Nat) (ih_node_Equal:PSound Tryz.prog 198 (zAy (zEk n))) (ih_slices_EqualFunc_sNode:PSound Tryz.prog 197 (zAy (zBa n))):PSound Tryz.prog 197 (zAy (zBa (n+1))):=by
 have gok:∀ f s,look? f [(198,zAy (zEk n))]=some s->PSound Tryz.prog f s:=zAt (by
  simp only[List.forall_mem_cons]
  exact⟨ih_node_Equal,by simp⟩)
 refine zAA tokW Tryz.call197 Tryz.func197 rfl (fun xs r h=>by obtain⟨_,_,_,_,rfl,_⟩:=h; show 3<=32; decide) 32 rfl ?_;rintro xs r w0 G0 ⟨s11,s22,y0,h,rfl,rfl⟩ _;rw[zA2]at h;refine zYe [] [] rfl ?_;show Tri ..;refine zAa ?_;refine zYe [] [11,13] rfl ?_;intro n3 hn3;obtain rfl:(s11.length:Int)=n3:=(hn3.trans (congrArg (fun m:Nat=>(m:Int)) (rlen Nd.encs_eq s11))).symm;intro n4 hn4;obtain rfl:(s22.length:Int)=n4:=(hn4.trans (congrArg (fun m:Nat=>(m:Int)) (rlen Nd.encs_eq s22))).symm;show Tri ..;refine zAh rfl h (fun hb h=>?_) (fun hb h=>?_)
 ·refine zYe [] [] rfl ?_;show Tri ..;refine zAe ?_;have hy:=Option.some.inj h;subst hy;unfold zAw;exact⟨_,Le.refl _ _,rfl,rfl⟩
 ·refine zAf ?_;show Tri ..;refine zAa ?_;refine zYe [] [16] rfl ?_;intro n5 hn5;obtain rfl:(s11.length:Int)=n5:=(hn5.trans (congrArg (fun m:Nat=>(m:Int)) (rlen Nd.encs_eq s11))).symm;show Tri ..;obtain⟨fl,hl,ho1⟩:=zAc h;refine zBt (fl:=fl) (fun z=>match z with | _=>⟨ofL [],fun _=>none,0⟩) ?_ (fun z σ' hz hle=>?_)
  ·refine zAl (zAF (X:=Nat×Int) (fun y=>match y with | (k,x6)=>⟨ofL [(1,.s (.sl 4 (Nd.encs s22))),(2,.s (.fn 198)),(15,.s (.sl 4 (Nd.encs s11))),(16,.s (.int .i64 (s11.length:Int))),(17,.s (.int .i64 x6))],fun _=>none,0⟩) (fun y=>zAP (zB4 n) s11 s22 y.1 y.2=some fl) (fun y=>y.1) (n,0) hl ?_ ?_)
   ·exact(Le.forget _ ⟨rfl,rfl,rfl,rfl,rfl,trivial⟩)
   ·rintro⟨k,x6⟩ h;cases k with
    | zero=>cases h
    | succ k =>
     replace h:zAP (zB4 n) s11 s22 (k+1) x6=some fl:=h;rw[zAP]at h;refine zYe [] [] rfl ?_;show Tri ..;refine zAa ?_;refine zAh rfl h (fun hb h=>?_) (fun hb h=>?_)
     ·refine zAf ?_;show Tri ..;refine zAa ?_;refine zAl ?_;refine zYe [8] [20] rfl ?_;obtain⟨⟨e7A,e7B,e7D,e7C⟩,he7,h⟩:=zAc h;refine And.intro (zAB Nd.encs_eq he7).1 ?_;intro r8 hr8;obtain rfl:[.int .i64 e7A,.str e7B,.int .i64 e7D,.sl 4 (Nd.encs e7C)]=r8:=(hr8.trans (zAB Nd.encs_eq he7).2.1).symm;show Tri ..;refine zAk (Le.giveBox 0 [.int .i64 e7A,.str e7B,.int .i64 e7D,.sl 4 (Nd.encs e7C)] rfl rfl) ?_;refine zYe [9] [24] rfl ?_;obtain⟨⟨e9A,e9B,e9D,e9C⟩,he9,h⟩:=zAc h;refine And.intro (zAB Nd.encs_eq he9).1 ?_
      intro r10 hr10;obtain rfl:[.int .i64 e9A,.str e9B,.int .i64 e9D,.sl 4 (Nd.encs e9C)]=r10:=(hr10.trans (zAB Nd.encs_eq he9).2.1).symm;show Tri ..;refine zAk (Le.giveBox 1 [.int .i64 e9A,.str e9B,.int .i64 e9D,.sl 4 (Nd.encs e9C)] rfl rfl) ?_;refine zYe [] [] rfl ?_;obtain⟨y11,hy11,h⟩:=zAc h;refine⟨_,⟨_,_,_,hy11,rfl,rfl⟩,?_⟩
      show Tri ..;refine zAh rfl h (fun hb h=>?_) (fun hb h=>?_)
      ·refine zYe [] [] rfl ?_;show Tri ..;refine zAe ?_;cases h;replace h:some _=some _:=ho1;have hy:=Option.some.inj h;subst hy;unfold zAw;exact⟨_,Le.refl _ _,rfl,rfl⟩
      ·refine zAf ?_;show Tri ..;refine zAb [] [] rfl ?_;refine⟨(k,IntKind.i64.wrap (x6+1)),h,(Le.rnm [] _ [] 0 ⟨rfl,rfl,rfl,rfl,rfl,trivial⟩ trivial),Nat.lt_succ_self k⟩
     ·refine zAI ?_;cases h;exact⟨_,rfl,(Le.forget _ trivial)⟩
  ·subst hz;obtain _:=z;replace h:=ho1;show Tri ..;refine zAk hle ?_;refine zYe [] [] rfl ?_;show Tri ..;refine zAe ?_;have hy:=Option.some.inj h;subst hy;unfold zAw;exact⟨_,Le.refl _ _,rfl,rfl⟩
theorem zIa:∀ n,PSound Tryz.prog 198 (zAy (zEk n))/\PSound Tryz.prog 197 (zAy (zBa n)):=by
 intro n
 induction n with
 | zero =>
  refine⟨?_,?_⟩
  ·exact zBI Tryz.call198 (fun xs r h=>by obtain⟨_,_,_,h,_⟩:=h; rw[zB4]at h; cases h)
  ·exact zBI Tryz.call197 (fun xs r h=>by obtain⟨_,_,_,h,_⟩:=h; rw[zA2]at h; cases h)
 | succ n ih =>
  obtain⟨ih_node_Equal,ih_slices_EqualFunc_sNode⟩:=ih;exact⟨zNB n ih_node_Equal ih_slices_EqualFunc_sNode,zGi n ih_node_Equal ih_slices_EqualFunc_sNode⟩
def zLi:zAz:=zAy fun xs r=>∃ n,zEk n xs r
theorem zPW:PSound Tryz.prog 198 zLi:=zCb (fun n=>(zIa n).1)
def zEm:zAz:=zAy fun xs r=>∃ n,zBa n xs r
theorem zGV:PSound Tryz.prog 197 zEm:=zCb (fun n=>(zIa n).2)
def zGC (n:Nat) (xs:List AV) (r:Ret):Prop:=∃ (a0:(zO8×List Nd)) (y0:List Nd) (y1:Int),zBl n a0=some (y0,y1)/\xs=[.agg ((zAp a0).map .s)]/\r = .val (.tup [.s (.sl 4 (Nd.encs y0)),.s (.int .i64 y1)])
def zGF:zAz:=zAy fun xs r=>∃ n,zGC n xs r
theorem zGk:PSound Tryz.prog 183 zGF:=by
 have gok:∀ f s,look? f [(53,zFS),(195,zGt),(198,zLi),(196,zBT)]=some s->PSound Tryz.prog f s:=zAt (by
  simp only[List.forall_mem_cons]
  exact⟨zHN,zHE,zPW,zCh,by simp⟩)
 refine zAA tokW Tryz.call183 Tryz.func183 rfl (fun xs r h=>by obtain⟨n,_,_,_,_,rfl,_⟩:=h; show 1<=54; decide) 54 rfl ?_;rintro xs r w0 G0 ⟨n,⟨⟨c1Al,c1Aq,c1Ag,c1Am,c1Ai,c1Aj,c1Ap,c1An⟩,c1Ah⟩,y0,y1,h,rfl,rfl⟩ _;rw[zBl]at h;refine zYe [] [] rfl ?_;show Tri ..;refine zYe [4] [11] rfl ?_;obtain⟨⟨e2A,e2B,e2D,e2C⟩,he2,h⟩:=zAc h;refine And.intro (zAB Nd.encs_eq he2).1 ?_;intro r3 hr3
 obtain rfl:[.int .i64 e2A,.str e2B,.int .i64 e2D,.sl 4 (Nd.encs e2C)]=r3:=(hr3.trans (zAB Nd.encs_eq he2).2.1).symm;obtain⟨⟨y4A,y4B,y4D,y4C⟩,hy4,h⟩:=zAc h;refine⟨_,_,⟨_,_,hy4,rfl,rfl,rfl,rfl⟩,?_⟩
 show Tri ..;refine zAa ?_;refine zAa ?_;refine zAQ [] [] [3,4] rfl (by decide +kernel) ?_;obtain⟨y5,hy5,h⟩:=zAc h;refine⟨_,⟨_,_,hy5,rfl,rfl⟩,?_⟩
 show Tri ..;refine zAh rfl h (fun hb h=>?_) (fun hb h=>?_)
 ·refine zYe [] [] rfl ?_;show Tri ..;refine zAe ?_;obtain⟨hj1,hk1⟩:=pij h;subst hj1 hk1;unfold zAw;exact⟨_,Le.refl _ _,rfl,rfl⟩
 ·refine zAf ?_;show Tri ..;refine zYe [] [] rfl ?_;obtain⟨⟨e6A,e6B,e6D,e6C⟩,he6,h⟩:=zAc h;refine And.intro (zAB Nd.encs_eq he6).1 ?_;refine And.intro (zAB Nd.encs_eq he6).2.2 ?_;refine⟨_,(zAB Nd.encs_eq he6).2.1,?_⟩
  show Tri ..;refine zYe [] [] rfl ?_;obtain⟨⟨e7A,e7B,e7D,e7C⟩,he7,h⟩:=zAc h;refine And.intro (zAB Nd.encs_eq he7).1 ?_;have hset8:=(rset (R:=Nd.encs) (f:=Nd.enc) Nd.encs_eq he7 (Nd.mk e7A e7B e7D []) 3 4 [.sl 4 (Nd.encs [])] rfl)
  have hat8:=at_set he7 (Nd.mk e7A e7B e7D [])
  refine And.intro (zAB Nd.encs_eq he7).2.2 ?_;show Tri ..;refine zAk (Le.rnm [(1,0),(0,1)] [(1,.s (.pt [.int .i64 c1Al,.sl 1 ((List.map (irow .i64)) c1Aq),.int .i64 c1Ag,.int .i64 c1Am,.sl 4 (Nd.encs c1Ai),.int .i64 c1Aj,.str c1Ap,.str c1An,.sl 4 (Nd.encs c1Ah)])),(4,.op 0 0),(5,.s (.sl 4 (Nd.encs e6C)))] [(0,.box 24 [.s (.int .i64 y4A),.s (.str y4B),.s (.int .i64 y4D),.orow 1]),(1,.row 24 4 (Nd.encs (y4C.set c1Aj.toNat (Nd.mk e7A e7B e7D []))))] 2 ⟨rfl,rfl,rfl,trivial⟩ ⟨rfl,⟨_,rfl,rfl⟩,rfl,⟨_,rfl,congrArg (Ob.row 24 4) hset8⟩,trivial⟩) ?_;refine zAa ?_
  refine zAa ?_;obtain⟨x9,hj,h⟩:=zAc h;refine zAv ⟨ofL [(1,.s (.pt [.int .i64 c1Al,.sl 1 ((List.map (irow .i64)) c1Aq),.int .i64 c1Ag,.int .i64 c1Am,.sl 4 (Nd.encs c1Ai),.int .i64 c1Aj,.str c1Ap,.str c1An,.sl 4 (Nd.encs c1Ah)])),(5,.s (.sl 4 (Nd.encs e6C))),(50,.s (.bool x9))],fun _=>none,0⟩ ?_ (fun σ' hle=>?_)
  ·replace h:=hj;refine zAQ [] [36,41,46] [7,13] rfl (by decide +kernel) ?_;intro n10 hn10;obtain rfl:(e6C.length:Int)=n10:=(hn10.trans (congrArg (fun m:Nat=>(m:Int)) (rlen Nd.encs_eq e6C))).symm;intro b hb;cases b with
   | true =>
    replace h:=zAE hb.symm h;cases h;exact(Le.rnm [] _ [] 0 ⟨rfl,rfl,rfl,trivial⟩ trivial)
   | false =>
    replace h:=zAD hb.symm h;obtain⟨⟨e11A,e11B,e11D,e11C⟩,he11,h⟩:=zAc h;refine And.intro (zAB Nd.encs_eq he11).1 ?_;intro r12 hr12;obtain rfl:[.int .i64 e11A,.str e11B,.int .i64 e11D,.sl 4 (Nd.encs e11C)]=r12:=(hr12.trans (zAB Nd.encs_eq he11).2.1).symm;obtain⟨y13,hy13,h⟩:=zAc h;refine⟨_,⟨_,_,_,_,hy13,rfl,rfl⟩,?_⟩
    cases h;exact(Le.rnm [] _ [] 0 ⟨rfl,rfl,rfl,trivial⟩ trivial)
  ·show Tri ..;refine zAk hle ?_;refine zAh rfl h (fun hb h=>?_) (fun hb h=>?_)
   ·refine zYe [] [] rfl ?_;show Tri ..;refine zAe ?_;obtain⟨hj1,hk1⟩:=pij h;subst hj1 hk1;unfold zAw;exact⟨_,Le.refl _ _,rfl,rfl⟩
   ·refine zAf ?_;show Tri ..;refine zYe [] [] rfl ?_;obtain⟨y14,hy14,h⟩:=zAc h;refine⟨_,⟨_,_,_,_,_,hy14,rfl,rfl⟩,?_⟩
    show Tri ..;refine zAe ?_;obtain⟨hj1,hk1⟩:=pij h;subst hj1 hk1;unfold zAw;exact⟨_,Le.refl _ _,rfl,rfl⟩
def zGD (xs:List AV) (r:Ret):Prop:=∃ (a0:(zO8×List Nd)) (y0:List Nd) (y1:Int),zBm a0=some (y0,y1)/\xs=[.agg ((zAp a0).map .s)]/\r = .val (.tup [.s (.sl 4 (Nd.encs y0)),.s (.int .i64 y1)])
def zGG:zAz:=zAy fun xs r=>zGD xs r
theorem zGl:PSound Tryz.prog 183 zGG:=by
 have gok:∀ f s,look? f [(53,zCX),(195,zGt)]=some s->PSound Tryz.prog f s:=zAt (by
  simp only[List.forall_mem_cons]
  exact⟨zCW,zHE,by simp⟩)
 refine zAA tokW Tryz.call183 Tryz.func183 rfl (fun xs r h=>by obtain⟨_,_,_,_,rfl,_⟩:=h; show 1<=54; decide) 54 rfl ?_;rintro xs r w0 G0 ⟨⟨⟨c1Al,c1Aq,c1Ag,c1Am,c1Ai,c1Aj,c1Ap,c1An⟩,c1Ah⟩,y0,y1,h,rfl,rfl⟩ _;rw[zBm]at h;refine zYe [] [] rfl ?_;show Tri ..;refine zYe [4] [11] rfl ?_;obtain⟨⟨e2A,e2B,e2D,e2C⟩,he2,h⟩:=zAc h;refine And.intro (zAB Nd.encs_eq he2).1 ?_;intro r3 hr3;obtain rfl:[.int .i64 e2A,.str e2B,.int .i64 e2D,.sl 4 (Nd.encs e2C)]=r3:=(hr3.trans (zAB Nd.encs_eq he2).2.1).symm
 obtain⟨⟨y4A,y4B,y4D,y4C⟩,hy4,h⟩:=zAc h;refine⟨_,⟨_,_,hy4,rfl,rfl⟩,?_⟩
 show Tri ..;refine zAa ?_;refine zAa ?_;refine zAQ [] [] [3] rfl (by decide +kernel) ?_;obtain⟨y5,hy5,h⟩:=zAc h;refine⟨_,⟨_,_,hy5,rfl,rfl⟩,?_⟩
 show Tri ..;refine zAh rfl h (fun hb h=>?_) (fun hb h=>?_)
 ·refine zYe [] [] rfl ?_;show Tri ..;refine zAe ?_;obtain⟨hj1,hk1⟩:=pij h;subst hj1 hk1;unfold zAw;exact⟨_,Le.refl _ _,rfl,rfl⟩
 ·refine zAf ?_;show Tri ..;refine zAa ?_;cases h
def zJ2 (n:Nat) (xs:List AV) (r:Ret):Prop:=∃ (a0:(zO8×List Nd)) (y0:List Nd) (y1:Int),zDo n a0=some (y0,y1)/\xs=[.agg ((zAp a0).map .s)]/\r = .val (.tup [.s (.sl 4 (Nd.encs y0)),.s (.int .i64 y1)])
def zGo:zAz:=zAy fun xs r=>∃ n,zJ2 n xs r
theorem zJL:PSound Tryz.prog 182 zGo:=by
 have gok:∀ f s,look? f [(53,zFS),(199,zFz),(196,zBT)]=some s->PSound Tryz.prog f s:=zAt (by
  simp only[List.forall_mem_cons]
  exact⟨zHN,zIB,zCh,by simp⟩)
 refine zAA tokW Tryz.call182 Tryz.func182 rfl (fun xs r h=>by obtain⟨n,_,_,_,_,rfl,_⟩:=h; show 1<=39; decide) 39 rfl ?_;rintro xs r w0 G0 ⟨n,⟨⟨c1Al,c1Aq,c1Ag,c1Am,c1Ai,c1Aj,c1Ap,c1An⟩,c1Ah⟩,y0,y1,h,rfl,rfl⟩ _;rw[zDo]at h;refine zYe [] [] rfl ?_;show Tri ..;refine zYe [4] [8] rfl ?_;obtain⟨⟨e2A,e2B,e2D,e2C⟩,he2,h⟩:=zAc h;refine And.intro (zAB Nd.encs_eq he2).1 ?_;intro r3 hr3;obtain rfl:[.int .i64 e2A,.str e2B,.int .i64 e2D,.sl 4 (Nd.encs e2C)]=r3:=(hr3.trans (zAB Nd.encs_eq he2).2.1).symm
 obtain⟨⟨y4A,y4B,y4D,y4C⟩,hy4,h⟩:=zAc h;refine⟨_,_,⟨_,_,hy4,rfl,rfl,rfl,rfl⟩,?_⟩
 show Tri ..;refine zAa ?_;refine zAQ [] [28] [1,19,21] rfl (by decide +kernel) ?_;obtain⟨hq,h⟩:=zAK h;refine And.intro ⟨hq.1,hq.2.1,Int.le_trans hq.2.2 (Int.ofNat_le.2 (Nat.le_of_eq (rlen Nd.encs_eq _).symm))⟩ ?_;intro r5 hr5;obtain rfl:Nd.encs ((c1Ah.take (IntKind.i64.wrap (c1Ag+c1Am)).toNat).drop c1Ag.toNat)=r5:=(hr5.trans (rcut Nd.encs_eq _ _ _)).symm;obtain⟨y6,hy6,h⟩:=zAc h;refine⟨_,⟨_,_,hy6,rfl,rfl⟩,?_⟩
 obtain⟨⟨e7A,e7B,e7D,e7C⟩,he7,h⟩:=zAc h;refine And.intro (zAB Nd.encs_eq he7).1 ?_;have hset8:=(rset (R:=Nd.encs) (f:=Nd.enc) Nd.encs_eq he7 (Nd.mk e7A e7B e7D y6) 3 4 [.sl 4 (Nd.encs y6)] rfl)
 have hat8:=at_set he7 (Nd.mk e7A e7B e7D y6)
 refine And.intro (zAB Nd.encs_eq he7).2.2 ?_;show Tri ..
 refine zAk (Le.trans (Le.trans (Le.trans (Le.rnm [(1,0),(0,1)] [(1,.s (.pt [.int .i64 c1Al,.sl 1 ((List.map (irow .i64)) c1Aq),.int .i64 c1Ag,.int .i64 c1Am,.sl 4 (Nd.encs c1Ai),.int .i64 c1Aj,.str c1Ap,.str c1An,.sl 4 (Nd.encs c1Ah)])),(4,.op 0 0)] [(0,.box 24 [.s (.int .i64 y4A),.s (.str y4B),.s (.int .i64 y4D),.orow 1]),(1,.row 24 4 (Nd.encs (y4C.set c1Aj.toNat (Nd.mk e7A e7B e7D y6))))] 2 ⟨rfl,rfl,trivial⟩ ⟨rfl,⟨_,rfl,rfl⟩,rfl,⟨_,rfl,congrArg (Ob.row 24 4) hset8⟩,trivial⟩) (Le.giveRow 1 rfl)) (Le.rnm [(0,0)] [(1,.s (.pt [.int .i64 c1Al,.sl 1 ((List.map (irow .i64)) c1Aq),.int .i64 c1Ag,.int .i64 c1Am,.sl 4 (Nd.encs c1Ai),.int .i64 c1Aj,.str c1Ap,.str c1An,.sl 4 (Nd.encs c1Ah)])),(4,.op 0 0)] [(0,.box 24 [.s (.int .i64 y4A),.s (.str y4B),.s (.int .i64 y4D),.s (.sl 4 (Nd.encs (y4C.set c1Aj.toNat (Nd.mk e7A e7B e7D y6))))])] 1 ⟨rfl,rfl,trivial⟩ ⟨rfl,⟨_,rfl,rfl⟩,trivial⟩)) (Le.giveBox 0 [.int .i64 y4A,.str y4B,.int .i64 y4D,.sl 4 (Nd.encs (y4C.set c1Aj.toNat (Nd.mk e7A e7B e7D y6)))] rfl rfl)) ?_
 refine zYe [] [37] rfl ?_;intro r9 hr9;obtain rfl:Nd.encs [Nd.mk y4A y4B y4D (y4C.set c1Aj.toNat (Nd.mk e7A e7B e7D y6))]=r9:=(hr9.trans (by simp[List.map_append,List.map_take,List.map_drop,irow,brow,zAG,List.map_cons,List.map_nil,zAC,Nd.encs_eq,Nd.enc,CV.encs_eq,CV.enc,zAq,zAm,zAx,zAr,zAp])).symm;obtain⟨y10,hy10,h⟩:=zAc h;refine⟨_,⟨_,_,_,_,_,hy10,rfl,rfl⟩,?_⟩
 show Tri ..;refine zAe ?_;obtain⟨hj1,hk1⟩:=pij h;subst hj1 hk1;unfold zAw;exact⟨_,Le.refl _ _,rfl,rfl⟩
def zIR (n:Nat) (xs:List AV) (r:Ret):Prop:=∃ (a0:(zO8×List Nd)) (y0:List Nd) (y1:Int),zCK n a0=some (y0,y1)/\xs=[.agg ((zAp a0).map .s)]/\r = .val (.tup [.s (.sl 4 (Nd.encs y0)),.s (.int .i64 y1)])
def zFu:zAz:=zAy fun xs r=>∃ n,zIR n xs r
theorem zIr:PSound Tryz.prog 180 zFu:=by
 have gok:∀ f s,look? f [(196,zBT)]=some s->PSound Tryz.prog f s:=zAt (by
  simp only[List.forall_mem_cons]
  exact⟨zCh,by simp⟩)
 refine zAA tokW Tryz.call180 Tryz.func180 rfl (fun xs r h=>by obtain⟨n,_,_,_,_,rfl,_⟩:=h; show 1<=9; decide) 9 rfl ?_;rintro xs r w0 G0 ⟨n,⟨⟨c1Al,c1Aq,c1Ag,c1Am,c1Ai,c1Aj,c1Ap,c1An⟩,c1Ah⟩,y0,y1,h,rfl,rfl⟩ _;rw[zCK]at h;refine zYe [] [] rfl ?_;show Tri ..;refine zYe [] [] rfl ?_;obtain⟨y2,hy2,h⟩:=zAc h;refine⟨_,⟨_,_,_,_,_,hy2,rfl,rfl⟩,?_⟩
 show Tri ..;refine zAe ?_;obtain⟨hj1,hk1⟩:=pij h;subst hj1 hk1;unfold zAw;exact⟨_,Le.refl _ _,rfl,rfl⟩
def zIS (n:Nat) (xs:List AV) (r:Ret):Prop:=∃ (a0:(zO8×List Nd)) (y0:List Nd) (y1:Int),zCL n a0=some (y0,y1)/\xs=[.agg ((zAp a0).map .s)]/\r = .val (.tup [.s (.sl 4 (Nd.encs y0)),.s (.int .i64 y1)])
def zFv:zAz:=zAy fun xs r=>∃ n,zIS n xs r
theorem zIs:PSound Tryz.prog 181 zFv:=by
 have gok:∀ f s,look? f [(197,zEm),(196,zBT)]=some s->PSound Tryz.prog f s:=zAt (by
  simp only[List.forall_mem_cons]
  exact⟨zGV,zCh,by simp⟩)
 refine zAA tokW Tryz.call181 Tryz.func181 rfl (fun xs r h=>by obtain⟨n,_,_,_,_,rfl,_⟩:=h; show 1<=28; decide) 28 rfl ?_;rintro xs r w0 G0 ⟨n,⟨⟨c1Al,c1Aq,c1Ag,c1Am,c1Ai,c1Aj,c1Ap,c1An⟩,c1Ah⟩,y0,y1,h,rfl,rfl⟩ _;rw[zCL]at h;refine zYe [] [] rfl ?_;show Tri ..;refine zYe [] [8] rfl ?_;intro n2 hn2;obtain rfl:(c1Ai.length:Int)=n2:=(hn2.trans (congrArg (fun m:Nat=>(m:Int)) (rlen Nd.encs_eq c1Ai))).symm;show Tri ..;refine zAa ?_;refine zAa ?_;refine zAQ [] [19] [] rfl (by decide +kernel) ?_
 obtain⟨hq,h⟩:=zAK h;refine And.intro ⟨hq.1,hq.2.1,Int.le_trans hq.2.2 (Int.ofNat_le.2 (Nat.le_of_eq (rlen Nd.encs_eq _).symm))⟩ ?_;intro r3 hr3;obtain rfl:Nd.encs ((c1Ah.take (IntKind.i64.wrap (c1Ag+(c1Ai.length:Int))).toNat).drop c1Ag.toNat)=r3:=(hr3.trans (rcut Nd.encs_eq _ _ _)).symm;obtain⟨y4,hy4,h⟩:=zAc h;refine⟨_,⟨_,_,_,_,hy4,rfl,rfl⟩,?_⟩
 show Tri ..;refine zAh rfl h (fun hb h=>?_) (fun hb h=>?_)
 ·refine zYe [] [] rfl ?_;show Tri ..;refine zAe ?_;obtain⟨hj1,hk1⟩:=pij h;subst hj1 hk1;unfold zAw;exact⟨_,Le.refl _ _,rfl,rfl⟩
 ·refine zAf ?_;show Tri ..;refine zYe [] [] rfl ?_;obtain⟨y5,hy5,h⟩:=zAc h;refine⟨_,⟨_,_,_,_,_,hy5,rfl,rfl⟩,?_⟩
  show Tri ..;refine zAe ?_;obtain⟨hj1,hk1⟩:=pij h;subst hj1 hk1;unfold zAw;exact⟨_,Le.refl _ _,rfl,rfl⟩
def zKN (n:Nat) (xs:List AV) (r:Ret):Prop:=∃ (a0:(zO8×List Nd)) (y0:List Nd) (y1:Int),zDL n a0=some (y0,y1)/\xs=[.agg ((zAp a0).map .s)]/\r = .val (.tup [.s (.sl 4 (Nd.encs y0)),.s (.int .i64 y1)])
def zG1:zAz:=zAy fun xs r=>∃ n,zKN n xs r
theorem zKv:PSound Tryz.prog 184 zG1:=by
 have gok:∀ f s,look? f [(196,zBT)]=some s->PSound Tryz.prog f s:=zAt (by
  simp only[List.forall_mem_cons]
  exact⟨zCh,by simp⟩)
 refine zAA tokW Tryz.call184 Tryz.func184 rfl (fun xs r h=>by obtain⟨n,_,_,_,_,rfl,_⟩:=h; show 1<=34; decide) 34 rfl ?_;rintro xs r w0 G0 ⟨n,⟨⟨c1Al,c1Aq,c1Ag,c1Am,c1Ai,c1Aj,c1Ap,c1An⟩,c1Ah⟩,y0,y1,h,rfl,rfl⟩ _;rw[zDL]at h;refine zYe [] [] rfl ?_;show Tri ..;refine zYe [4] [10] rfl ?_;obtain⟨⟨e2A,e2B,e2D,e2C⟩,he2,h⟩:=zAc h;refine And.intro (zAB Nd.encs_eq he2).1 ?_;intro r3 hr3;obtain rfl:[.int .i64 e2A,.str e2B,.int .i64 e2D,.sl 4 (Nd.encs e2C)]=r3:=(hr3.trans (zAB Nd.encs_eq he2).2.1).symm
 show Tri ..;refine zAa ?_;refine zYe [] [] rfl ?_;show Tri ..;obtain⟨fl,hj,ho1⟩:=zAc h;refine zBt (fl:=fl) (fun z=>match z with | _=>⟨ofL [(1,.s (.pt [.int .i64 c1Al,.sl 1 ((List.map (irow .i64)) c1Aq),.int .i64 c1Ag,.int .i64 c1Am,.sl 4 (Nd.encs c1Ai),.int .i64 c1Aj,.str c1Ap,.str c1An,.sl 4 (Nd.encs c1Ah)])),(4,.op 0 0)],ofH [(0,.box 24 [.s (.int .i64 e2A),.s (.str e2B),.s (.int .i64 e2D),.s (.sl 4 (Nd.encs e2C))])],1⟩) ?_ (fun z σ' hz hle=>?_)
 ·replace h:=hj;refine zAl ?_;refine zAa ?_;refine zYe [] [] rfl ?_;show Tri ..;obtain⟨x4,hj,h⟩:=zAc h;refine zAv ⟨ofL [(1,.s (.pt [.int .i64 c1Al,.sl 1 ((List.map (irow .i64)) c1Aq),.int .i64 c1Ag,.int .i64 c1Am,.sl 4 (Nd.encs c1Ai),.int .i64 c1Aj,.str c1Ap,.str c1An,.sl 4 (Nd.encs c1Ah)])),(4,.op 0 0),(14,.s (.bool x4))],ofH [(0,.box 24 [.s (.int .i64 e2A),.s (.str e2B),.s (.int .i64 e2D),.s (.sl 4 (Nd.encs e2C))])],1⟩ ?_ (fun σ' hle=>?_)
  ·replace h:=hj;refine zAh rfl h (fun hb h=>?_) (fun hb h=>?_)
   ·refine zAf ?_;cases h;exact(Le.rnm [(0,0)] _ _ _ ⟨rfl,rfl,rfl,trivial⟩ ⟨rfl,⟨_,rfl,rfl⟩,trivial⟩)
   ·refine zYe [] [] rfl ?_;show Tri ..;refine zAh rfl h (fun hb h=>?_) (fun hb h=>?_)
    ·refine zAf ?_;cases h;exact(Le.rnm [(0,0)] _ _ _ ⟨rfl,rfl,rfl,trivial⟩ ⟨rfl,⟨_,rfl,rfl⟩,trivial⟩)
    ·refine zYe [] [] rfl ?_;show Tri ..;refine zAh rfl h (fun hb h=>?_) (fun hb h=>?_)
     ·refine zAf ?_;cases h;exact(Le.rnm [(0,0)] _ _ _ ⟨rfl,rfl,rfl,trivial⟩ ⟨rfl,⟨_,rfl,rfl⟩,trivial⟩)
     ·refine zYe [] [] rfl ?_;show Tri ..;refine zAh rfl h (fun hb h=>?_) (fun hb h=>?_)
      ·refine zAf ?_;cases h;exact(Le.rnm [(0,0)] _ _ _ ⟨rfl,rfl,rfl,trivial⟩ ⟨rfl,⟨_,rfl,rfl⟩,trivial⟩)
      ·refine zAb [] [] rfl ?_;cases h;exact(Le.rnm [(0,0)] _ _ _ ⟨rfl,rfl,rfl,trivial⟩ ⟨rfl,⟨_,rfl,rfl⟩,trivial⟩)
  ·show Tri ..;refine zAk hle ?_;refine zAh rfl h (fun hb h=>?_) (fun hb h=>?_)
   ·refine zAf ?_;cases h;exact⟨_,rfl,(Le.rnm [(0,0)] _ _ _ ⟨rfl,rfl,trivial⟩ ⟨rfl,⟨_,rfl,rfl⟩,trivial⟩)⟩
   ·refine zYe [] [] rfl ?_;show Tri ..;refine zAe ?_;cases h;replace h:some _=some _:=ho1;obtain⟨hj1,hk1⟩:=pij h;subst hj1 hk1;unfold zAw;exact⟨_,Le.refl _ _,rfl,rfl⟩
 ·subst hz;obtain _:=z;replace h:=ho1;show Tri ..;refine zAk hle ?_;refine zAa ?_;refine zYe [] [] rfl ?_;show Tri ..;refine zAh rfl h (fun hb h=>?_) (fun hb h=>?_)
  ·refine zYe [] [] rfl ?_;show Tri ..;refine zAe ?_;obtain⟨hj1,hk1⟩:=pij h;subst hj1 hk1;unfold zAw;exact⟨_,Le.refl _ _,rfl,rfl⟩
  ·refine zAf ?_;show Tri ..;refine zYe [] [] rfl ?_;show Tri ..;refine zYe [] [32] rfl ?_;intro r5 hr5;obtain rfl:Nd.encs [Nd.mk e2A c1An e2D e2C]=r5:=(hr5.trans (by simp[List.map_append,List.map_take,List.map_drop,irow,brow,zAG,List.map_cons,List.map_nil,zAC,Nd.encs_eq,Nd.enc,CV.encs_eq,CV.enc,zAq,zAm,zAx,zAr,zAp])).symm;obtain⟨y6,hy6,h⟩:=zAc h;refine⟨_,⟨_,_,_,_,_,hy6,rfl,rfl⟩,?_⟩
   show Tri ..;refine zAe ?_;obtain⟨hj1,hk1⟩:=pij h;subst hj1 hk1;unfold zAw;exact⟨_,Le.refl _ _,rfl,rfl⟩
def zIQ (xs:List AV) (r:Ret):Prop:=∃ (a0:(zO8×List Nd)) (y0:Int),zBZ a0=some y0/\xs=[.agg ((zAp a0).map .s)]/\r = .val (.s (.int .i64 y0))
def zFt:zAz:=zAy fun xs r=>zIQ xs r
theorem zIq:PSound Tryz.prog 179 zFt:=by
 have gok:=@gok0 Tryz.prog;refine zAA tokW Tryz.call179 Tryz.func179 rfl (fun xs r h=>by obtain⟨_,_,_,rfl,_⟩:=h; show 1<=44; decide) 44 rfl ?_;rintro xs r w0 G0 ⟨⟨⟨c1Al,c1Aq,c1Ag,c1Am,c1Ai,c1Aj,c1Ap,c1An⟩,c1Ah⟩,y0,h,rfl,rfl⟩ _;rw[zBZ]at h;refine zYe [] [] rfl ?_;show Tri ..;refine zYe [] [] rfl ?_;show Tri ..;refine zAa ?_;refine zYe [] [] rfl ?_;show Tri ..;obtain⟨need2,hj,h⟩:=zAc h
 refine zAv ⟨ofL [(1,.s (.pt [.int .i64 c1Al,.sl 1 ((List.map (irow .i64)) c1Aq),.int .i64 c1Ag,.int .i64 c1Am,.sl 4 (Nd.encs c1Ai),.int .i64 c1Aj,.str c1Ap,.str c1An,.sl 4 (Nd.encs c1Ah)])),(3,.s (.int .i64 need2))],fun _=>none,0⟩ ?_ (fun σ' hle=>?_)
 ·replace h:=hj;refine zAl ?_;refine zYe [] [] rfl ?_;show Tri ..;refine zAh rfl h (fun hb h=>?_) (fun hb h=>?_)
  ·refine zAb [] [] rfl ?_;cases h;exact(Le.forget _ ⟨rfl,rfl,trivial⟩)
  ·refine zYe [] [] rfl ?_;show Tri ..;refine zAh rfl h (fun hb h=>?_) (fun hb h=>?_)
   ·refine zAb [] [14] rfl ?_;intro n3 hn3;obtain rfl:(c1Ai.length:Int)=n3:=(hn3.trans (congrArg (fun m:Nat=>(m:Int)) (rlen Nd.encs_eq c1Ai))).symm;cases h;exact(Le.forget _ ⟨rfl,rfl,trivial⟩)
   ·refine zYe [] [] rfl ?_;show Tri ..;refine zAh rfl h (fun hb h=>?_) (fun hb h=>?_)
    ·refine zAb [] [] rfl ?_;cases h;exact(Le.forget _ ⟨rfl,rfl,trivial⟩)
    ·refine zAf ?_;cases h;exact(Le.forget _ ⟨rfl,rfl,trivial⟩)
 ·show Tri ..;refine zAk hle ?_;refine zAa ?_;refine zAa ?_;obtain⟨x4,hj,h⟩:=zAc h;refine zAv ⟨ofL [(43,.s (.bool x4))],fun _=>none,0⟩ ?_ (fun σ' hle=>?_)
  ·replace h:=hj;refine zAb [] [24,30,33,37] rfl ?_;intro b hb;cases b with
   | true =>
    replace h:=zAE hb.symm h;intro b hb;subst hb;cases h;exact(Le.forget _ ⟨rfl,trivial⟩)
   | false =>
    replace h:=zAD hb.symm h;intro n5 hn5;obtain rfl:(c1Ah.length:Int)=n5:=(hn5.trans (congrArg (fun m:Nat=>(m:Int)) (rlen Nd.encs_eq c1Ah))).symm;intro b hb;cases b with
    | true =>
     replace h:=zAE hb.symm h;cases h;exact(Le.forget _ ⟨rfl,trivial⟩)
    | false =>
     replace h:=zAD hb.symm h;intro n6 hn6;obtain rfl:(c1Ah.length:Int)=n6:=(hn6.trans (congrArg (fun m:Nat=>(m:Int)) (rlen Nd.encs_eq c1Ah))).symm;cases h;exact(Le.forget _ ⟨rfl,trivial⟩)
  ·show Tri ..;refine zAk hle ?_;refine zAh rfl h (fun hb h=>?_) (fun hb h=>?_)
   ·refine zYe [] [] rfl ?_;show Tri ..;refine zAe ?_;have hy:=Option.some.inj h;subst hy;unfold zAw;exact⟨_,Le.refl _ _,rfl,rfl⟩
   ·refine zAf ?_;show Tri ..;refine zYe [] [] rfl ?_;show Tri ..;refine zAe ?_;have hy:=Option.some.inj h;subst hy;unfold zAw;exact⟨_,Le.refl _ _,rfl,rfl⟩
def zLO (n:Nat) (xs:List AV) (r:Ret):Prop:=∃ (a0:List Nd) (a1:Int) (y0:Bool),zDc n a0 a1=some y0/\xs=[.s (.sl 4 (Nd.encs a0)),.s (.int .i64 a1)]/\r = .val (.s (.bool y0))
def zHI:zAz:=zAy fun xs r=>∃ n,zLO n xs r
theorem zK0:PSound Tryz.prog 177 zHI:=by
 have gok:∀ f s,look? f [(176,zET),(195,zGt)]=some s->PSound Tryz.prog f s:=zAt (by
  simp only[List.forall_mem_cons]
  exact⟨zGy,zHE,by simp⟩)
 refine zAA tokW Tryz.call177 Tryz.func177 rfl (fun xs r h=>by obtain⟨n,_,_,_,_,rfl,_⟩:=h; show 2<=35; decide) 35 rfl ?_;rintro xs r w0 G0 ⟨n,l1,slot2,y0,h,rfl,rfl⟩ _;rw[zDc]at h;refine zYe [] [] rfl ?_;show Tri ..;refine zAa ?_;refine zAa ?_;obtain⟨x3,hj,h⟩:=zAc h;refine zAv ⟨ofL [(0,.s (.sl 4 (Nd.encs l1))),(1,.s (.int .i64 slot2)),(24,.s (.bool x3))],fun _=>none,0⟩ ?_ (fun σ' hle=>?_)
 ·replace h:=hj;refine zAb [] [6,8,13,17,20] rfl ?_;intro n4 hn4;obtain rfl:(l1.length:Int)=n4:=(hn4.trans (congrArg (fun m:Nat=>(m:Int)) (rlen Nd.encs_eq l1))).symm;intro b hb;cases b with
  | true =>
   replace h:=zAE hb.symm h;intro b hb;subst hb;intro b hb;subst hb;cases h;exact(Le.forget _ ⟨rfl,rfl,rfl,trivial⟩)
  | false =>
   replace h:=zAD hb.symm h;obtain⟨y5,hy5,h⟩:=zAc h;refine⟨_,⟨_,_,_,hy5,rfl,rfl⟩,?_⟩
   intro b hb;cases b with
   | true =>
    replace h:=zAE hb.symm h;intro b hb;subst hb;cases h;exact(Le.forget _ ⟨rfl,rfl,rfl,trivial⟩)
   | false =>
    replace h:=zAD hb.symm h;intro b hb;cases b with
    | true =>
     replace h:=zAE hb.symm h;cases h;exact(Le.forget _ ⟨rfl,rfl,rfl,trivial⟩)
    | false =>
     replace h:=zAD hb.symm h;obtain⟨⟨e6A,e6B,e6D,e6C⟩,he6,h⟩:=zAc h;refine And.intro (zAB Nd.encs_eq he6).1 ?_;intro r7 hr7;obtain rfl:[.int .i64 e6A,.str e6B,.int .i64 e6D,.sl 4 (Nd.encs e6C)]=r7:=(hr7.trans (zAB Nd.encs_eq he6).2.1).symm;obtain⟨y8,hy8,h⟩:=zAc h;refine⟨_,⟨_,_,hy8,rfl,rfl⟩,?_⟩
     cases h;exact(Le.forget _ ⟨rfl,rfl,rfl,trivial⟩)
 ·show Tri ..;refine zAk hle ?_;refine zAh rfl h (fun hb h=>?_) (fun hb h=>?_)
  ·refine zYe [] [] rfl ?_;show Tri ..;refine zAe ?_;have hy:=Option.some.inj h;subst hy;unfold zAw;exact⟨_,Le.refl _ _,rfl,rfl⟩
  ·refine zAf ?_;show Tri ..;refine zYe [] [26,30,33] rfl ?_;obtain⟨⟨e9A,e9B,e9D,e9C⟩,he9,h⟩:=zAc h;refine And.intro (zAB Nd.encs_eq he9).1 ?_;intro r10 hr10;obtain rfl:[.int .i64 e9A,.str e9B,.int .i64 e9D,.sl 4 (Nd.encs e9C)]=r10:=(hr10.trans (zAB Nd.encs_eq he9).2.1).symm;obtain⟨⟨e11A,e11B,e11D,e11C⟩,he11,h⟩:=zAc h;refine And.intro (zAB Nd.encs_eq he11).1 ?_;intro r12 hr12;obtain rfl:[.int .i64 e11A,.str e11B,.int .i64 e11D,.sl 4 (Nd.encs e11C)]=r12:=(hr12.trans (zAB Nd.encs_eq he11).2.1).symm;intro n13 hn13
   obtain rfl:(e11C.length:Int)=n13:=(hn13.trans (congrArg (fun m:Nat=>(m:Int)) (rlen Nd.encs_eq e11C))).symm;show Tri ..;refine zAe ?_;have hy:=Option.some.inj h;subst hy;unfold zAw;exact⟨_,Le.refl _ _,rfl,rfl⟩
def zAi (p:zO8):List S:=[.int .i64 p.1,.sl 1 ((List.map (irow .i64)) p.2.1),.int .i64 p.2.2.1,.int .i64 p.2.2.2.1,.sl 4 (Nd.encs p.2.2.2.2.1),.int .i64 p.2.2.2.2.2.1,.str p.2.2.2.2.2.2.1,.str p.2.2.2.2.2.2.2]
def zPk (n:Nat) (xs:List AV) (r:Ret):Prop:=∃ (a0:zO8) (y0:Bool),zEz n a0=some y0/\xs=[.agg ((zAi a0).map .s)]/\r = .val (.s (.bool y0))
def zKa:zAz:=zAy fun xs r=>∃ n,zPk n xs r
theorem zN5:PSound Tryz.prog 145 zKa:=by
 have gok:∀ f s,look? f [(176,zET),(177,zHI)]=some s->PSound Tryz.prog f s:=zAt (by
  simp only[List.forall_mem_cons]
  exact⟨zGy,zK0,by simp⟩)
 refine zAA tokW Tryz.call145 Tryz.func145 rfl (fun xs r h=>by obtain⟨n,_,_,_,rfl,_⟩:=h; show 1<=80; decide) 80 rfl ?_;rintro xs r w0 G0 ⟨n,⟨a1A,a1U,a1T,a1Z,a1S,a1X,a1Y,a1B⟩,y0,h,rfl,rfl⟩ _;rw[zEz]at h;refine zYe [] [] rfl ?_;show Tri ..;refine zAa ?_;obtain⟨x2,hj,h⟩:=zAc h;refine zAv ⟨ofL [(1,.s (.pt [.int .i64 a1A,.sl 1 ((List.map (irow .i64)) a1U),.int .i64 a1T,.int .i64 a1Z,.sl 4 (Nd.encs a1S),.int .i64 a1X,.str a1Y,.str a1B])),(3,.s (.bool x2))],fun _=>none,0⟩ ?_ (fun σ' hle=>?_)
 ·replace h:=hj;refine zAb [] [7] rfl ?_;intro b hb;cases b with
  | true =>
   replace h:=zAE hb.symm h;cases h;exact(Le.forget _ ⟨rfl,rfl,trivial⟩)
  | false =>
   replace h:=zAD hb.symm h;cases h;exact(Le.forget _ ⟨rfl,rfl,trivial⟩)
 ·show Tri ..;refine zAk hle ?_;refine zAa ?_;refine zYe [] [] rfl ?_;show Tri ..;obtain⟨fl,hj,ho1⟩:=zAc h;refine zBt (fl:=fl) (fun z=>match z with | _=>⟨ofL [],fun _=>none,0⟩) ?_ (fun z σ' hz hle=>?_)
  ·replace h:=hj;refine zAl ?_;refine zAa ?_;refine zYe [] [] rfl ?_;show Tri ..;obtain⟨x3,hj,h⟩:=zAc h;refine zAv ⟨ofL [(1,.s (.pt [.int .i64 a1A,.sl 1 ((List.map (irow .i64)) a1U),.int .i64 a1T,.int .i64 a1Z,.sl 4 (Nd.encs a1S),.int .i64 a1X,.str a1Y,.str a1B])),(3,.s (.bool x2)),(13,.s (.int .i64 a1A)),(14,.s (.bool x3))],fun _=>none,0⟩ ?_ (fun σ' hle=>?_)
   ·replace h:=hj;refine zAh rfl h (fun hb h=>?_) (fun hb h=>?_)
    ·refine zAf ?_;cases h;exact(Le.forget _ ⟨rfl,rfl,rfl,rfl,trivial⟩)
    ·refine zAb [] [] rfl ?_;cases h;exact(Le.forget _ ⟨rfl,rfl,rfl,rfl,trivial⟩)
   ·show Tri ..;refine zAk hle ?_;refine zAh rfl h (fun hb h=>?_) (fun hb h=>?_)
    ·refine zAa ?_;obtain⟨x4,hj,h⟩:=zAc h;refine zAv ⟨ofL [(2,.s (.bool x4))],fun _=>none,0⟩ ?_ (fun σ' hle=>?_)
     ·replace h:=hj;refine zAb [] [20,25,29,32,35] rfl ?_;intro b hb;cases b with
      | true =>
       replace h:=zAE hb.symm h;intro b hb;cases b with
       | true =>
        replace h:=zAE hb.symm h;intro b hb;cases b with
        | true =>
         replace h:=zAE hb.symm h;intro n5 hn5;obtain rfl:(a1S.length:Int)=n5:=(hn5.trans (congrArg (fun m:Nat=>(m:Int)) (rlen Nd.encs_eq a1S))).symm;intro b hb;cases b with
         | true =>
          replace h:=zAE hb.symm h;obtain⟨y6,hy6,h⟩:=zAc h;refine⟨_,⟨_,_,_,hy6,rfl,rfl⟩,?_⟩
          cases h;exact(Le.forget _ ⟨rfl,trivial⟩)
         | false =>
          replace h:=zAD hb.symm h;cases h;exact(Le.forget _ ⟨rfl,trivial⟩)
        | false =>
         replace h:=zAD hb.symm h;intro b hb;subst hb;cases h;exact(Le.forget _ ⟨rfl,trivial⟩)
       | false =>
        replace h:=zAD hb.symm h;intro b hb;subst hb;intro b hb;subst hb;cases h;exact(Le.forget _ ⟨rfl,trivial⟩)
      | false =>
       replace h:=zAD hb.symm h;intro b hb;subst hb;intro b hb;subst hb;intro b hb;subst hb;cases h;exact(Le.forget _ ⟨rfl,trivial⟩)
     ·show Tri ..;refine zAk hle ?_;refine zAe ?_;cases h;replace h:some _=some _:=ho1;have hy:=Option.some.inj h;subst hy;unfold zAw;exact⟨_,Le.refl _ _,rfl,rfl⟩
    ·refine zAa ?_;refine zYe [] [] rfl ?_;show Tri ..;obtain⟨x7,hj,h⟩:=zAc h;refine zAv ⟨ofL [(1,.s (.pt [.int .i64 a1A,.sl 1 ((List.map (irow .i64)) a1U),.int .i64 a1T,.int .i64 a1Z,.sl 4 (Nd.encs a1S),.int .i64 a1X,.str a1Y,.str a1B])),(3,.s (.bool x2)),(13,.s (.int .i64 a1A)),(40,.s (.bool x7))],fun _=>none,0⟩ ?_ (fun σ' hle=>?_)
     ·replace h:=hj;refine zAh rfl h (fun hb h=>?_) (fun hb h=>?_)
      ·refine zAf ?_;cases h;exact(Le.forget _ ⟨rfl,rfl,rfl,rfl,trivial⟩)
      ·refine zAb [] [] rfl ?_;cases h;exact(Le.forget _ ⟨rfl,rfl,rfl,rfl,trivial⟩)
     ·show Tri ..;refine zAk hle ?_;refine zAh rfl h (fun hb h=>?_) (fun hb h=>?_)
      ·refine zAa ?_;obtain⟨x8,hj,h⟩:=zAc h;refine zAv ⟨ofL [(2,.s (.bool x8))],fun _=>none,0⟩ ?_ (fun σ' hle=>?_)
       ·replace h:=hj;refine zAb [] [46,50] rfl ?_;intro b hb;cases b with
        | true =>
         replace h:=zAE hb.symm h;intro b hb;cases b with
         | true =>
          replace h:=zAE hb.symm h;obtain⟨y9,hy9,h⟩:=zAc h;refine⟨_,⟨_,_,_,_,hy9,rfl,rfl⟩,?_⟩
          cases h;exact(Le.forget _ ⟨rfl,trivial⟩)
         | false =>
          replace h:=zAD hb.symm h;cases h;exact(Le.forget _ ⟨rfl,trivial⟩)
        | false =>
         replace h:=zAD hb.symm h;intro b hb;subst hb;cases h;exact(Le.forget _ ⟨rfl,trivial⟩)
       ·show Tri ..;refine zAk hle ?_;refine zAe ?_;cases h;replace h:some _=some _:=ho1;have hy:=Option.some.inj h;subst hy;unfold zAw;exact⟨_,Le.refl _ _,rfl,rfl⟩
      ·refine zYe [] [] rfl ?_;show Tri ..;refine zAh rfl h (fun hb h=>?_) (fun hb h=>?_)
       ·refine zAa ?_;obtain⟨x10,hj,h⟩:=zAc h;refine zAv ⟨ofL [(2,.s (.bool x10))],fun _=>none,0⟩ ?_ (fun σ' hle=>?_)
        ·replace h:=hj;refine zAb [] [62,67,70,73] rfl ?_;intro b hb;cases b with
         | true =>
          replace h:=zAE hb.symm h;intro b hb;cases b with
          | true =>
           replace h:=zAE hb.symm h;intro n11 hn11;obtain rfl:(a1S.length:Int)=n11:=(hn11.trans (congrArg (fun m:Nat=>(m:Int)) (rlen Nd.encs_eq a1S))).symm;intro b hb;cases b with
           | true =>
            replace h:=zAE hb.symm h;cases h;exact(Le.forget _ ⟨rfl,trivial⟩)
           | false =>
            replace h:=zAD hb.symm h;cases h;exact(Le.forget _ ⟨rfl,trivial⟩)
          | false =>
           replace h:=zAD hb.symm h;intro b hb;subst hb;cases h;exact(Le.forget _ ⟨rfl,trivial⟩)
         | false =>
          replace h:=zAD hb.symm h;intro b hb;subst hb;intro b hb;subst hb;cases h;exact(Le.forget _ ⟨rfl,trivial⟩)
        ·show Tri ..;refine zAk hle ?_;refine zAe ?_;cases h;replace h:some _=some _:=ho1;have hy:=Option.some.inj h;subst hy;unfold zAw;exact⟨_,Le.refl _ _,rfl,rfl⟩
       ·refine zAf ?_;cases h;exact⟨_,rfl,(Le.forget _ trivial)⟩
  ·subst hz;obtain _:=z;replace h:=ho1;show Tri ..;refine zAk hle ?_;refine zYe [] [] rfl ?_;show Tri ..;refine zAe ?_;have hy:=Option.some.inj h;subst hy;unfold zAw;exact⟨_,Le.refl _ _,rfl,rfl⟩
def zSh (xs:List AV) (r:Ret):Prop:=∃ (a0:List Int) (y0:List Int),zDy a0=some y0/\xs=[.s (.sl 1 ((List.map (irow .i64)) a0))]/\r = .val (.s (.sl 1 ((List.map (irow .i64)) y0)))
def zJB:zAz:=zAy fun xs r=>zSh xs r
theorem zLC:PSound Tryz.prog 134 zJB:=by
 have gok:∀ f s,look? f [(168,zFY)]=some s->PSound Tryz.prog f s:=zAt (by
  simp only[List.forall_mem_cons]
  exact⟨zI0,by simp⟩)
 refine zAA tokW Tryz.call134 Tryz.func134 rfl (fun xs r h=>by obtain⟨_,_,_,rfl,_⟩:=h; show 1<=5; decide) 5 rfl ?_;rintro xs r w0 G0 ⟨l1,y0,h,rfl,rfl⟩ _;rw[zDy]at h;refine zYe [] [] rfl ?_;show Tri ..;refine zYe [] [] rfl ?_;obtain⟨y2,hy2,h⟩:=zAc h;refine⟨_,⟨_,_,hy2,rfl,rfl⟩,?_⟩
 show Tri ..;refine zAe ?_;have hy:=Option.some.inj h;subst hy;unfold zAw;exact⟨_,Le.refl _ _,rfl,rfl⟩
def zQx (n:Nat) (xs:List AV) (r:Ret):Prop:=∃ (a0:List Nd) (y0:List Nd),zFd n a0=some y0/\xs=[.s (.sl 4 (Nd.encs a0))]/\r = .row 24 4 (Nd.encs y0)
def zLg:zAz:=zAy fun xs r=>∃ n,zQx n xs r
theorem zPU:PSound Tryz.prog 191 zLg:=by
 have gok:∀ f s,look? f [(53,zCX)]=some s->PSound Tryz.prog f s:=zAt (by
  simp only[List.forall_mem_cons]
  exact⟨zCW,by simp⟩)
 refine zAA tokW Tryz.call191 Tryz.func191 rfl (fun xs r h=>by obtain⟨n,_,_,_,rfl,_⟩:=h; show 1<=20; decide) 20 rfl ?_;rintro xs r w0 G0 ⟨n,l1,y0,h,rfl,rfl⟩ _;rw[zFd]at h;refine zYe [2] [] rfl ?_;show Tri ..;refine zAk (Le.rnm [] [(0,.s (.sl 4 (Nd.encs l1)))] [] 0 ⟨rfl,trivial⟩ trivial) ?_;refine zYe [3] [] rfl ?_;show Tri ..
 refine zAk (Le.rnm [(0,0)] [(0,.s (.sl 4 (Nd.encs l1))),(3,.orow 0)] [(0,.row 24 4 (Nd.encs []))] 1 ⟨rfl,rfl,trivial⟩ ⟨rfl,⟨_,rfl,congrArg (Ob.row 24 4) (by simp[List.map_append,List.map_take,List.map_drop,irow,brow,zAG,List.map_cons,List.map_nil,zAC,Nd.encs_eq,Nd.enc,CV.encs_eq,CV.enc,zAq,zAm,zAx,zAr,zAp,zAi])⟩,trivial⟩) ?_;refine zAa ?_;refine zYe [] [6] rfl ?_;intro n2 hn2;obtain rfl:(l1.length:Int)=n2:=(hn2.trans (congrArg (fun m:Nat=>(m:Int)) (rlen Nd.encs_eq l1))).symm;show Tri ..;obtain⟨l6,hl,h⟩:=zAc h
 refine zAv ⟨ofL [(3,.orow 0)],ofH [(0,.row 24 4 (Nd.encs l6))],1⟩ ?_ (fun σ' hle=>?_)
 ·refine zAl (zAF (X:=Nat×Int×(List Nd)) (fun y=>match y with | (k,x4,l5)=>⟨ofL [(0,.s (.sl 4 (Nd.encs l1))),(3,.orow 0),(6,.s (.int .i64 (l1.length:Int))),(7,.s (.int .i64 x4))],ofH [(0,.row 24 4 (Nd.encs l5))],1⟩) (fun y=>zBu l1 y.1 y.2.1 y.2.2=some l6) (fun y=>y.1) (n,0,[]) hl ?_ ?_)
  ·exact(Le.rnm [(0,0)] _ _ _ ⟨rfl,rfl,rfl,rfl,trivial⟩ ⟨rfl,⟨_,rfl,rfl⟩,trivial⟩)
  ·rintro⟨k,x4,l5⟩ h;cases k with
   | zero=>cases h
   | succ k =>
    replace h:zBu l1 (k+1) x4 l5=some l6:=h;rw[zBu]at h;refine zYe [] [] rfl ?_;show Tri ..;refine zAa ?_;refine zAh rfl h (fun hb h=>?_) (fun hb h=>?_)
    ·refine zAf ?_;show Tri ..;refine zAa ?_;refine zAl ?_;refine zYe [] [] rfl ?_;show Tri ..;refine zAb [17] [13,16] rfl ?_;obtain⟨⟨e7A,e7B,e7D,e7C⟩,he7,h⟩:=zAc h;refine And.intro (zAB Nd.encs_eq he7).1 ?_;intro r8 hr8;obtain rfl:[.int .i64 e7A,.str e7B,.int .i64 e7D,.sl 4 (Nd.encs e7C)]=r8:=(hr8.trans (zAB Nd.encs_eq he7).2.1).symm;obtain⟨⟨y9A,y9B,y9D,y9C⟩,hy9,h⟩:=zAc h;refine⟨_,⟨_,_,hy9,rfl,rfl⟩,?_⟩
     intro r10 hr10;obtain rfl:Nd.encs [Nd.mk y9A y9B y9D y9C]=r10:=(hr10.trans (by simp[List.map_append,List.map_take,List.map_drop,irow,brow,zAG,List.map_cons,List.map_nil,zAC,Nd.encs_eq,Nd.enc,CV.encs_eq,CV.enc,zAq,zAm,zAx,zAr,zAp,zAi])).symm;obtain⟨hq,h⟩:=zAK h
     refine And.intro (show((Nd.encs l5).length+(Nd.encs [Nd.mk y9A y9B y9D y9C]).length) * 56<=140737488355328/\(Nd.encs l5).length+(Nd.encs [Nd.mk y9A y9B y9D y9C]).length<=9223372036854775807 from by simp only[List.length_append,List.length_cons,List.length_nil,List.length_map,rlen Nd.encs_eq]at hq ⊢; omega) ?_;show Tri ..
     refine zAk (Le.rnm [(1,0)] [(0,.s (.sl 4 (Nd.encs l1))),(3,.orow 0),(6,.s (.int .i64 (l1.length:Int))),(7,.s (.int .i64 x4))] [(0,.row 24 4 (Nd.encs (l5++[Nd.mk y9A y9B y9D y9C])))] 1 ⟨rfl,rfl,rfl,rfl,trivial⟩ ⟨rfl,⟨_,rfl,congrArg (Ob.row 24 4) (by simp[List.map_append,List.map_take,List.map_drop,irow,brow,zAG,List.map_cons,List.map_nil,zAC,Nd.encs_eq,Nd.enc,CV.encs_eq,CV.enc,zAq,zAm,zAx,zAr,zAp,zAi])⟩,trivial⟩) ?_;refine zAb [] [] rfl ?_
     refine⟨(k,IntKind.i64.wrap (x4+1),l5++[Nd.mk y9A y9B y9D y9C]),h,(Le.rnm [(0,0)] _ _ _ ⟨rfl,rfl,rfl,rfl,trivial⟩ ⟨rfl,⟨_,rfl,rfl⟩,trivial⟩),Nat.lt_succ_self k⟩
    ·refine zAI ?_;cases h;exact(Le.rnm [(0,0)] _ _ _ ⟨rfl,trivial⟩ ⟨rfl,⟨_,rfl,rfl⟩,trivial⟩)
 ·show Tri ..;refine zAk hle ?_;refine zYe [] [] rfl ?_;show Tri ..;refine zAe ?_;have hy:=Option.some.inj h;subst hy;unfold zAw;exact⟨_,Le.refl _ _,0,rfl,rfl⟩
def zUI (n:Nat) (xs:List AV) (r:Ret):Prop:=∃ (a0:zO8) (y0:zO8),zFe n a0=some y0/\xs=[.agg ((zAi a0).map .s)]/\r = .val (.agg ((zAi y0).map .s))
def zMl:zAz:=zAy fun xs r=>∃ n,zUI n xs r
theorem zOQ:PSound Tryz.prog 166 zMl:=by
 have gok:∀ f s,look? f [(134,zJB),(191,zLg)]=some s->PSound Tryz.prog f s:=zAt (by
  simp only[List.forall_mem_cons]
  exact⟨zLC,zPU,by simp⟩)
 refine zAA tokW Tryz.call166 Tryz.func166 rfl (fun xs r h=>by obtain⟨n,_,_,_,rfl,_⟩:=h; show 1<=12; decide) 12 rfl ?_;rintro xs r w0 G0 ⟨n,⟨op1A,op1U,op1T,op1Z,op1S,op1X,op1Y,op1B⟩,y0,h,rfl,rfl⟩ _;rw[zFe]at h;refine zYe [1,2] [] rfl ?_;show Tri ..;refine zYe [] [] rfl ?_;obtain⟨y2,hy2,h⟩:=zAc h;refine⟨_,⟨_,_,hy2,rfl,rfl⟩,?_⟩
 show Tri ..;refine zYe [] [] rfl ?_;obtain⟨y3,hy3,h⟩:=zAc h;refine⟨_,⟨_,_,_,hy3,rfl,rfl⟩,?_⟩
 show Tri ..;refine zYe [] [] rfl ?_;show Tri ..;refine zAe ?_;have hy:=Option.some.inj h;subst hy;unfold zAw;exact⟨_,Le.refl _ _,rfl,rfl⟩
theorem zVu {P:Program}{f:Nat}{A B:List AV->Ret->Prop} (hA:PSound P f (zAy A)) (hB:PSound P f (zAy B)):PSound P f (zAy fun xs r=>A xs r∨B xs r) :=
 ⟨hA.1,fun G w xs vs r hl hg hp hv hs=>hs.elim (hA.2.1 G w xs vs r hl hg hp hv) (hB.2.1 G w xs vs r hl hg hp hv),fun R hR=>(by cases hR),fun R hR=>(by cases hR)⟩
theorem zS0 {P:Program}{f:Nat}{A B:List AV->Ret->Prop} (hA:PSound P f (zAy A)) (h:∀ xs r,B xs r->A xs r):PSound P f (zAy B) :=
 ⟨hA.1,fun G w xs vs r hl hg hp hv hs=>hA.2.1 G w xs vs r hl hg hp hv (h xs r hs),fun R hR=>(by cases hR),fun R hR=>(by cases hR)⟩
def zIT (n:Nat) (xs:List AV) (r:Ret):Prop:=∃ (a0:(zO8×List Nd)) (y0:List Nd) (y1:Int),zBe n a0=some (y0,y1)/\xs=[.agg ((zAp a0).map .s)]/\r = .val (.tup [.s (.sl 4 (Nd.encs y0)),.s (.int .i64 y1)])
def zFw:zAz:=zAy fun xs r=>∃ n,zIT n xs r
theorem zIt:PSound Tryz.prog 183 zFw :=
 zS0 (zVu zGl zGk) fun xs r ⟨n,a,y,z,hm,hx,hr⟩=>by
  unfold zBe at hm;split at hm
  ·rename_i q hq
   obtain rfl:=Option.some.inj hm;exact .inl ⟨a,y,z,hq,hx,hr⟩
  ·exact .inr ⟨n,a,y,z,hm,hx,hr⟩
def zJw (n:Nat) (xs:List AV) (r:Ret):Prop:=∃ (a0:(zO8×List Nd)) (y0:List Nd) (y1:Int),zCe n a0=some (y0,y1)/\xs=[.agg ((zAp a0).map .s)]/\r = .val (.tup [.s (.sl 4 (Nd.encs y0)),.s (.int .i64 y1)])
def zFT:zAz:=zAy fun xs r=>∃ n,zJw n xs r
theorem zIY:PSound Tryz.prog 147 zFT:=by
 have gok:∀ f s,look? f [(179,zFt),(180,zFu),(181,zFv),(182,zGo),(183,zFw),(184,zG1)]=some s->PSound Tryz.prog f s:=zAt (by
  simp only[List.forall_mem_cons]
  exact⟨zIq,zIr,zIs,zJL,zIt,zKv,by simp⟩)
 refine zAA tokW Tryz.call147 Tryz.func147 rfl (fun xs r h=>by obtain⟨n,_,_,_,_,rfl,_⟩:=h; show 1<=41; decide) 41 rfl ?_;rintro xs r w0 G0 ⟨n,⟨⟨c1Al,c1Aq,c1Ag,c1Am,c1Ai,c1Aj,c1Ap,c1An⟩,c1Ah⟩,y0,y1,h,rfl,rfl⟩ _;rw[zCe]at h;refine zYe [] [] rfl ?_;show Tri ..;refine zAa ?_;refine zYe [] [] rfl ?_;obtain⟨y2,hy2,h⟩:=zAc h;refine⟨_,⟨_,_,hy2,rfl,rfl⟩,?_⟩
 show Tri ..;refine zYe [] [] rfl ?_;show Tri ..;refine zAh rfl h (fun hb h=>?_) (fun hb h=>?_)
 ·refine zYe [] [] rfl ?_;show Tri ..;refine zAe ?_;obtain⟨hj1,hk1⟩:=pij h;subst hj1 hk1;unfold zAw;exact⟨_,Le.refl _ _,rfl,rfl⟩
 ·refine zAf ?_;show Tri ..;refine zAa ?_;refine zYe [] [] rfl ?_;show Tri ..;refine zAl ?_;refine zYe [] [] rfl ?_;show Tri ..;refine zAh rfl h (fun hb h=>?_) (fun hb h=>?_)
  ·refine zYe [] [] rfl ?_;obtain⟨⟨y3,y4⟩,hy3,h⟩:=zAc h;refine⟨_,⟨_,_,_,_,hy3,rfl,rfl⟩,?_⟩
   show Tri ..;refine zAe ?_;obtain⟨hj1,hk1⟩:=pij h;subst hj1 hk1;unfold zAw;exact⟨_,Le.refl _ _,rfl,rfl⟩
  ·refine zYe [] [] rfl ?_;show Tri ..;refine zAh rfl h (fun hb h=>?_) (fun hb h=>?_)
   ·refine zYe [] [] rfl ?_;obtain⟨⟨y5,y6⟩,hy5,h⟩:=zAc h;refine⟨_,⟨_,_,_,_,hy5,rfl,rfl⟩,?_⟩
    show Tri ..;refine zAe ?_;obtain⟨hj1,hk1⟩:=pij h;subst hj1 hk1;unfold zAw;exact⟨_,Le.refl _ _,rfl,rfl⟩
   ·refine zYe [] [] rfl ?_;show Tri ..;refine zAh rfl h (fun hb h=>?_) (fun hb h=>?_)
    ·refine zYe [] [] rfl ?_;obtain⟨⟨y7,y8⟩,hy7,h⟩:=zAc h;refine⟨_,⟨_,_,_,_,hy7,rfl,rfl⟩,?_⟩
     show Tri ..;refine zAe ?_;obtain⟨hj1,hk1⟩:=pij h;subst hj1 hk1;unfold zAw;exact⟨_,Le.refl _ _,rfl,rfl⟩
    ·refine zYe [] [] rfl ?_;show Tri ..;refine zAh rfl h (fun hb h=>?_) (fun hb h=>?_)
     ·refine zYe [] [] rfl ?_;obtain⟨⟨y9,y10⟩,hy9,h⟩:=zAc h;refine⟨_,⟨_,_,_,_,hy9,rfl,rfl⟩,?_⟩
      show Tri ..;refine zAe ?_;obtain⟨hj1,hk1⟩:=pij h;subst hj1 hk1;unfold zAw;exact⟨_,Le.refl _ _,rfl,rfl⟩
     ·refine zAf ?_;show Tri ..;refine zYe [] [] rfl ?_;obtain⟨⟨y11,y12⟩,hy11,h⟩:=zAc h;refine⟨_,⟨_,_,_,_,hy11,rfl,rfl⟩,?_⟩
      show Tri ..;refine zAe ?_;obtain⟨hj1,hk1⟩:=pij h;subst hj1 hk1;unfold zAw;exact⟨_,Le.refl _ _,rfl,rfl⟩
def zQy (n:Nat) (xs:List AV) (r:Ret):Prop:=∃ (a0:Nd) (a1:zO8) (y0:Nd) (y1:Int),zEs n a0 a1=some (y0,y1)/\xs=[.agg ((Nd.enc a0).map .s),.agg ((zAi a1).map .s)]/\r = .val (.tup [.agg ((Nd.enc y0).map .s),.s (.int .i64 y1)])
def zLh:zAz:=zAy fun xs r=>∃ n,zQy n xs r
theorem zPV:PSound Tryz.prog 111 zLh:=by
 have gok:∀ f s,look? f [(73,zCs),(145,zKa),(146,zOp),(147,zFT),(148,zMp)]=some s->PSound Tryz.prog f s:=zAt (by
  simp only[List.forall_mem_cons]
  exact⟨zCA,zN5,zSO,zIY,zRG,by simp⟩)
 refine zAA tokW Tryz.call111 Tryz.func111 rfl (fun xs r h=>by obtain⟨n,_,_,_,_,_,rfl,_⟩:=h; show 2<=53; decide) 53 rfl ?_;rintro xs r w0 G0 ⟨n,⟨n1A,n1B,n1D,n1C⟩,⟨op2A,op2U,op2T,op2Z,op2S,op2X,op2Y,op2B⟩,y0,y1,h,rfl,rfl⟩ _;rw[zEs]at h;refine zYe [4] [] rfl ?_;show Tri ..;refine zAa ?_;refine zYe [] [] rfl ?_;obtain⟨y3,hy3,h⟩:=zAc h;refine⟨_,⟨_,_,_,hy3,rfl,rfl⟩,?_⟩
 show Tri ..;refine zAh rfl h (fun hb h=>?_) (fun hb h=>?_)
 ·refine zYe [] [] rfl ?_;show Tri ..;refine zAe ?_;obtain⟨hj1,hk1⟩:=pij h;subst hj1 hk1;unfold zAw;exact⟨_,Le.refl _ _,rfl,rfl⟩
 ·refine zAf ?_;show Tri ..;refine zAa ?_;refine zYe [] [] rfl ?_;obtain⟨y4,hy4,h⟩:=zAc h;refine⟨_,⟨_,_,_,hy4,rfl,rfl⟩,?_⟩
  show Tri ..;refine zAh rfl h (fun hb h=>?_) (fun hb h=>?_)
  ·refine zYe [] [] rfl ?_;show Tri ..;refine zAe ?_;obtain⟨hj1,hk1⟩:=pij h;subst hj1 hk1;unfold zAw;exact⟨_,Le.refl _ _,rfl,rfl⟩
  ·refine zAf ?_;show Tri ..;refine zYe [6] [] rfl ?_;obtain⟨⟨⟨y5A,y5B,y5D,y5C⟩,y6⟩,hy5,h⟩:=zAc h;refine⟨_,⟨_,_,_,_,_,hy5,rfl,rfl⟩,?_⟩
   show Tri ..;refine zAa ?_;refine zYe [] [] rfl ?_;show Tri ..;refine zAh rfl h (fun hb h=>?_) (fun hb h=>?_)
   ·refine zYe [] [] rfl ?_;show Tri ..;refine zAe ?_;obtain⟨hj1,hk1⟩:=pij h;subst hj1 hk1;unfold zAw;exact⟨_,Le.refl _ _,rfl,rfl⟩
   ·refine zAf ?_;show Tri ..;refine zYe [] [] rfl ?_;obtain⟨⟨y7,y8⟩,hy7,h⟩:=zAc h;refine⟨_,⟨_,_,_,_,hy7,rfl,rfl⟩,?_⟩
    show Tri ..;refine zAa ?_;refine zYe [] [] rfl ?_;show Tri ..;refine zAh rfl h (fun hb h=>?_) (fun hb h=>?_)
    ·refine zYe [] [] rfl ?_;show Tri ..;refine zAe ?_;obtain⟨hj1,hk1⟩:=pij h;subst hj1 hk1;unfold zAw;exact⟨_,Le.refl _ _,rfl,rfl⟩
    ·refine zAf ?_;show Tri ..;refine zYe [8] [] rfl ?_;obtain⟨⟨⟨y9A,y9B,y9D,y9C⟩,y10⟩,hy9,h⟩:=zAc h;refine⟨_,⟨_,_,_,_,_,_,hy9,rfl,rfl⟩,?_⟩
     show Tri ..;refine zAk (Le.giveBox 2 [.int .i64 y9A,.str y9B,.int .i64 y9D,.sl 4 (Nd.encs y9C)] rfl rfl) ?_;refine zAa ?_;refine zYe [] [] rfl ?_;show Tri ..;refine zAh rfl h (fun hb h=>?_) (fun hb h=>?_)
     ·refine zYe [] [] rfl ?_;show Tri ..;refine zAe ?_;obtain⟨hj1,hk1⟩:=pij h;subst hj1 hk1;unfold zAw;exact⟨_,Le.refl _ _,rfl,rfl⟩
     ·refine zAf ?_;show Tri ..;refine zYe [] [] rfl ?_;show Tri ..;refine zAe ?_;obtain⟨hj1,hk1⟩:=pij h;subst hj1 hk1;unfold zAw;exact⟨_,Le.refl _ _,rfl,rfl⟩
def zMg (n:Nat) (xs:List AV) (r:Ret):Prop:=∃ (a0:Nd) (a1:List zO8) (y0:Nd) (y1:Int) (y2:Int),zA5 n a0 a1=some (y0,y1,y2)/\xs=[.agg ((Nd.enc a0).map .s),.s (.sl 8 ((List.map zAi) a1))]/\r = .val (.tup [.agg ((Nd.enc y0).map .s),.s (.int .i64 y1),.s (.int .i64 y2)])
def zDr:zAz:=zAy fun xs r=>∃ n,zMg n xs r
theorem zEa:PSound Tryz.prog 74 zDr:=by
 have gok:∀ f s,look? f [(73,zCs),(53,zCX),(111,zLh)]=some s->PSound Tryz.prog f s:=zAt (by
  simp only[List.forall_mem_cons]
  exact⟨zCA,zCW,zPV,by simp⟩)
 refine zAA tokW Tryz.call74 Tryz.func74 rfl (fun xs r h=>by obtain⟨n,_,_,_,_,_,_,rfl,_⟩:=h; show 2<=39; decide) 39 rfl ?_;rintro xs r w0 G0 ⟨n,⟨n1A,n1B,n1D,n1C⟩,ops2,y0,y1,y2,h,rfl,rfl⟩ _;rw[zA5]at h;refine zYe [4] [] rfl ?_;show Tri ..;refine zAa ?_;refine zYe [] [] rfl ?_;obtain⟨y3,hy3,h⟩:=zAc h;refine⟨_,⟨_,_,_,hy3,rfl,rfl⟩,?_⟩
 show Tri ..;refine zAh rfl h (fun hb h=>?_) (fun hb h=>?_)
 ·refine zYe [] [] rfl ?_;show Tri ..;refine zAe ?_;obtain⟨hj1,hk1⟩:=pij h;subst hj1;obtain⟨hj2,hk2⟩:=Prod.mk.inj hk1;subst hj2;subst hk2;unfold zAw;exact⟨_,Le.refl _ _,rfl,rfl⟩
 ·refine zAf ?_;show Tri ..;refine zYe [7] [] rfl ?_;obtain⟨⟨y4A,y4B,y4D,y4C⟩,hy4,h⟩:=zAc h;refine⟨_,⟨_,_,hy4,rfl,rfl⟩,?_⟩
  show Tri ..;refine zAa ?_;refine zYe [] [19] rfl ?_;intro n5 hn5;obtain rfl:(ops2.length:Int)=n5:=(hn5.trans (congrArg (fun m:Nat=>(m:Int)) (rlen (fun _=>rfl) ops2))).symm;show Tri ..;obtain⟨fl,hl,ho1⟩:=zAc h;refine zBt (fl:=fl) (fun z=>match z with | ⟨x12,x13,x14,x15⟩=>⟨ofL [(4,.op 0 0),(7,.op 1 0)],ofH [(0,.box 24 [.s (.int .i64 0),.s (.str []),.s (.int .i64 0),.nl 4]),(1,.box 24 [.s (.int .i64 x12),.s (.str x13),.s (.int .i64 x14),.s (.sl 4 (Nd.encs x15))])],2⟩) ?_ (fun z σ' hz hle=>?_)
  ·refine zAl (zAF (X:=Nat×Int×(List UInt8)×Int×(List Nd)×Int) (fun y=>match y with | (k,x7,x8,x9,x10,x11)=>⟨ofL [(4,.op 0 0),(7,.op 1 0),(18,.s (.sl 8 ((List.map zAi) ops2))),(19,.s (.int .i64 (ops2.length:Int))),(20,.s (.int .i64 x11))],ofH [(0,.box 24 [.s (.int .i64 0),.s (.str []),.s (.int .i64 0),.nl 4]),(1,.box 24 [.s (.int .i64 x7),.s (.str x8),.s (.int .i64 x9),.s (.sl 4 (Nd.encs x10))])],2⟩) (fun y=>zA8 n ops2 y.1 y.2.1 y.2.2.1 y.2.2.2.1 y.2.2.2.2.1 y.2.2.2.2.2=some fl) (fun y=>y.1) (n,y4A,y4B,y4D,y4C,0) hl ?_ ?_)
   ·exact(Le.rnm [(0,0),(1,1)] _ _ _ ⟨rfl,rfl,rfl,rfl,rfl,trivial⟩ ⟨rfl,⟨_,rfl,rfl⟩,rfl,⟨_,rfl,rfl⟩,trivial⟩)
   ·rintro⟨k,x7,x8,x9,x10,x11⟩ h;cases k with
    | zero=>cases h
    | succ k =>
     replace h:zA8 n ops2 (k+1) x7 x8 x9 x10 x11=some fl:=h;rw[zA8]at h;refine zYe [] [] rfl ?_;show Tri ..;refine zAa ?_;refine zAh rfl h (fun hb h=>?_) (fun hb h=>?_)
     ·refine zAf ?_;show Tri ..;refine zAa ?_;refine zAl ?_;refine zYe [9] [23] rfl ?_;obtain⟨⟨e16A,e16U,e16T,e16Z,e16S,e16X,e16Y,e16B⟩,he16,h⟩:=zAc h;refine And.intro (zAB (fun _=>rfl) he16).1 ?_;intro r17 hr17;obtain rfl:[.int .i64 e16A,.sl 1 ((List.map (irow .i64)) e16U),.int .i64 e16T,.int .i64 e16Z,.sl 4 (Nd.encs e16S),.int .i64 e16X,.str e16Y,.str e16B]=r17:=(hr17.trans (zAB (fun _=>rfl) he16).2.1).symm;show Tri ..
      refine zAk (Le.giveBox 2 [.int .i64 e16A,.sl 1 ((List.map (irow .i64)) e16U),.int .i64 e16T,.int .i64 e16Z,.sl 4 (Nd.encs e16S),.int .i64 e16X,.str e16Y,.str e16B] rfl rfl) ?_;refine zYe [10] [] rfl ?_;obtain⟨⟨⟨y18A,y18B,y18D,y18C⟩,y19⟩,hy18,h⟩:=zAc h;refine⟨_,⟨_,_,_,_,_,hy18,rfl,rfl⟩,?_⟩
      show Tri ..;refine zAk (Le.giveBox 3 [.int .i64 y18A,.str y18B,.int .i64 y18D,.sl 4 (Nd.encs y18C)] rfl rfl) ?_;refine zAa ?_;refine zYe [] [] rfl ?_;show Tri ..;refine zAh rfl h (fun hb h=>?_) (fun hb h=>?_)
      ·refine zYe [] [] rfl ?_;show Tri ..;refine zAe ?_;cases h;replace h:some _=some _:=ho1;obtain⟨hj1,hk1⟩:=pij h;subst hj1;obtain⟨hj2,hk2⟩:=Prod.mk.inj hk1;subst hj2;subst hk2;unfold zAw;exact⟨_,Le.refl _ _,rfl,rfl⟩
      ·refine zAf ?_;show Tri ..;refine zAb [] [] rfl ?_;show Tri ..;refine zAb [] [] rfl ?_;refine⟨(k,y18A,y18B,y18D,y18C,IntKind.i64.wrap (x11+1)),h,(Le.rnm [(0,0),(1,1)] _ _ _ ⟨rfl,rfl,rfl,rfl,rfl,trivial⟩ ⟨rfl,⟨_,rfl,rfl⟩,rfl,⟨_,rfl,rfl⟩,trivial⟩),Nat.lt_succ_self k⟩
     ·refine zAI ?_;cases h;exact⟨_,rfl,(Le.rnm [(0,0),(1,1)] _ _ _ ⟨rfl,rfl,trivial⟩ ⟨rfl,⟨_,rfl,rfl⟩,rfl,⟨_,rfl,rfl⟩,trivial⟩)⟩
  ·subst hz;obtain⟨x12,x13,x14,x15⟩:=z;replace h:=ho1;show Tri ..;refine zAk hle ?_;refine zYe [] [] rfl ?_;show Tri ..;refine zAe ?_;obtain⟨hj1,hk1⟩:=pij h;subst hj1;obtain⟨hj2,hk2⟩:=Prod.mk.inj hk1;subst hj2;subst hk2;unfold zAw;exact⟨_,Le.refl _ _,rfl,rfl⟩
def zPl (n:Nat) (xs:List AV) (r:Ret):Prop:=∃ (a0:zO8) (y0:zO8),zB1 n a0=some y0/\xs=[.agg ((zAi a0).map .s)]/\r = .val (.agg ((zAi y0).map .s))
def zKb:zAz:=zAy fun xs r=>∃ n,zPl n xs r
theorem zN6:PSound Tryz.prog 133 zKb:=by
 have gok:∀ f s,look? f [(166,zMl)]=some s->PSound Tryz.prog f s:=zAt (by
  simp only[List.forall_mem_cons]
  exact⟨zOQ,by simp⟩)
 refine zAA tokW Tryz.call133 Tryz.func133 rfl (fun xs r h=>by obtain⟨n,_,_,_,rfl,_⟩:=h; show 1<=29; decide) 29 rfl ?_;rintro xs r w0 G0 ⟨n,⟨op1A,op1U,op1T,op1Z,op1S,op1X,op1Y,op1B⟩,y0,h,rfl,rfl⟩ _;rw[zB1]at h;refine zYe [2] [] rfl ?_;show Tri ..;refine zYe [3] [] rfl ?_;obtain⟨⟨y2A,y2U,y2T,y2Z,y2S,y2X,y2Y,y2B⟩,hy2,h⟩:=zAc h;refine⟨_,⟨_,_,_,hy2,rfl,rfl⟩,?_⟩
 show Tri ..;refine zAa ?_;refine zYe [] [] rfl ?_;show Tri ..;obtain⟨⟨x3,x4,x5⟩,hj,h⟩:=zAc h;refine zAv ⟨ofL [(2,.op 0 0),(3,.op 1 0)],ofH [(0,.box 63 [.s (.int .i64 0),.nl 1,.s (.int .i64 0),.s (.int .i64 0),.nl 4,.s (.int .i64 0),.s (.str []),.s (.str [])]),(1,.box 63 [.s (.int .i64 x3),.s (.sl 1 ((List.map (irow .i64)) y2U)),.s (.int .i64 y2T),.s (.int .i64 y2Z),.s (.sl 4 (Nd.encs y2S)),.s (.int .i64 y2X),.s (.str x4),.s (.str x5)])],2⟩ ?_ (fun σ' hle=>?_)
 ·replace h:=hj;refine zAl ?_;refine zYe [] [] rfl ?_;show Tri ..;refine zAh rfl h (fun hb h=>?_) (fun hb h=>?_)
  ·refine zAb [] [] rfl ?_;cases h;exact(Le.rnm [(0,0),(1,1)] _ _ _ ⟨rfl,rfl,trivial⟩ ⟨rfl,⟨_,rfl,rfl⟩,rfl,⟨_,rfl,rfl⟩,trivial⟩)
  ·refine zYe [] [] rfl ?_;show Tri ..;refine zAh rfl h (fun hb h=>?_) (fun hb h=>?_)
   ·refine zAb [] [] rfl ?_;cases h;exact(Le.rnm [(0,0),(1,1)] _ _ _ ⟨rfl,rfl,trivial⟩ ⟨rfl,⟨_,rfl,rfl⟩,rfl,⟨_,rfl,rfl⟩,trivial⟩)
   ·refine zYe [] [] rfl ?_;show Tri ..;refine zAh rfl h (fun hb h=>?_) (fun hb h=>?_)
    ·refine zAb [] [] rfl ?_;cases h;exact(Le.rnm [(0,0),(1,1)] _ _ _ ⟨rfl,rfl,trivial⟩ ⟨rfl,⟨_,rfl,rfl⟩,rfl,⟨_,rfl,rfl⟩,trivial⟩)
    ·refine zYe [] [] rfl ?_;show Tri ..;refine zAh rfl h (fun hb h=>?_) (fun hb h=>?_)
     ·refine zAb [] [] rfl ?_;cases h;exact(Le.rnm [(0,0),(1,1)] _ _ _ ⟨rfl,rfl,trivial⟩ ⟨rfl,⟨_,rfl,rfl⟩,rfl,⟨_,rfl,rfl⟩,trivial⟩)
     ·refine zYe [] [] rfl ?_;show Tri ..;refine zAh rfl h (fun hb h=>?_) (fun hb h=>?_)
      ·refine zAQ [] [] [5,7] rfl (by decide +kernel) ?_;cases h;exact(Le.rnm [(0,0),(1,1)] _ _ _ ⟨rfl,rfl,trivial⟩ ⟨rfl,⟨_,rfl,rfl⟩,rfl,⟨_,rfl,rfl⟩,trivial⟩)
      ·refine zAf ?_;cases h;exact(Le.rnm [(0,0),(1,1)] _ _ _ ⟨rfl,rfl,trivial⟩ ⟨rfl,⟨_,rfl,rfl⟩,rfl,⟨_,rfl,rfl⟩,trivial⟩)
 ·show Tri ..;refine zAk hle ?_;refine zYe [] [] rfl ?_;show Tri ..;refine zAe ?_;have hy:=Option.some.inj h;subst hy;unfold zAw;exact⟨_,Le.refl _ _,rfl,rfl⟩
end Go.Proofs.YtgplhldfbkmmgaaGreat
namespace Go.Abs
def ownB (β:Nat->Value) (hp:Nat->Option Ob):Nat->Prop:=fun b=>∃ k ob,hp k=some ob/\blk (β k)=some b
def rcx (P:Program) (N m l:Nat) (w:World) (X G:Nat->Prop) (B:Nat->Value):Cx:={ P:=P,w0:=w,X:=X,G0:=G,N:=N,n0:=m,B0:=B,ro:=some l }
def lcx (P:Program) (N m:Nat) (w:World) (X G:Nat->Prop) (B:Nat->Value) (D:Nat):Cx:={ P:=P,w0:=w,X:=X,G0:=G,N:=N,n0:=m,B0:=B,ds:=[{ target:=.collected D,args:=#[] }] }
theorem ObAt.turn {c1 c2:Cx}{G:Nat->Prop}{w w2:World}{β:Nat->Value}{v:Value}{o:Ob} (hk:Keep G G w w2) (hb:∀ b,blk v=some b->w2.heap[b]? = w.heap[b]?) (hm:∀ b,blk v=some b->c2.mine b) (h:ObAt c1 G w β v o):ObAt c2 G w2 β v o:=by
 cases o with
 | box xs =>
  obtain⟨b,e,cur,q1,q2,q3,q4,q5,q6⟩:=h;exact⟨b,e,cur,q1,(hb b (by rw[q1]; rfl)).trans q2,q3,hm b (by rw[q1]; rfl),q5.keep hk,q6⟩
 | row e sz rows =>
  obtain⟨q1,q2,q3⟩:=h;refine⟨q1,q2,q3.imp id ?_⟩
  rintro⟨b,cap,cur,g1,g2,g3,⟨mk,hmk,g4⟩,g5,g6,g7⟩
  exact⟨b,cap,cur,g1,g2,g3,⟨mk,hmk,(hb b (by rw[g1]; rfl)).trans g4⟩,g5,hm b (by rw[g1]; rfl),fun i s hi=>let ⟨u,hu,hr⟩:=g7 i s hi; ⟨u,hu,hr.keep hk⟩⟩
 | arow e sz rows =>
  obtain⟨q1,q2,q3⟩:=h;refine⟨q1,q2,q3.imp id ?_⟩
  rintro⟨b,cap,cur,g1,g2,g3,⟨mk,hmk,g4⟩,g5,g6,g7⟩
  exact⟨b,cap,cur,g1,g2,g3,⟨mk,hmk,(hb b (by rw[g1]; rfl)).trans g4⟩,g5,hm b (by rw[g1]; rfl),fun i s hi=>let ⟨u,hu,hr,h1⟩:=g7 i s hi; ⟨u,hu,hr.keep hk,h1⟩⟩
theorem ObAt.cells {c:Cx}{G:Nat->Prop}{w:World}{β:Nat->Value}{v:Value}{o:Ob} (h:ObAt c G w β v o):∀ b,blk v=some b->∃ cur e f,w.heap[b]? = some (.cells cur e f):=fun b hb=>by
 cases o with
 | box xs =>
  obtain⟨b',e,cur,rfl,q2,_⟩:=h;cases hb; exact⟨_,_,_,q2⟩
 | row e sz rows =>
  obtain⟨_,_,h | ⟨b',cap,cur,rfl,_,_,q2,_⟩⟩:=h
  ·rw[h.1]at hb; cases hb
  ·cases hb; obtain⟨mk,_,q2⟩:=q2; exact⟨_,_,_,q2⟩
 | arow e sz rows =>
  obtain⟨_,_,h | ⟨b',cap,cur,rfl,_,_,q2,_⟩⟩:=h
  ·rw[h.1]at hb; cases hb
  ·cases hb; obtain⟨mk,_,q2⟩:=q2; exact⟨_,_,_,q2⟩
section
variable {c:Cx} {G:Nat->Prop} {β:Nat->Value} {σ:St} {a:Act} {w:World}
theorem Conc.not_own (hc:Conc c G β σ a w){l:Nat}{o:Obj} (hl:w.heap[l]? = some o) (ho:o.isCells=false):¬ ownB β σ.hp l:=fun⟨k,ob,h1,h2⟩=>by
 obtain⟨cur,e,f,h3⟩:=(hc.hp k ob h1).cells l h2;rw[hl]at h3;cases h3;cases ho
theorem Conc.re (hc:Conc c G β σ a w){c2:Cx}{w2:World}{a2:Act}{env2:Nat->AV} (hk:∀ b,G b->w2.heap[b]? = w.heap[b]?) (ho:∀ b,ownB β σ.hp b->w2.heap[b]? = w.heap[b]?) (hs:w.heap.size<=w2.heap.size)
  (hd:a2.defers=c2.ds) (hN:a2.tmps.size=c2.N) (he:∀ t,AVal G w β (env2 t) (a2.tmps.getD t undef)) (hel:∀ t,(env2 t).lt σ.nx=true) (hm:∀ b,ownB β σ.hp b->c2.mine b)
  (hsub:∀ b,c2.G0 b->G b) (hnew:∀ b,G b->c2.G0 b∨c2.mine b) (hfr:Fr c2.X c2.w0 w2) (hst:c2.n0<=σ.nx/\∀ k,k<c2.n0->β k=c2.B0 k):Conc c2 G β ⟨env2,σ.hp,σ.nx⟩ a2 w2:=by
 have hkp:Keep G G w w2:=⟨fun _ h=>h,hk⟩
 exact {
  defers:=hd
  size:=hN
  env:=fun t=>(he t).keep hkp
  envlt:=hel
  hp:=fun k ob h=>(hc.hp k ob h).turn hkp (fun b hb=>ho b ⟨k,ob,h,hb⟩) (fun b hb=>hm b ⟨k,ob,h,hb⟩)
  hplt:=hc.hplt
  inj:=hc.inj
  lt:=fun b hb=>Nat.lt_of_lt_of_le (hc.lt b hb) hs
  sub:=hsub
  new:=hnew
  fr:=hfr
  stay:=hst
  glob:=hc.glob.keep hkp }
theorem Ext.alloc0 (h:∀ b,G b->b<w.heap.size) (o:Obj):Ext G G w (w.alloc o) :=
 ⟨rfl,rfl,rfl,by rw[World.size_alloc]; omega,fun b hb=>zB0 w o hb,fun _ h=>h,fun _ h=>.inl h,fun b hb=>by rw[World.size_alloc]; have:=h b hb; omega⟩
end
structure Grown (A B:World):Prop where
 os:B.os=A.os
 tape:B.tape=A.tape
 output:B.output=A.output
 size:A.heap.size<=B.heap.size
 old:∀ b,b<A.heap.size->B.heap[b]? = A.heap[b]?
theorem Grown.ext {A B:World}{G:Nat->Prop} (h:Grown A B) (hl:∀ b,G b->b<A.heap.size):Ext G G A B:=⟨h.os,h.tape,h.output,h.size,h.old,fun _ h=>h,fun _ h=>.inl h,fun b hb=>Nat.lt_of_lt_of_le (hl b hb) h.size⟩
def zPg (P:Program) (fid sz:Nat):Prop :=
 ∀ (G:Nat->Prop) (w0:World) (v:Value) (rows:List (List S)),(∀ b,G b->b<w0.heap.size)->GlobOk G w0->Rep G w0 (.pt [.sl sz rows]) v->(∀ r∈rows,r.length=sz)->rows.length<=4611686018427387904 ->
  ∀ (l:Nat) (J:Nat->World->Prop) (W:World),w0.heap.size<=W.heap.size->(∀ b,G b->W.heap[b]? = w0.heap[b]?)->(∀ i A B,J i A->Grown A B->J i B) ->
   (∀ i j row u W1,i+j+1=rows.length->rows[j]? = some row->J i W1->w0.heap.size<=W1.heap.size->(∀ b,G b->W1.heap[b]? = w0.heap[b]?)->(∀ β,AVal G W1 β (.agg (row.map .s)) u) ->
    YieldAt Fence.wide 0 P l #[.int .i64 (j:Int),u] W1 fun e W2=>e = .returned (.bool true)/\J (i+1) W2/\w0.heap.size<=W2.heap.size/\∀ b,G b->W2.heap[b]? = w0.heap[b]?) ->
   J 0 W->CallsIn Fence.wide 1 P fid #[.func (.yield l) #[] #[],v] W fun e W'=>(∃ u,e = .returned u)/\J rows.length W'
structure Sw (c c2:Cx) (D:Nat):Prop where
 fr:Fr c.X c.w0 c2.w0
 mine:∀ b,c2.X b->c.mine b
 sub:∀ b,c.G0 b->c2.G0 b
 new:∀ b,c2.G0 b->c.G0 b∨c.mine b
 blk:c2.w0.heap[D]? = some (.deferred (some []))
 nX:¬ c2.X D
 nG:¬ c2.G0 D
 ge:c.w0.heap.size<=D
def zS6 (σ:St) (p1 p2:Nat) (j:Nat) (row:List S) (e:(Nat->Option Ob)×Nat):St :=
 ⟨fun t=>bif Nat.beq t p2 then .agg (row.map .s) else bif Nat.beq t p1 then .s (.int .i64 (j:Int)) else σ.env t,e.1,e.2⟩
def Rl (w:World) (X:Nat->Prop) (l:Nat):Prop:=(∃ r,w.heap[l]? = some (.loop r))/\¬ X l
theorem zL4 {tm:Array Value}{p t:Nat}{v:Value} (hp:p<tm.size):(tm.setIfInBounds p v).getD t undef=if t=p then v else tm.getD t undef:=by
 rw[Array.getD_eq_getD_getElem?,Array.getD_eq_getD_getElem?]
 by_cases h:t=p
 ·subst h;rw[if_pos rfl,Array.getElem?_setIfInBounds_self_of_lt hp]
  rfl
 ·rw[if_neg h,Array.getElem?_setIfInBounds_ne (Ne.symm h)]
theorem zip2 {α β:Type} (a b:α) (x y:β) : #[a,b].zip #[x,y] = #[(a,x),(b,y)]:=by
 apply Array.ext'
 simp[Array.toList_zip]
theorem nbeq {a b:Nat} (h:a ≠ b):Nat.beq a b=false:=by
 cases e:Nat.beq a b with
 | false=>rfl
 | true=>exact absurd (Nat.eq_of_beq_eq_true e) h
theorem zSI {n:Nat}:∀ (row:List S),AV.ltAll n (row.map .s)=true
 | []=>rfl
 | s::r=>by simp only[List.map_cons,AV.ltAll,Bool.and_eq_true]; exact⟨rfl,zSI r⟩
theorem zWS {c:Cx}{G:Nat->Prop}{β:Nat->Value}{σ:St}{a:Act}{w:World} (hc:Conc c G β σ a w) (hro:c.ro=none) (hds:c.ds=[]){tg p1 p2 fid sz:Nat}{rows:List (List S)}{assign body:Code}
  (hit:zPg c.P fid sz) (hcall:∀ args w,(callFunc fid args).run c.P w = .ok (.enter fid args) w) (he:σ.env tg = .clo fid [.s (.pt [.sl sz rows])]) (hrl:∀ r∈rows,r.length=sz) (hlen:rows.length<=4611686018427387904)
  (E:Nat->(Nat->Option Ob)×Nat) (hE:E 0=(σ.hp,σ.nx)) (m:Nat) (hm:∀ t,(σ.env t).lt m=true) (hm0:c.n0<=m) (hmE:∀ i,m<=(E i).2) (hp1:p1<c.N) (hp2:p2<c.N)
  (hround:∀ i j row,i+j+1=rows.length->rows[j]? = some row->∀ l w X G B,Rl w X l->Tri (rcx c.P c.N m l w X G B) assign (zS6 σ p1 p2 j row (E i)) (fun e σ1=>e = .normal/\∀ w X G B,Rl w X l ->
   Tri (rcx c.P c.N m l w X G B) body σ1 (fun e σ2=>e = .normal/\∃ σ3,Le (rcx c.P c.N m l w X G B) σ2 σ3/\σ3.hp=(E (i+1)).1/\σ3.nx=(E (i+1)).2)))
  (hfid:Nat.ble 1048576 fid=false) {Φ:Exit->Act->World->Prop} (hdone:∀ D w2 X G2 G' β' a2,Sw c (lcx c.P c.N c.n0 w2 X G2 c.B0 D) D->Conc (lcx c.P c.N c.n0 w2 X G2 c.B0 D) G' β' ⟨σ.env,(E rows.length).1,(E rows.length).2⟩ a2 w2->Φ .normal a2 w2) :
  (Code.rangeFunc (.tmp tg) #[p1,p2] assign body).wpIn (rF none) 2 c.P Φ a w:=by
 have hg:=hc.env tg;rw[he]at hg;simp only[AVal,AVals]at hg;obtain⟨vs,hg,v,vs',rfl,hv,rfl⟩:=hg;have hg:a.eval (.tmp tg) = .func (.func fid) #[] #[v] :=(by rw[zUX hfid]at hg; exact hg);have hiter:=hit G w v rows hc.lt hc.glob hv hrl hlen;refine wpIn_rangeFunc fun fn _=>?_
 obtain⟨rec,hrec⟩:∃ rec:LoopState->Loop,rec=fun st=>{ state:=st,pending:=none,fn:=fn,tmps:=a.tmps,params:=#[p1,p2],assign:=assign,body:=body,defers:=w.heap.size }:=⟨_,rfl⟩
 obtain⟨l,hl0⟩:∃ l,l=w.heap.size+1:=⟨_,rfl⟩
 obtain⟨D,hD0⟩:∃ D,D=w.heap.size:=⟨_,rfl⟩
 obtain⟨W1,hW1⟩:∃ W1,(w.alloc (.deferred (some []))).alloc (.loop (rec .ready))=W1:=⟨_,rfl⟩
 have hL1:W1.heap[l]? = some (.loop (rec .ready)):=by
  have:=World.alloc_heap_new (w.alloc (.deferred (some []))) (.loop (rec .ready))
  rw[World.size_alloc]at this;rw[← hW1,hl0]; exact this
 have hDD:W1.heap[D]? = some (.deferred (some [])):=by
  have:=zB0 (w.alloc (.deferred (some []))) (.loop (rec .ready)) (b:=w.heap.size) (by rw[World.size_alloc]; omega)
  rw[← hW1,hD0,this]
  exact World.alloc_heap_new w _
 have hc1:Conc c G β σ a W1:=by
  rw[← hW1]
  have h1:=hc.ext (Ext.alloc0 hc.lt (.deferred (some [])))
  exact h1.ext (Ext.alloc0 h1.lt (.loop (rec .ready)))
 have hlD:l ≠ D :=(by omega);have hcl:c.w0.heap.size<=D :=(by rw[hD0]; exact hc.fr.size);refine⟨l,[{ target:=.collected D,args:=#[] }],W1,{ target:=.fn (.func fid) #[v],args:=#[.func (.yield l) #[] #[]] },W1,fid,#[.func (.yield l) #[] #[]]++#[v],W1,?_,?_,?_,?_,fun h=>(by cases h),?_⟩
 ·rw[← hW1,hrec,hl0,hD0]; exact run_enterLoop_outer _ _ _ _ _
 ·simp only[resolve,hg]
  simp[go_sem]
 ·intro f' hf'; trivial
 ·simp[invoke,go_sem,hcall]
 have key:=hiter l (fun i W=>W.heap[l]? = some (.loop (rec .ready))/\W.heap[D]? = some (.deferred (some []))/\∃ G' β',Conc c G' β' ⟨σ.env,(E i).1,(E i).2⟩ a W/\(∀ b,G b->G' b)/\¬ G' l/\¬ G' D) W1 (by rw[← hW1,World.size_alloc,World.size_alloc]; omega)
  (fun b hb=>by
   have hb':=hc.lt b hb;rw[← hW1,zB0 _ _ (by rw[World.size_alloc]; omega),zB0 _ _ hb'])
  (fun i A B ⟨h1,h2,G',β',h3,h4⟩ hg=>⟨(hg.old l (Array.getElem?_eq_some_iff.1 h1).1).trans h1,(hg.old D (Array.getElem?_eq_some_iff.1 h2).1).trans h2,G',β',h3.ext (hg.ext h3.lt),h4⟩)
  ?_ ⟨hL1,hDD,G,β,by rw[hE]; exact hc1,fun _ h=>h,fun h=>by have:=hc.lt _ h; omega,fun h=>by have:=hc.lt _ h; omega⟩
 ·refine key.mono ?_;rintro e W3 ⟨⟨u,rfl⟩,h1,h2,G3,β3,hc3,hG3,hnl,hnD⟩
  have hend:=run_endLoop (P:=c.P) h1 (by rw[hrec]; simp)
  rw[hrec]at hend;refine⟨none,_,hend,?_⟩
  dsimp only;have hnol:¬ ownB β3 (E rows.length).1 l:=hc3.not_own h1 rfl;have hnoD:¬ ownB β3 (E rows.length).1 D:=hc3.not_own h2 rfl;have hl3:l<W3.heap.size:=(Array.getElem?_eq_some_iff.1 h1).1;generalize hW4:W3.putObj l _=W4;have hoth:∀ b,b ≠ l->W4.heap[b]? = W3.heap[b]?:=fun b hb=>by rw[← hW4]; exact World.putObj_heap_other hb
  have hsz:W4.heap.size=W3.heap.size :=(by rw[← hW4]; exact World.putObj_size);have hfr4:Fr c.X c.w0 W4:=⟨by rw[← hW4]; exact hc3.fr.os,by rw[← hW4]; exact hc3.fr.tape,by rw[← hW4]; exact hc3.fr.output,by rw[hsz]; exact hc3.fr.size,fun b hb hx=>(hoth b (by omega)).trans (hc3.fr.old b hb hx)⟩
  refine hdone D W4 (ownB β3 (E rows.length).1) G3 G3 β3 _ ⟨hfr4,fun b ⟨k,ob,q1,q2⟩=>(row_block (hc3.hp k ob q1) b q2).2,hc3.sub,hc3.new,(hoth D (Ne.symm hlD)).trans h2,hnoD,hnD,hcl⟩ ?_;exact hc3.re (c2:=lcx c.P c.N c.n0 W4 (ownB β3 (E rows.length).1) G3 c.B0 D) (fun b hb=>hoth b fun h=>hnl (h ▸ hb)) (fun b hb=>hoth b fun h=>hnol (h ▸ hb)) (by rw[hsz]; exact Nat.le_refl _)
   (by show _::a.defers=_; rw[hc.defers,hds]; rfl) hc.size hc3.env hc3.envlt (fun b hb=>.inl hb) (fun b hb=>hb) (fun b hb=>.inl hb) (Fr.refl _ _) hc3.stay
 ·rintro i j row u W hiN hrow ⟨h1,h2,G',β',hcW,hGG,hnl,hnD⟩ hszW hGk hval;have hy:=run_yield (P:=c.P) (args:=#[.int .i64 (j:Int),u]) h1 (by rw[hrec]; rfl)
  rw[hrec]at hy;have hnol:¬ ownB β' (E i).1 l:=hcW.not_own h1 rfl;have hnoD:¬ ownB β' (E i).1 D:=hcW.not_own h2 rfl;have hlW:l<W.heap.size:=(Array.getElem?_eq_some_iff.1 h1).1;have hDW:D<W.heap.size:=(Array.getElem?_eq_some_iff.1 h2).1;have hkW:Keep G G' w W:=⟨hGG,fun b hb=>(hGk b hb)⟩
  have htm:((#[p1,p2].zip #[Value.int .i64 (j:Int),u]).foldl (fun tmps (x:Nat×Value)=>tmps.setIfInBounds x.1 x.2) a.tmps)=(a.tmps.setIfInBounds p1 (.int .i64 (j:Int))).setIfInBounds p2 (u) :=(by rw[zip2]; rfl);have hy:(Instr.yield l #[.int .i64 (j:Int),u]).run c.P W = .ok (.round l fn ((a.tmps.setIfInBounds p1 (.int .i64 (j:Int))).setIfInBounds p2 (u)) assign body) W :=(by rw[← htm]; exact hy);refine⟨fn,_,assign,body,hy,roundIn_of_wpIn trivial ?_⟩
  have hs1:p1<a.tmps.size :=(by rw[hcW.size]; exact hp1);have hs2:p2<(a.tmps.setIfInBounds p1 (.int .i64 (j:Int))).size :=(by rw[Array.size_setIfInBounds,hcW.size]; exact hp2);have hA:Conc (rcx c.P c.N m l W (ownB β' (E i).1) G' β') G' β' (zS6 σ p1 p2 j row (E i)) { tmps:=(a.tmps.setIfInBounds p1 (.int .i64 (j:Int))).setIfInBounds p2 (u),defers:=[] } W:=by
   refine hcW.re (c2:=rcx c.P c.N m l W (ownB β' (E i).1) G' β') (fun _ _=>rfl) (fun _ _=>rfl) (Nat.le_refl _) rfl (by show _=c.N; rw[Array.size_setIfInBounds,Array.size_setIfInBounds]; exact hcW.size) (fun t=>?_) (fun t=>?_) (fun b hb=>.inl hb) (fun _ h=>h) (fun _ h=>.inl h) (Fr.refl _ _) ⟨hmE i,fun _ _=>rfl⟩
   ·dsimp only;rw[zL4 hs2,zL4 hs1]
    by_cases e2:t=p2
    ·subst e2;rw[if_pos rfl,Nat.beq_refl,cond_true]
     exact(hval β').keep ⟨hGG,fun _ _=>rfl⟩
    ·rw[if_neg e2,nbeq e2,cond_false]
     by_cases e1:t=p1
     ·subst e1;rw[if_pos rfl,Nat.beq_refl,cond_true]
      simp[AVal,Rep]
     ·rw[if_neg e1,nbeq e1,cond_false]
      exact hcW.env t
   ·dsimp only
    by_cases e2:t=p2
    ·subst e2; rw[Nat.beq_refl,cond_true]; simp only[AV.lt]; exact zSI row
    ·rw[nbeq e2,cond_false]
     by_cases e1:t=p1
     ·subst e1; rw[Nat.beq_refl,cond_true]; rfl
     ·rw[nbeq e1,cond_false]; exact hcW.envlt t
  have hTri:=hround i j row hiN hrow l W (ownB β' (E i).1) G' β' ⟨⟨_,h1⟩,hnol⟩
  unfold Tri at hTri;refine wpIn_mono (zW7 (m:=0) (hTri _ _ _ _ hA)) ?_;rintro e a1 Wb ⟨e',G2,β2,σ1,rfl,⟨rfl,hbody⟩,hB⟩
  have bl:Wb.heap[l]? = W.heap[l]?:=hB.fr.old l hlW hnol;have bD:Wb.heap[D]? = W.heap[D]?:=hB.fr.old D hDW hnoD;have hlb:l<Wb.heap.size:=Nat.lt_of_lt_of_le hlW hB.fr.size;have hn2l:¬ G2 l:=fun h=>(hB.new l h).elim hnl (fun h=>h.elim hnol (fun h=>by have:W.heap.size<=l:=h; omega))
  have hn2D:¬ G2 D:=fun h=>(hB.new D h).elim hnD (fun h=>h.elim hnoD (fun h=>by have:W.heap.size<=D:=h; omega))
  refine⟨_,run_beginRound (bl.trans h1) (by rw[hrec]),?_⟩
  generalize hW2:Wb.putObj l _=W2;have oth2:∀ b,b ≠ l->W2.heap[b]? = Wb.heap[b]?:=fun b hb=>by rw[← hW2]; exact World.putObj_heap_other hb
  have sz2:W2.heap.size=Wb.heap.size :=(by rw[← hW2]; exact World.putObj_size);have l2:W2.heap[l]? = some (.loop { rec .ready with state:=.busy }) :=(by rw[← hW2]; exact World.putObj_heap_same hlb);have hno1l:¬ ownB β2 σ1.hp l:=hB.not_own (bl.trans h1) rfl;have hno1D:¬ ownB β2 σ1.hp D:=hB.not_own (bD.trans h2) rfl;have hB2:Conc (rcx c.P c.N m l W2 (ownB β2 σ1.hp) G2 β') G2 β2 σ1 a1 W2 :=
   hB.re (c2:=rcx c.P c.N m l W2 (ownB β2 σ1.hp) G2 β') (fun b hb=>oth2 b fun h=>hn2l (h ▸ hb)) (fun b hb=>oth2 b fun h=>hno1l (h ▸ hb)) (by rw[sz2]; exact Nat.le_refl _) hB.defers hB.size hB.env hB.envlt (fun b hb=>.inl hb) (fun _ h=>h) (fun _ h=>.inl h) (Fr.refl _ _) hB.stay
  have hTri2:=hbody W2 (ownB β2 σ1.hp) G2 β' ⟨⟨_,l2⟩,hno1l⟩
  unfold Tri at hTri2;refine wpIn_mono (zW7 (m:=0) (hTri2 _ _ _ _ hB2)) ?_;rintro e a2 Wc ⟨e',G3,β3,σ2,rfl,⟨rfl,σ3,hle,hhp,hnx⟩,hC0⟩
  unfold Le at hle;obtain⟨G4,β4,hC⟩:=hle _ _ _ _ hC0;have hl2:l<W2.heap.size :=(by omega);have hD2:D<W2.heap.size :=(by have:=hB.fr.size; simp only[rcx]at this; omega);have cl:Wc.heap[l]? = W2.heap[l]?:=hC.fr.old l hl2 hno1l;have cD:Wc.heap[D]? = W2.heap[D]?:=hC.fr.old D hD2 hno1D;have hlc:l<Wc.heap.size:=Nat.lt_of_lt_of_le hl2 hC.fr.size;have hend:=run_endRound (P:=c.P) none (cl.trans l2)
  refine⟨_,_,hend,rfl,?_⟩
  generalize hW5:Wc.putObj l _=W5;have oth5:∀ b,b ≠ l->W5.heap[b]? = Wc.heap[b]?:=fun b hb=>by rw[← hW5]; exact World.putObj_heap_other hb
  have sz5:W5.heap.size=Wc.heap.size :=(by rw[← hW5]; exact World.putObj_size);have l5:W5.heap[l]? = some (.loop (rec .ready)) :=(by rw[← hW5,World.putObj_heap_same hlc,hrec]; rfl);have hnol3:¬ ownB β4 σ3.hp l:=hC.not_own (cl.trans l2) rfl;have hn4l:¬ G4 l:=fun h=>(hC.new l h).elim hn2l (fun h=>h.elim hno1l (fun h=>by have:W2.heap.size<=l:=h; omega))
  have hn4D:¬ G4 D:=fun h=>(hC.new D h).elim hn2D (fun h=>h.elim hno1D (fun h=>by have:W2.heap.size<=D:=h; omega))
  have hsub4:∀ b,G' b->G4 b:=fun b h=>hC.sub b (hB.sub b h)
  have hgl:∀ b,G' b->b ≠ l:=fun b h e=>hnl (e ▸ h)
  have hkeep:∀ b,G' b->Wc.heap[b]? = W.heap[b]?:=fun b h=>by
   have hno:¬ ownB β' (E i).1 b:=fun⟨k,ob,q1,q2⟩=>(row_block (hcW.hp k ob q1) b q2).1 h
   have hno2:¬ ownB β2 σ1.hp b:=fun⟨k,ob,q1,q2⟩=>(row_block (hB.hp k ob q1) b q2).1 (hB.sub b h)
   have hb1:=hcW.lt b h;have hb2:b<W2.heap.size :=(by have:=hB.lt b (hB.sub b h); omega);exact(hC.fr.old b hb2 hno2).trans ((oth2 b (hgl b h)).trans (hB.fr.old b hb1 hno))
  have hbeta:∀ k,k<m->β4 k=β' k:=fun k hk=>hC.stay.2 k hk
  have hnxle:m<=σ3.nx:=hC.stay.1;have hmine1:∀ b,ownB β2 σ1.hp b->c.mine b:=fun b ⟨k,ob,q1,q2⟩=>by
   rcases(row_block (hB.hp k ob q1) b q2).2 with ⟨k',ob',r1,r2⟩ | h
   ·exact(row_block (hcW.hp k' ob' r1) b r2).2
   ·exact .inr (Nat.le_trans hcW.fr.size h)
  have hmine3:∀ b,ownB β4 σ3.hp b->c.mine b:=fun b ⟨k,ob,q1,q2⟩=>by
   rcases(row_block (hC.hp k ob q1) b q2).2 with h | h
   ·exact hmine1 b h
   ·have h:W2.heap.size<=b:=h;have:=hB.fr.size;simp only[rcx]at this;exact .inr (by have:=hcW.fr.size; omega)
  have hfr5:Fr c.X c.w0 W5:=by
   refine⟨?_,?_,?_,?_,fun b hb hx=>?_⟩
   ·rw[← hW5]; show Wc.os=_; rw[hC.fr.os]; show W2.os=_; rw[← hW2]; show Wb.os=_; rw[hB.fr.os]; exact hcW.fr.os
   ·rw[← hW5]; show Wc.tape=_; rw[hC.fr.tape]; show W2.tape=_; rw[← hW2]; show Wb.tape=_; rw[hB.fr.tape]; exact hcW.fr.tape
   ·rw[← hW5]; show Wc.output=_; rw[hC.fr.output]; show W2.output=_; rw[← hW2]; show Wb.output=_; rw[hB.fr.output]; exact hcW.fr.output
   ·have h1:=hC.fr.size;have h2:=hB.fr.size;have h3:=hcW.fr.size;simp only[rcx]at h1 h2
    omega
   ·have hno:¬ ownB β' (E i).1 b:=fun⟨k,ob,q1,q2⟩=>(row_block (hcW.hp k ob q1) b q2).2.elim hx (fun h=>by omega)
    have hno2:¬ ownB β2 σ1.hp b:=fun h=>(hmine1 b h).elim hx (fun h=>by omega)
    have hb1:b<W.heap.size :=(by have:=hcW.fr.size; omega);have hb2:b<W2.heap.size :=(by have:=hB.fr.size; simp only[rcx]at this; omega);have hbl:b ≠ l :=(by omega);exact(oth5 b hbl).trans ((hC.fr.old b hb2 hno2).trans ((oth2 b hbl).trans ((hB.fr.old b hb1 hno).trans (hcW.fr.old b hb hx))))
  refine⟨⟨l5,(oth5 D (Ne.symm hlD)).trans (cD.trans ((oth2 D (Ne.symm hlD)).trans (bD.trans h2))),G4,β4,?_,fun b h=>hsub4 b (hGG b h),hn4l,hn4D⟩,by have h1:=hC.fr.size; have h2:=hB.fr.size; simp only[rcx]at h1 h2; omega,fun b hb=>(oth5 b (hgl b (hGG b hb))).trans ((hkeep b (hGG b hb)).trans (hGk b hb))⟩
  rw[← hhp,← hnx]
  refine hC.re (c2:=c) (fun b hb=>oth5 b fun h=>hn4l (h ▸ hb)) (fun b hb=>oth5 b fun h=>hnol3 (h ▸ hb)) (by rw[sz5]; exact Nat.le_refl _) hc.defers hc.size (fun t=>((hcW.env t).keep ⟨hsub4,hkeep⟩).beta hbeta (hm t)) (fun t=>AV.lt_mono hnxle (hm t)) hmine3
   (fun b hb=>hsub4 b (hcW.sub b hb)) (fun b hb=>?_) hfr5 ⟨Nat.le_trans hm0 hnxle,fun k hk=>(hbeta k (Nat.lt_of_lt_of_le hk hm0)).trans (hcW.stay.2 k hk)⟩
  rcases hC.new b hb with h | h
  ·rcases hB.new b h with h | h
   ·exact hcW.new b h
   ·rcases h with ⟨k',ob',r1,r2⟩ | h
    ·exact .inr (row_block (hcW.hp k' ob' r1) b r2).2
    ·exact .inr (.inr (Nat.le_trans hcW.fr.size h))
  ·rcases h with h | h
   ·exact .inr (hmine1 b h)
   ·have h:W2.heap.size<=b:=h;have h2:=hB.fr.size;have h3:=hcW.fr.size;simp only[rcx]at h2;exact .inr (.inr (by omega))
end Go.Abs
