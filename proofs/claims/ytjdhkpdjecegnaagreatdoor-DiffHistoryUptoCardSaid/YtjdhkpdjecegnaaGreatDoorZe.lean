/-
  Joined out of: DzVD, LibG, LibH, LibW, LibR, DzE, LibE, DzF, RfA, RfB, LibV, LibK, RfC, RfD.
-/
import Derived.WalkKit
import Derived.Lib.Walk
import Derived.Lib.SliceRun
import Derived.Lib.AppendZerosOnto
import Derived.Shelf.RegionOpenPlain
import Derived.RangeFuncNested
import Derived.RangeFuncLeaves
import Derived.RangeFuncRecord
import Derived.Test.YtjdhkpdjecegnaaGreatDoorZd
set_option linter.unusedVariables false
set_option linter.unusedSimpArgs false
set_option maxHeartbeats 2000000
set_option maxRecDepth 100000
namespace Go.Proofs.YtjdhkpdjecegnaaGreatDoor
open Go.Abs
def zPp (n : Nat) (xs : List AV) (r : Ret) : Prop:=∃ (a0 : List UInt8) (y0 : Bool),zE1 n a0 = some y0 ∧ xs = [.s (.str a0)] ∧ r = .val (.s (.bool y0))
def zKy : zAt:=zAG fun xs r=>∃ n,zPp n xs r
theorem zOK : PSound Tryz.prog 70 zKy:=by
 have gok : ∀ f s,look? f [(100,zHt),(101,zHu),(102,zIs),(73,zOa),(74,zGP)] = some s → PSound Tryz.prog f s:=zAu (by
  simp only [List.forall_mem_cons]
  exact ⟨zK0,zJJ,zMa,zQw,zIz,by simp⟩)
 refine zAK tokW Tryz.call70 Tryz.func70 rfl (fun xs r h=>by obtain ⟨n,_,_,_,rfl,_⟩:=h; show 1 ≤ 41; decide) 41 rfl ?_;rintro xs r w0 G0 ⟨n,s1,y0,h,rfl,rfl⟩ _;rw [zE1] at h;refine zAa ?_;refine zAb [] [] rfl ?_;show Tri ..;refine zAa ?_;refine zAa ?_;refine zAb [] [] rfl ?_;show Tri ..;refine zAd rfl (fun hb=>?_) (fun hb=>?_)
 ·replace h:=zAn hb h;refine zAa ?_;refine zAb [] [8] rfl ?_;obtain ⟨c2,hc2,h⟩:=zAc h;refine And.intro (zBh hc2).1 ?_;intro v3 hv3;obtain rfl : (c2.toNat : Int) = v3:=(hv3.trans (zBh hc2).2).symm;obtain ⟨y4,hy4,h⟩:=zAc h;refine ⟨_,⟨_,_,_,hy4,rfl,rfl⟩,?_⟩
  show Tri ..;refine zAh ?_;have hy:=Option.some.inj h;subst hy;unfold zAA;exact ⟨_,Le.refl _ _,rfl,rfl⟩
 ·replace h:=zAm hb h;refine zAg ?_;show Tri ..;refine zAa ?_;refine zAa ?_;refine zAb [] [] rfl ?_;show Tri ..;obtain ⟨fl,hl,ho1⟩:=zAc h;refine zEs (fl:=fl) (fun z=>match z with | _=>⟨ofL [(0,.s (.str s1))],fun _=>none,0⟩) ?_ (fun z σ' hz hle=>?_)
  ·refine zAl (zAI (X:=Nat × Int) (fun y=>match y with | (k,i5)=>⟨ofL [(0,.s (.str s1)),(3,.s (.int .i64 i5))],fun _=>none,0⟩) (fun y=>zBF s1 y.1 y.2 = some fl) (fun y=>y.1) (n,0) hl ?_ ?_)
   ·exact (Le.forget _ ⟨rfl,rfl,trivial⟩)
   ·rintro ⟨k,i5⟩ h;cases k with
    | zero=>cases h
    | succ k =>
     replace h : zBF s1 (k+1) i5 = some fl:=h;rw [zBF] at h;refine zAa ?_;refine zAa ?_;refine zAb [] [] rfl ?_;show Tri ..;refine zAd rfl (fun hb=>?_) (fun hb=>?_)
     ·replace h:=zAn hb h;refine zAg ?_;show Tri ..;refine zAa ?_;refine zAl ?_;refine zAa ?_;refine zAb [] [18] rfl ?_;obtain ⟨c6,hc6,h⟩:=zAc h;refine And.intro (zBh hc6).1 ?_;intro v7 hv7;obtain rfl : (c6.toNat : Int) = v7:=(hv7.trans (zBh hc6).2).symm;obtain ⟨y8,hy8,h⟩:=zAc h;refine ⟨_,⟨_,_,hy8,rfl,rfl⟩,?_⟩
      show Tri ..;refine zAd rfl (fun hb=>?_) (fun hb=>?_)
      ·replace h:=zAn hb h;refine zAa ?_;refine zAb [] [] rfl ?_;show Tri ..;refine zAh ?_;cases h;replace h : some _ = some _:=ho1;have hy:=Option.some.inj h;subst hy;unfold zAA;exact ⟨_,Le.refl _ _,rfl,rfl⟩
      ·replace h:=zAm hb h;refine zAg ?_;show Tri ..;refine zAb [] [] rfl ?_;refine ⟨(k,IntKind.i64.wrap (i5 + 1)),h,(Le.forget _ ⟨rfl,rfl,trivial⟩),Nat.lt_succ_self k⟩
     ·replace h:=zAm hb h;refine zAM ?_;cases h;exact ⟨_,rfl,(Le.forget _ ⟨rfl,trivial⟩)⟩
  ·subst hz;obtain _:=z;replace h:=ho1;show Tri ..;refine zAj hle ?_;refine zAa ?_;obtain ⟨x9,hj,h⟩:=zAc h;refine zAr ⟨ofL [(2,.s (.bool x9))],fun _=>none,0⟩ ?_ (fun σ' hle=>?_)
   ·replace h:=hj;refine zAb [] [24,29,35] rfl ?_;intro b hb;cases b with
    | true =>
     replace h:=zAn hb.symm h;intro b hb;cases b with
     | true =>
      replace h:=zAn hb.symm h;obtain ⟨y10,hy10,h⟩:=zAc h;refine ⟨_,⟨_,hy10,rfl,rfl⟩,?_⟩
      obtain ⟨y11,hy11,h⟩:=zAc h;refine ⟨_,⟨_,_,_,_,hy11,rfl,rfl⟩,?_⟩
      intro b hb;cases b with
      | true =>
       replace h:=zAn hb.symm h;obtain ⟨y12,hy12,h⟩:=zAc h;refine ⟨_,⟨_,hy12,rfl,rfl⟩,?_⟩
       obtain ⟨y13,hy13,h⟩:=zAc h;refine ⟨_,⟨_,_,_,_,hy13,rfl,rfl⟩,?_⟩
       cases h;exact (Le.forget _ ⟨rfl,trivial⟩)
      | false =>
       replace h:=zAm hb.symm h;cases h;exact (Le.forget _ ⟨rfl,trivial⟩)
     | false =>
      replace h:=zAm hb.symm h;intro b hb;subst hb;cases h;exact (Le.forget _ ⟨rfl,trivial⟩)
    | false =>
     replace h:=zAm hb.symm h;intro b hb;subst hb;intro b hb;subst hb;cases h;exact (Le.forget _ ⟨rfl,trivial⟩)
   ·show Tri ..;refine zAj hle ?_;refine zAh ?_;have hy:=Option.some.inj h;subst hy;unfold zAA;exact ⟨_,Le.refl _ _,rfl,rfl⟩
def zRd (xs : List AV) (r : Ret) : Prop:=∃ (a0 : Int) (y0 : Bool),zFJ a0 = some y0 ∧ xs = [.s (.int .u8 a0)] ∧ r = .val (.s (.bool y0))
def zLB : zAt:=zAG fun xs r=>zRd xs r
theorem zQu : PSound Tryz.prog 103 zLB:=by
 have gok : ∀ (f : Nat) (s : zAt),(fun _=>none : Nat → Option zAt) f = some s → PSound Tryz.prog f s:=fun _ _ h=>by cases h
 refine zAK tokW Tryz.call103 Tryz.func103 rfl (fun xs r h=>by obtain ⟨_,_,_,rfl,_⟩:=h; show 1 ≤ 9; decide) 9 rfl ?_;rintro xs r w0 G0 ⟨c1,y0,h,rfl,rfl⟩ _;rw [zFJ] at h;refine zAa ?_;refine zAb [] [] rfl ?_;show Tri ..;refine zAa ?_;obtain ⟨x2,hj,h⟩:=zAc h;refine zAr ⟨ofL [(2,.s (.bool x2))],fun _=>none,0⟩ ?_ (fun σ' hle=>?_)
 ·replace h:=hj;refine zAb [] [5] rfl ?_;intro b hb;cases b with
  | true =>
   replace h:=zAn hb.symm h;cases h;exact (Le.forget _ ⟨rfl,trivial⟩)
  | false =>
   replace h:=zAm hb.symm h;cases h;exact (Le.forget _ ⟨rfl,trivial⟩)
 ·show Tri ..;refine zAj hle ?_;refine zAh ?_;have hy:=Option.some.inj h;subst hy;unfold zAA;exact ⟨_,Le.refl _ _,rfl,rfl⟩
def zPo (n : Nat) (xs : List AV) (r : Ret) : Prop:=∃ (a0 : List UInt8) (y0 : Bool),zE0 n a0 = some y0 ∧ xs = [.s (.str a0)] ∧ r = .val (.s (.bool y0))
def zKx : zAt:=zAG fun xs r=>∃ n,zPo n xs r
theorem zOJ : PSound Tryz.prog 71 zKx:=by
 have gok : ∀ f s,look? f [(103,zLB)] = some s → PSound Tryz.prog f s:=zAu (by
  simp only [List.forall_mem_cons]
  exact ⟨zQu,by simp⟩)
 refine zAK tokW Tryz.call71 Tryz.func71 rfl (fun xs r h=>by obtain ⟨n,_,_,_,rfl,_⟩:=h; show 1 ≤ 45; decide) 45 rfl ?_;rintro xs r w0 G0 ⟨n,s1,y0,h,rfl,rfl⟩ _;rw [zE0] at h;refine zAa ?_;refine zAb [] [] rfl ?_;show Tri ..;refine zAa ?_;refine zAb [] [] rfl ?_;show Tri ..;refine zAa ?_;refine zAa ?_;refine zAb [] [] rfl ?_;show Tri ..;obtain ⟨fl,hl,ho1⟩:=zAc h;refine zEs (fl:=fl) (fun z=>match z with | points4=>⟨ofL [(0,.s (.str s1)),(3,.s (.int .i64 points4))],fun _=>none,0⟩) ?_ (fun points4 σ' hz hle=>?_)
 ·refine zAl (zAI (X:=Nat × Int × Int) (fun y=>match y with | (k,points2,i3)=>⟨ofL [(0,.s (.str s1)),(3,.s (.int .i64 points2)),(4,.s (.int .i64 i3))],fun _=>none,0⟩) (fun y=>zCe s1 y.1 y.2.1 y.2.2 = some fl) (fun y=>y.1) (n,0,0) hl ?_ ?_)
  ·exact (Le.forget _ ⟨rfl,rfl,rfl,trivial⟩)
  ·rintro ⟨k,points2,i3⟩ h;cases k with
   | zero=>cases h
   | succ k =>
    replace h : zCe s1 (k+1) points2 i3 = some fl:=h;rw [zCe] at h;refine zAa ?_;refine zAa ?_;refine zAb [] [] rfl ?_;show Tri ..;refine zAd rfl (fun hb=>?_) (fun hb=>?_)
    ·replace h:=zAn hb h;refine zAg ?_;show Tri ..;refine zAa ?_;obtain ⟨fl,hj,ho2⟩:=zAc h;refine zEs (fl:=fl) (fun z=>match z with | points5=>⟨ofL [(0,.s (.str s1)),(3,.s (.int .i64 points5)),(4,.s (.int .i64 i3))],fun _=>none,0⟩) ?_ (fun points5 σ' hz hle=>?_)
     ·replace h:=hj;refine zAl ?_;refine zAa ?_;obtain ⟨x6,hj,h⟩:=zAc h;refine zAr ⟨ofL [(0,.s (.str s1)),(3,.s (.int .i64 points2)),(4,.s (.int .i64 i3)),(25,.s (.bool x6))],fun _=>none,0⟩ ?_ (fun σ' hle=>?_)
      ·replace h:=hj;refine zAb [] [13,15,19] rfl ?_;obtain ⟨c7,hc7,h⟩:=zAc h;refine And.intro (zBh hc7).1 ?_;intro v8 hv8;obtain rfl : (c7.toNat : Int) = v8:=(hv8.trans (zBh hc7).2).symm;intro b hb;cases b with
       | true =>
        replace h:=zAn hb.symm h;intro b hb;cases b with
        | true =>
         replace h:=zAn hb.symm h;cases h;exact (Le.forget _ ⟨rfl,rfl,rfl,rfl,trivial⟩)
        | false =>
         replace h:=zAm hb.symm h;cases h;exact (Le.forget _ ⟨rfl,rfl,rfl,rfl,trivial⟩)
       | false =>
        replace h:=zAm hb.symm h;intro b hb;subst hb;cases h;exact (Le.forget _ ⟨rfl,rfl,rfl,rfl,trivial⟩)
      ·show Tri ..;refine zAj hle ?_;refine zAd rfl (fun hb=>?_) (fun hb=>?_)
       ·replace h:=zAn hb h;refine zAb [] [] rfl ?_;cases h;exact ⟨_,rfl,(Le.forget _ ⟨rfl,rfl,rfl,trivial⟩)⟩
       ·replace h:=zAm hb h;refine zAa ?_;refine zAb [] [30] rfl ?_;obtain ⟨c9,hc9,h⟩:=zAc h;refine And.intro (zBh hc9).1 ?_;intro v10 hv10;obtain rfl : (c9.toNat : Int) = v10:=(hv10.trans (zBh hc9).2).symm;obtain ⟨y11,hy11,h⟩:=zAc h;refine ⟨_,⟨_,_,hy11,rfl,rfl⟩,?_⟩
        show Tri ..;refine zAd rfl (fun hb=>?_) (fun hb=>?_)
        ·replace h:=zAn hb h;refine zAa ?_;refine zAb [] [] rfl ?_;show Tri ..;refine zAh ?_;cases h;replace h : some _ = some _:=ho2;cases h;replace h : some _ = some _:=ho1;have hy:=Option.some.inj h;subst hy;unfold zAA;exact ⟨_,Le.refl _ _,rfl,rfl⟩
        ·replace h:=zAm hb h;refine zAg ?_;cases h;exact ⟨_,rfl,(Le.forget _ ⟨rfl,rfl,rfl,trivial⟩)⟩
     ·subst hz;replace h:=ho2;show Tri ..;refine zAj hle ?_;refine zAb [] [] rfl ?_;refine ⟨(k,points5,IntKind.i64.wrap (i3 + 1)),h,(Le.forget _ ⟨rfl,rfl,rfl,trivial⟩),Nat.lt_succ_self k⟩
    ·replace h:=zAm hb h;refine zAM ?_;cases h;exact ⟨_,rfl,(Le.forget _ ⟨rfl,rfl,trivial⟩)⟩
 ·subst hz;replace h:=ho1;show Tri ..;refine zAj hle ?_;refine zAa ?_;obtain ⟨x12,hj,h⟩:=zAc h;refine zAr ⟨ofL [(2,.s (.bool x12))],fun _=>none,0⟩ ?_ (fun σ' hle=>?_)
  ·replace h:=hj;refine zAb [] [36,41] rfl ?_;intro b hb;cases b with
   | true =>
    replace h:=zAn hb.symm h;intro b hb;cases b with
    | true =>
     replace h:=zAn hb.symm h;cases h;exact (Le.forget _ ⟨rfl,trivial⟩)
    | false =>
     replace h:=zAm hb.symm h;cases h;exact (Le.forget _ ⟨rfl,trivial⟩)
   | false =>
    replace h:=zAm hb.symm h;intro b hb;subst hb;cases h;exact (Le.forget _ ⟨rfl,trivial⟩)
  ·show Tri ..;refine zAj hle ?_;refine zAh ?_;have hy:=Option.some.inj h;subst hy;unfold zAA;exact ⟨_,Le.refl _ _,rfl,rfl⟩
def zLs (n : Nat) (xs : List AV) (r : Ret) : Prop:=∃ (a0 : List UInt8) (y0 : Bool),zDr n a0 = some y0 ∧ xs = [.s (.str a0)] ∧ r = .val (.s (.bool y0))
def zHv : zAt:=zAG fun xs r=>∃ n,zLs n xs r
theorem zK1 : PSound Tryz.prog 72 zHv:=by
 have gok : ∀ (f : Nat) (s : zAt),(fun _=>none : Nat → Option zAt) f = some s → PSound Tryz.prog f s:=fun _ _ h=>by cases h
 refine zAK tokW Tryz.call72 Tryz.func72 rfl (fun xs r h=>by obtain ⟨n,_,_,_,rfl,_⟩:=h; show 1 ≤ 20; decide) 20 rfl ?_;rintro xs r w0 G0 ⟨n,s1,y0,h,rfl,rfl⟩ _;rw [zDr] at h;refine zAa ?_;refine zAb [] [] rfl ?_;show Tri ..;refine zAa ?_;refine zAa ?_;refine zAb [] [] rfl ?_;show Tri ..;obtain ⟨fl,hl,ho1⟩:=zAc h;refine zEs (fl:=fl) (fun z=>match z with | _=>⟨ofL [],fun _=>none,0⟩) ?_ (fun z σ' hz hle=>?_)
 ·refine zAl (zAI (X:=Nat × Int) (fun y=>match y with | (k,i2)=>⟨ofL [(0,.s (.str s1)),(3,.s (.int .i64 i2))],fun _=>none,0⟩) (fun y=>zBp s1 y.1 y.2 = some fl) (fun y=>y.1) (n,0) hl ?_ ?_)
  ·exact (Le.forget _ ⟨rfl,rfl,trivial⟩)
  ·rintro ⟨k,i2⟩ h;cases k with
   | zero=>cases h
   | succ k =>
    replace h : zBp s1 (k+1) i2 = some fl:=h;rw [zBp] at h;refine zAa ?_;refine zAa ?_;refine zAb [] [] rfl ?_;show Tri ..;refine zAd rfl (fun hb=>?_) (fun hb=>?_)
    ·replace h:=zAn hb h;refine zAg ?_;show Tri ..;refine zAa ?_;refine zAl ?_;refine zAa ?_;obtain ⟨x3,hj,h⟩:=zAc h;refine zAr ⟨ofL [(0,.s (.str s1)),(3,.s (.int .i64 i2)),(19,.s (.bool x3))],fun _=>none,0⟩ ?_ (fun σ' hle=>?_)
     ·replace h:=hj;refine zAb [] [12,14,17] rfl ?_;obtain ⟨c4,hc4,h⟩:=zAc h;refine And.intro (zBh hc4).1 ?_;intro v5 hv5;obtain rfl : (c4.toNat : Int) = v5:=(hv5.trans (zBh hc4).2).symm;intro b hb;cases b with
      | true =>
       replace h:=zAn hb.symm h;cases h;exact (Le.forget _ ⟨rfl,rfl,rfl,trivial⟩)
      | false =>
       replace h:=zAm hb.symm h;obtain ⟨c6,hc6,h⟩:=zAc h;refine And.intro (zBh hc6).1 ?_;intro v7 hv7;obtain rfl : (c6.toNat : Int) = v7:=(hv7.trans (zBh hc6).2).symm;cases h;exact (Le.forget _ ⟨rfl,rfl,rfl,trivial⟩)
     ·show Tri ..;refine zAj hle ?_;refine zAd rfl (fun hb=>?_) (fun hb=>?_)
      ·replace h:=zAn hb h;refine zAa ?_;refine zAb [] [] rfl ?_;show Tri ..;refine zAh ?_;cases h;replace h : some _ = some _:=ho1;have hy:=Option.some.inj h;subst hy;unfold zAA;exact ⟨_,Le.refl _ _,rfl,rfl⟩
      ·replace h:=zAm hb h;refine zAg ?_;show Tri ..;refine zAb [] [] rfl ?_;refine ⟨(k,IntKind.i64.wrap (i2 + 1)),h,(Le.forget _ ⟨rfl,rfl,trivial⟩),Nat.lt_succ_self k⟩
    ·replace h:=zAm hb h;refine zAM ?_;cases h;exact ⟨_,rfl,(Le.forget _ trivial)⟩
 ·subst hz;obtain _:=z;replace h:=ho1;show Tri ..;refine zAj hle ?_;refine zAa ?_;refine zAb [] [] rfl ?_;show Tri ..;refine zAh ?_;have hy:=Option.some.inj h;subst hy;unfold zAA;exact ⟨_,Le.refl _ _,rfl,rfl⟩
def zSI (n : Nat) (xs : List AV) (r : Ret) : Prop:=∃ (a0 : Nd) (y0 : Bool),zGF n a0 = some y0 ∧ xs = [.agg ((Nd.enc a0).map .s)] ∧ r = .val (.s (.bool y0))
def zNf : zAt:=zAG fun xs r=>∃ n,zSI n xs r
theorem zRG : PSound Tryz.prog 48 zNf:=by
 have gok : ∀ f s,look? f [(70,zKy),(71,zKx),(72,zHv),(74,zGP),(73,zOa),(75,zLE)] = some s → PSound Tryz.prog f s:=zAu (by
  simp only [List.forall_mem_cons]
  exact ⟨zOK,zOJ,zK1,zIz,zQw,zND,by simp⟩)
 refine zAK tokW Tryz.call48 Tryz.func48 rfl (fun xs r h=>by obtain ⟨n,_,_,_,rfl,_⟩:=h; show 1 ≤ 53; decide) 53 rfl ?_;rintro xs r w0 G0 ⟨n,⟨n1A,n1C,n1D,n1B⟩,y0,h,rfl,rfl⟩ _;rw [zGF] at h;refine zAa ?_;refine zAb [] [] rfl ?_;show Tri ..;refine zAa ?_;refine zAa ?_;refine zAb [] [] rfl ?_;show Tri ..;refine zAl ?_;refine zAa ?_;refine zAb [] [] rfl ?_;show Tri ..;refine zAd rfl (fun hb=>?_) (fun hb=>?_)
 ·replace h:=zAn hb h;refine zAa ?_;refine zAb [] [] rfl ?_;obtain ⟨y2,hy2,h⟩:=zAc h;refine ⟨_,⟨_,_,_,hy2,rfl,rfl⟩,?_⟩
  show Tri ..;refine zAh ?_;have hy:=Option.some.inj h;subst hy;unfold zAA;exact ⟨_,Le.refl _ _,rfl,rfl⟩
 ·replace h:=zAm hb h;refine zAa ?_;refine zAb [] [] rfl ?_;show Tri ..;refine zAd rfl (fun hb=>?_) (fun hb=>?_)
  ·replace h:=zAn hb h;refine zAa ?_;refine zAb [] [] rfl ?_;obtain ⟨y3,hy3,h⟩:=zAc h;refine ⟨_,⟨_,_,_,hy3,rfl,rfl⟩,?_⟩
   show Tri ..;refine zAh ?_;have hy:=Option.some.inj h;subst hy;unfold zAA;exact ⟨_,Le.refl _ _,rfl,rfl⟩
  ·replace h:=zAm hb h;refine zAa ?_;refine zAb [] [] rfl ?_;show Tri ..;refine zAd rfl (fun hb=>?_) (fun hb=>?_)
   ·replace h:=zAn hb h;refine zAa ?_;obtain ⟨x4,hj,h⟩:=zAc h;refine zAr ⟨ofL [(2,.s (.bool x4))],fun _=>none,0⟩ ?_ (fun σ' hle=>?_)
    ·replace h:=hj;refine zAb [] [21] rfl ?_;intro b hb;cases b with
     | true =>
      replace h:=zAn hb.symm h;obtain ⟨y5,hy5,h⟩:=zAc h;refine ⟨_,⟨_,_,_,hy5,rfl,rfl⟩,?_⟩
      cases h;exact (Le.forget _ ⟨rfl,trivial⟩)
     | false =>
      replace h:=zAm hb.symm h;cases h;exact (Le.forget _ ⟨rfl,trivial⟩)
    ·show Tri ..;refine zAj hle ?_;refine zAh ?_;have hy:=Option.some.inj h;subst hy;unfold zAA;exact ⟨_,Le.refl _ _,rfl,rfl⟩
   ·replace h:=zAm hb h;refine zAa ?_;refine zAb [] [] rfl ?_;show Tri ..;refine zAd rfl (fun hb=>?_) (fun hb=>?_)
    ·replace h:=zAn hb h;refine zAa ?_;refine zAB (by exact tokW) (by exact gok) (by exact mixed) [] [] [] rfl (by decide +kernel) ?_;obtain ⟨y6,hy6,h⟩:=zAc h;refine ⟨_,⟨_,hy6,rfl,rfl⟩,?_⟩
     obtain ⟨y7,hy7,h⟩:=zAc h;refine ⟨_,⟨_,_,_,_,hy7,rfl,rfl⟩,?_⟩
     show Tri ..;refine zAh ?_;have hy:=Option.some.inj h;subst hy;unfold zAA;exact ⟨_,Le.refl _ _,rfl,rfl⟩
    ·replace h:=zAm hb h;refine zAa ?_;refine zAb [] [] rfl ?_;show Tri ..;refine zAd rfl (fun hb=>?_) (fun hb=>?_)
     ·replace h:=zAn hb h;refine zAa ?_;obtain ⟨x8,hj,h⟩:=zAc h;refine zAr ⟨ofL [(2,.s (.bool x8))],fun _=>none,0⟩ ?_ (fun σ' hle=>?_)
      ·replace h:=hj;refine zAb [] [38,41,44,47] rfl ?_;intro b hb;cases b with
       | true =>
        replace h:=zAn hb.symm h;obtain ⟨c9,hc9,h⟩:=zAc h;refine And.intro (zBh hc9).1 ?_;intro v10 hv10;obtain rfl : (c9.toNat : Int) = v10:=(hv10.trans (zBh hc9).2).symm;obtain ⟨y11,hy11,h⟩:=zAc h;refine ⟨_,⟨_,_,_,_,hy11,rfl,rfl⟩,?_⟩
        intro b hb;cases b with
        | true =>
         replace h:=zAn hb.symm h;obtain ⟨c12,hc12,h⟩:=zAc h;refine And.intro (zBh hc12).1 ?_;intro v13 hv13;obtain rfl : (c12.toNat : Int) = v13:=(hv13.trans (zBh hc12).2).symm;obtain ⟨y14,hy14,h⟩:=zAc h;refine ⟨_,⟨_,_,_,_,hy14,rfl,rfl⟩,?_⟩
         cases h;exact (Le.forget _ ⟨rfl,trivial⟩)
        | false =>
         replace h:=zAm hb.symm h;cases h;exact (Le.forget _ ⟨rfl,trivial⟩)
       | false =>
        replace h:=zAm hb.symm h;intro b hb;subst hb;cases h;exact (Le.forget _ ⟨rfl,trivial⟩)
      ·show Tri ..;refine zAj hle ?_;refine zAh ?_;have hy:=Option.some.inj h;subst hy;unfold zAA;exact ⟨_,Le.refl _ _,rfl,rfl⟩
     ·replace h:=zAm hb h;refine zAg ?_;show Tri ..;refine zAa ?_;refine zAb [] [] rfl ?_;show Tri ..;refine zAh ?_;have hy:=Option.some.inj h;subst hy;unfold zAA;exact ⟨_,Le.refl _ _,rfl,rfl⟩
def zSH (xs : List AV) (r : Ret) : Prop:=∃ (a0 : Nd) (y0 : Bool),zGE a0 = some y0 ∧ xs = [.agg ((Nd.enc a0).map .s)] ∧ r = .val (.s (.bool y0))
def zNd : zAt:=zAG fun xs r=>zSH xs r
theorem zRE : PSound Tryz.prog 49 zNd:=by
 have gok : ∀ (f : Nat) (s : zAt),(fun _=>none : Nat → Option zAt) f = some s → PSound Tryz.prog f s:=fun _ _ h=>by cases h
 refine zAK tokW Tryz.call49 Tryz.func49 rfl (fun xs r h=>by obtain ⟨_,_,_,rfl,_⟩:=h; show 1 ≤ 64; decide) 64 rfl ?_;rintro xs r w0 G0 ⟨⟨n1A,n1C,n1D,n1B⟩,y0,h,rfl,rfl⟩ _;rw [zGE] at h;refine zAa ?_;refine zAb [] [] rfl ?_;show Tri ..;refine zAa ?_;refine zAb [] [6] rfl ?_;intro n2 hn2;obtain rfl : (n1B.length : Int) = n2:=(hn2.trans (congrArg (fun m : Nat=>(m : Int)) (rlen Nd.encs_eq n1B))).symm;show Tri ..;refine zAa ?_;refine zAa ?_;refine zAb [] [] rfl ?_;show Tri ..;refine zAd rfl (fun hb=>?_) (fun hb=>?_)
 ·replace h:=zAn hb h;refine zAa ?_;obtain ⟨x3,hj,h⟩:=zAc h;refine zAr ⟨ofL [(2,.s (.bool x3))],fun _=>none,0⟩ ?_ (fun σ' hle=>?_)
  ·replace h:=hj;refine zAb [] [13,18,22,26] rfl ?_;intro b hb;cases b with
   | true =>
    replace h:=zAn hb.symm h;intro b hb;cases b with
    | true =>
     replace h:=zAn hb.symm h;intro b hb;cases b with
     | true =>
      replace h:=zAn hb.symm h;intro b hb;cases b with
      | true =>
       replace h:=zAn hb.symm h;obtain ⟨hq,h⟩:=zAR h;refine And.intro hq ?_;cases h;exact (Le.forget _ ⟨rfl,trivial⟩)
      | false =>
       replace h:=zAm hb.symm h;cases h;exact (Le.forget _ ⟨rfl,trivial⟩)
     | false =>
      replace h:=zAm hb.symm h;intro b hb;subst hb;cases h;exact (Le.forget _ ⟨rfl,trivial⟩)
    | false =>
     replace h:=zAm hb.symm h;intro b hb;subst hb;intro b hb;subst hb;cases h;exact (Le.forget _ ⟨rfl,trivial⟩)
   | false =>
    replace h:=zAm hb.symm h;intro b hb;subst hb;intro b hb;subst hb;intro b hb;subst hb;cases h;exact (Le.forget _ ⟨rfl,trivial⟩)
  ·show Tri ..;refine zAj hle ?_;refine zAh ?_;have hy:=Option.some.inj h;subst hy;unfold zAA;exact ⟨_,Le.refl _ _,rfl,rfl⟩
 ·replace h:=zAm hb h;refine zAg ?_;show Tri ..;refine zAa ?_;refine zAa ?_;refine zAb [] [] rfl ?_;show Tri ..;refine zAd rfl (fun hb=>?_) (fun hb=>?_)
  ·replace h:=zAn hb h;refine zAa ?_;refine zAb [] [] rfl ?_;show Tri ..;refine zAh ?_;have hy:=Option.some.inj h;subst hy;unfold zAA;exact ⟨_,Le.refl _ _,rfl,rfl⟩
  ·replace h:=zAm hb h;refine zAg ?_;show Tri ..;refine zAa ?_;refine zAa ?_;refine zAb [] [] rfl ?_;show Tri ..;obtain ⟨fl,hj,ho1⟩:=zAc h;refine zEs (fl:=fl) (fun z=>match z with | _=>⟨ofL [],fun _=>none,0⟩) ?_ (fun z σ' hz hle=>?_)
   ·replace h:=hj;refine zAl ?_;refine zAa ?_;refine zAb [] [] rfl ?_;show Tri ..;refine zAd rfl (fun hb=>?_) (fun hb=>?_)
    ·replace h:=zAn hb h;refine zAa ?_;refine zAb [] [] rfl ?_;show Tri ..;refine zAh ?_;cases h;replace h : some _ = some _:=ho1;have hy:=Option.some.inj h;subst hy;unfold zAA;exact ⟨_,Le.refl _ _,rfl,rfl⟩
    ·replace h:=zAm hb h;refine zAa ?_;refine zAa ?_;refine zAb [] [] rfl ?_;show Tri ..;obtain ⟨x4,hj,h⟩:=zAc h;refine zAr ⟨ofL [(3,.s (.int .i64 (n1B.length : Int))),(37,.s (.int .i64 n1A)),(42,.s (.bool x4))],fun _=>none,0⟩ ?_ (fun σ' hle=>?_)
     ·replace h:=hj;refine zAd rfl (fun hb=>?_) (fun hb=>?_)
      ·replace h:=zAn hb h;refine zAg ?_;cases h;exact (Le.forget _ ⟨rfl,rfl,rfl,trivial⟩)
      ·replace h:=zAm hb h;refine zAa ?_;refine zAb [] [] rfl ?_;show Tri ..;refine zAd rfl (fun hb=>?_) (fun hb=>?_)
       ·replace h:=zAn hb h;refine zAg ?_;cases h;exact (Le.forget _ ⟨rfl,rfl,rfl,trivial⟩)
       ·replace h:=zAm hb h;refine zAb [] [] rfl ?_;cases h;exact (Le.forget _ ⟨rfl,rfl,rfl,trivial⟩)
     ·show Tri ..;refine zAj hle ?_;refine zAd rfl (fun hb=>?_) (fun hb=>?_)
      ·replace h:=zAn hb h;refine zAa ?_;refine zAb [] [] rfl ?_;show Tri ..;refine zAh ?_;cases h;replace h : some _ = some _:=ho1;have hy:=Option.some.inj h;subst hy;unfold zAA;exact ⟨_,Le.refl _ _,rfl,rfl⟩
      ·replace h:=zAm hb h;refine zAa ?_;refine zAa ?_;refine zAb [] [] rfl ?_;show Tri ..;obtain ⟨x5,hj,h⟩:=zAc h;refine zAr ⟨ofL [(3,.s (.int .i64 (n1B.length : Int))),(37,.s (.int .i64 n1A)),(48,.s (.bool x5))],fun _=>none,0⟩ ?_ (fun σ' hle=>?_)
       ·replace h:=hj;refine zAd rfl (fun hb=>?_) (fun hb=>?_)
        ·replace h:=zAn hb h;refine zAg ?_;cases h;exact (Le.forget _ ⟨rfl,rfl,rfl,trivial⟩)
        ·replace h:=zAm hb h;refine zAa ?_;refine zAb [] [] rfl ?_;show Tri ..;refine zAd rfl (fun hb=>?_) (fun hb=>?_)
         ·replace h:=zAn hb h;refine zAg ?_;cases h;exact (Le.forget _ ⟨rfl,rfl,rfl,trivial⟩)
         ·replace h:=zAm hb h;refine zAa ?_;refine zAb [] [] rfl ?_;show Tri ..;refine zAd rfl (fun hb=>?_) (fun hb=>?_)
          ·replace h:=zAn hb h;refine zAg ?_;cases h;exact (Le.forget _ ⟨rfl,rfl,rfl,trivial⟩)
          ·replace h:=zAm hb h;refine zAb [] [] rfl ?_;cases h;exact (Le.forget _ ⟨rfl,rfl,rfl,trivial⟩)
       ·show Tri ..;refine zAj hle ?_;refine zAd rfl (fun hb=>?_) (fun hb=>?_)
        ·replace h:=zAn hb h;refine zAa ?_;refine zAb [] [] rfl ?_;show Tri ..;refine zAh ?_;cases h;replace h : some _ = some _:=ho1;have hy:=Option.some.inj h;subst hy;unfold zAA;exact ⟨_,Le.refl _ _,rfl,rfl⟩
        ·replace h:=zAm hb h;refine zAa ?_;refine zAb [] [] rfl ?_;show Tri ..;refine zAd rfl (fun hb=>?_) (fun hb=>?_)
         ·replace h:=zAn hb h;refine zAa ?_;refine zAb [] [] rfl ?_;show Tri ..;refine zAh ?_;cases h;replace h : some _ = some _:=ho1;have hy:=Option.some.inj h;subst hy;unfold zAA;exact ⟨_,Le.refl _ _,rfl,rfl⟩
         ·replace h:=zAm hb h;refine zAa ?_;refine zAa ?_;refine zAb [] [] rfl ?_;show Tri ..;obtain ⟨x6,hj,h⟩:=zAc h;refine zAr ⟨ofL [(3,.s (.int .i64 (n1B.length : Int))),(59,.s (.bool x6))],fun _=>none,0⟩ ?_ (fun σ' hle=>?_)
          ·replace h:=hj;refine zAd rfl (fun hb=>?_) (fun hb=>?_)
           ·replace h:=zAn hb h;refine zAg ?_;cases h;exact (Le.forget _ ⟨rfl,rfl,trivial⟩)
           ·replace h:=zAm hb h;refine zAb [] [] rfl ?_;cases h;exact (Le.forget _ ⟨rfl,rfl,trivial⟩)
          ·show Tri ..;refine zAj hle ?_;refine zAd rfl (fun hb=>?_) (fun hb=>?_)
           ·replace h:=zAn hb h;refine zAa ?_;refine zAb [] [] rfl ?_;show Tri ..;refine zAh ?_;cases h;replace h : some _ = some _:=ho1;have hy:=Option.some.inj h;subst hy;unfold zAA;exact ⟨_,Le.refl _ _,rfl,rfl⟩
           ·replace h:=zAm hb h;refine zAg ?_;cases h;exact ⟨_,rfl,(Le.forget _ trivial)⟩
   ·subst hz;obtain _:=z;replace h:=ho1;show Tri ..;refine zAj hle ?_;refine zAa ?_;refine zAb [] [] rfl ?_;show Tri ..;refine zAh ?_;have hy:=Option.some.inj h;subst hy;unfold zAA;exact ⟨_,Le.refl _ _,rfl,rfl⟩
def zGm (n : Nat) (xs : List AV) (r : Ret) : Prop:=∃ (a0 : Nd) (y0 : Bool),zDD n a0 = some y0 ∧ xs = [.agg ((Nd.enc a0).map .s)] ∧ r = .val (.s (.bool y0))
theorem zO0 (n : Nat) (ih : PSound Tryz.prog 27 (zAG (zGm n))) : PSound Tryz.prog 27 (zAG (zGm (n + 1))):=by
 have gok : ∀ f s,look? f [(48,zNf),(49,zNd),(27,zAG (zGm n))] = some s → PSound Tryz.prog f s:=zAu (by
  simp only [List.forall_mem_cons]
  exact ⟨zRG,zRE,ih,by simp⟩)
 refine zAK tokW Tryz.call27 Tryz.func27 rfl (fun xs r h=>by obtain ⟨_,_,_,rfl,_⟩:=h; show 1 ≤ 39; decide) 39 rfl ?_;rintro xs r w0 G0 ⟨⟨n1A,n1C,n1D,n1B⟩,y0,h,rfl,rfl⟩ _;rw [zDD] at h;refine zAa ?_;refine zAb [] [] rfl ?_;show Tri ..;refine zAa ?_;refine zAa ?_;obtain ⟨x2,hj,h⟩:=zAc h;refine zAr ⟨ofL [(1,.s (.pt [.int .i64 n1A,.str n1C,.int .i64 n1D,.sl 4 (Nd.encs n1B)])),(11,.s (.bool x2))],fun _=>none,0⟩ ?_ (fun σ' hle=>?_)
 ·replace h:=hj;refine zAb [] [7] rfl ?_;obtain ⟨y3,hy3,h⟩:=zAc h;refine ⟨_,⟨_,_,_,hy3,rfl,rfl⟩,?_⟩
  intro b hb;cases b with
  | true =>
   replace h:=zAn hb.symm h;cases h;exact (Le.forget _ ⟨rfl,rfl,trivial⟩)
  | false =>
   replace h:=zAm hb.symm h;obtain ⟨y4,hy4,h⟩:=zAc h;refine ⟨_,⟨_,_,hy4,rfl,rfl⟩,?_⟩
   cases h;exact (Le.forget _ ⟨rfl,rfl,trivial⟩)
 ·show Tri ..;refine zAj hle ?_;refine zAd rfl (fun hb=>?_) (fun hb=>?_)
  ·replace h:=zAn hb h;refine zAa ?_;refine zAb [] [] rfl ?_;show Tri ..;refine zAh ?_;have hy:=Option.some.inj h;subst hy;unfold zAA;exact ⟨_,Le.refl _ _,rfl,rfl⟩
  ·replace h:=zAm hb h;refine zAg ?_;show Tri ..;refine zAa ?_;refine zAa ?_;refine zAb [] [] rfl ?_;show Tri ..;obtain ⟨fl,hl,ho1⟩:=zAc h;refine zEs (fl:=fl) (fun z=>match z with | _=>⟨ofL [],fun _=>none,0⟩) ?_ (fun z σ' hz hle=>?_)
   ·refine zAl (zAI (X:=Nat × Int) (fun y=>match y with | (k,i5)=>⟨ofL [(1,.s (.pt [.int .i64 n1A,.str n1C,.int .i64 n1D,.sl 4 (Nd.encs n1B)])),(3,.s (.int .i64 i5))],fun _=>none,0⟩) (fun y=>zCY (zDD n) n1A n1B y.1 y.2 = some fl) (fun y=>y.1) (n,0) hl ?_ ?_)
    ·exact (Le.forget _ ⟨rfl,rfl,trivial⟩)
    ·rintro ⟨k,i5⟩ h;cases k with
     | zero=>cases h
     | succ k =>
      replace h : zCY (zDD n) n1A n1B (k+1) i5 = some fl:=h;rw [zCY] at h;refine zAa ?_;refine zAa ?_;refine zAb [] [15] rfl ?_;intro n6 hn6;obtain rfl : (n1B.length : Int) = n6:=(hn6.trans (congrArg (fun m : Nat=>(m : Int)) (rlen Nd.encs_eq n1B))).symm;show Tri ..;refine zAd rfl (fun hb=>?_) (fun hb=>?_)
      ·replace h:=zAn hb h;refine zAg ?_;show Tri ..;refine zAa ?_;refine zAl ?_;refine zAa ?_;obtain ⟨x7,hj,h⟩:=zAc h;refine zAr ⟨ofL [(1,.s (.pt [.int .i64 n1A,.str n1C,.int .i64 n1D,.sl 4 (Nd.encs n1B)])),(3,.s (.int .i64 i5)),(38,.s (.bool x7))],fun _=>none,0⟩ ?_ (fun σ' hle=>?_)
       ·replace h:=hj;refine zAB (by exact tokW) (by exact gok) (by exact mixed) [] [22,30,34] [] rfl (by decide +kernel) ?_;obtain ⟨⟨e8A,e8C,e8D,e8B⟩,he8,h⟩:=zAc h;refine And.intro (zAC Nd.encs_eq he8).1 ?_;intro r9 hr9;obtain rfl : [.int .i64 e8A,.str e8C,.int .i64 e8D,.sl 4 (Nd.encs e8B)] = r9:=(hr9.trans (zAC Nd.encs_eq he8).2.1).symm;intro b hb;cases b with
        | true =>
         replace h:=zAn hb.symm h;cases h;exact (Le.forget _ ⟨rfl,rfl,rfl,trivial⟩)
        | false =>
         replace h:=zAm hb.symm h;obtain ⟨⟨e10A,e10C,e10D,e10B⟩,he10,h⟩:=zAc h;refine And.intro (zAC Nd.encs_eq he10).1 ?_;intro r11 hr11;obtain rfl : [.int .i64 e10A,.str e10C,.int .i64 e10D,.sl 4 (Nd.encs e10B)] = r11:=(hr11.trans (zAC Nd.encs_eq he10).2.1).symm;obtain ⟨y12,hy12,h⟩:=zAc h;refine ⟨_,⟨_,_,hy12,rfl,rfl⟩,?_⟩
         cases h;exact (Le.forget _ ⟨rfl,rfl,rfl,trivial⟩)
       ·show Tri ..;refine zAj hle ?_;refine zAd rfl (fun hb=>?_) (fun hb=>?_)
        ·replace h:=zAn hb h;refine zAa ?_;refine zAb [] [] rfl ?_;show Tri ..;refine zAh ?_;cases h;replace h : some _ = some _:=ho1;have hy:=Option.some.inj h;subst hy;unfold zAA;exact ⟨_,Le.refl _ _,rfl,rfl⟩
        ·replace h:=zAm hb h;refine zAg ?_;show Tri ..;refine zAb [] [] rfl ?_;refine ⟨(k,IntKind.i64.wrap (i5 + 1)),h,(Le.forget _ ⟨rfl,rfl,trivial⟩),Nat.lt_succ_self k⟩
      ·replace h:=zAm hb h;refine zAM ?_;cases h;exact ⟨_,rfl,(Le.forget _ trivial)⟩
   ·subst hz;obtain _:=z;replace h:=ho1;show Tri ..;refine zAj hle ?_;refine zAa ?_;refine zAb [] [] rfl ?_;show Tri ..;refine zAh ?_;have hy:=Option.some.inj h;subst hy;unfold zAA;exact ⟨_,Le.refl _ _,rfl,rfl⟩
theorem zPv : ∀ n,PSound Tryz.prog 27 (zAG (zGm n)):=by
 intro n
 induction n with
 | zero=>exact zCz Tryz.call27 (fun xs r h=>by obtain ⟨_,_,h,_⟩:=h; cases h)
 | succ n ih=>exact zO0 n ih
def zNc : zAt:=zAG fun xs r=>∃ n,zGm n xs r
theorem zRD : PSound Tryz.prog 27 zNc:=zEd zPv
def zFu (n : Nat) (xs : List AV) (r : Ret) : Prop:=∃ (a0 : Nd) (y0 : Int),zCX n a0 = some y0 ∧ xs = [.agg ((Nd.enc a0).map .s)] ∧ r = .val (.s (.int .i64 y0))
theorem zM7 (n : Nat) (ih : PSound Tryz.prog 29 (zAG (zFu n))) : PSound Tryz.prog 29 (zAG (zFu (n + 1))):=by
 have gok : ∀ f s,look? f [(29,zAG (zFu n))] = some s → PSound Tryz.prog f s:=zAu (by
  simp only [List.forall_mem_cons]
  exact ⟨ih,by simp⟩)
 refine zAK tokW Tryz.call29 Tryz.func29 rfl (fun xs r h=>by obtain ⟨_,_,_,rfl,_⟩:=h; show 1 ≤ 22; decide) 22 rfl ?_;rintro xs r w0 G0 ⟨⟨n1A,n1C,n1D,n1B⟩,y0,h,rfl,rfl⟩ _;rw [zCX] at h;refine zAa ?_;refine zAb [] [] rfl ?_;show Tri ..;refine zAa ?_;refine zAb [] [] rfl ?_;show Tri ..;refine zAa ?_;refine zAa ?_;refine zAb [] [] rfl ?_;show Tri ..;obtain ⟨out4,hl,h⟩:=zAc h;refine zAr ⟨ofL [(3,.s (.int .i64 out4))],fun _=>none,0⟩ ?_ (fun σ' hle=>?_)
 ·refine zAl (zAI (X:=Nat × Int × Int) (fun y=>match y with | (k,out2,i3)=>⟨ofL [(1,.s (.pt [.int .i64 n1A,.str n1C,.int .i64 n1D,.sl 4 (Nd.encs n1B)])),(3,.s (.int .i64 out2)),(4,.s (.int .i64 i3))],fun _=>none,0⟩) (fun y=>zCy (zCX n) n1B y.1 y.2.1 y.2.2 = some out4) (fun y=>y.1) (n,0,0) hl ?_ ?_)
  ·exact (Le.forget _ ⟨rfl,rfl,rfl,trivial⟩)
  ·rintro ⟨k,out2,i3⟩ h;cases k with
   | zero=>cases h
   | succ k =>
    replace h : zCy (zCX n) n1B (k+1) out2 i3 = some out4:=h;rw [zCy] at h;refine zAa ?_;refine zAa ?_;refine zAb [] [8] rfl ?_;intro n5 hn5;obtain rfl : (n1B.length : Int) = n5:=(hn5.trans (congrArg (fun m : Nat=>(m : Int)) (rlen Nd.encs_eq n1B))).symm;show Tri ..;refine zAd rfl (fun hb=>?_) (fun hb=>?_)
    ·replace h:=zAn hb h;refine zAg ?_;show Tri ..;refine zAa ?_;refine zAl ?_;refine zAb [] [16] rfl ?_;obtain ⟨⟨e6A,e6C,e6D,e6B⟩,he6,h⟩:=zAc h;refine And.intro (zAC Nd.encs_eq he6).1 ?_;intro r7 hr7;obtain rfl : [.int .i64 e6A,.str e6C,.int .i64 e6D,.sl 4 (Nd.encs e6B)] = r7:=(hr7.trans (zAC Nd.encs_eq he6).2.1).symm;obtain ⟨y8,hy8,h⟩:=zAc h;refine ⟨_,⟨_,_,hy8,rfl,rfl⟩,?_⟩
     show Tri ..;refine zAb [] [] rfl ?_;refine ⟨(k,(if out2 < y8 then y8 else out2),IntKind.i64.wrap (i3 + 1)),h,(Le.forget _ ⟨rfl,rfl,rfl,trivial⟩),Nat.lt_succ_self k⟩
    ·replace h:=zAm hb h;refine zAM ?_;cases h;exact (Le.forget _ ⟨rfl,trivial⟩)
 ·show Tri ..;refine zAj hle ?_;refine zAa ?_;refine zAb [] [] rfl ?_;show Tri ..;refine zAh ?_;have hy:=Option.some.inj h;subst hy;unfold zAA;exact ⟨_,Le.refl _ _,rfl,rfl⟩
theorem zOe : ∀ n,PSound Tryz.prog 29 (zAG (zFu n)):=by
 intro n
 induction n with
 | zero=>exact zCz Tryz.call29 (fun xs r h=>by obtain ⟨_,_,h,_⟩:=h; cases h)
 | succ n ih=>exact zM7 n ih
def zLA : zAt:=zAG fun xs r=>∃ n,zFu n xs r
theorem zQt : PSound Tryz.prog 29 zLA:=zEd zOe
def zN3 (n : Nat) (xs : List AV) (r : Ret) : Prop:=∃ (a0 : List UInt8) (y0 : Nd),zFg n a0 = some y0 ∧ xs = [.s (.str a0)] ∧ r = .val (.agg ((Nd.enc y0).map .s))
def zJm : zAt:=zAG fun xs r=>∃ n,zN3 n xs r
theorem zMV : PSound Tryz.prog 20 zJm:=by
 have gok : ∀ (f : Nat) (s : zAt),(fun _=>none : Nat → Option zAt) f = some s → PSound Tryz.prog f s:=fun _ _ h=>by cases h
 refine zAK tokW Tryz.call20 Tryz.func20 rfl (fun xs r h=>by obtain ⟨n,_,_,_,rfl,_⟩:=h; show 1 ≤ 24; decide) 24 rfl ?_;rintro xs r w0 G0 ⟨n,s1,y0,h,rfl,rfl⟩ _;rw [zFg] at h;refine zAa ?_;refine zAb [2] [] rfl ?_;show Tri ..;refine zAa ?_;refine zAb [3] [] rfl ?_;show Tri ..;refine zAa ?_;refine zAa ?_;refine zAb [] [] rfl ?_;show Tri ..;obtain ⟨l6,hl,h⟩:=zAc h;refine zAr ⟨ofL [(2,.op 0 0),(3,.op 1 0)],ofH [(0,.box 24 [.s (.int .i64 0),.s (.str []),.s (.int .i64 0),.nl 4]),(1,.box 24 [.s (.int .i64 1),.s (.str []),.s (.int .i64 0),.orow 2]),(2,.row 24 4 (Nd.encs l6))],3⟩ ?_ (fun σ' hle=>?_)
 ·refine zAl (zAI (X:=Nat × Int × (List Nd)) (fun y=>match y with | (k,i4,l5)=>⟨ofL [(0,.s (.str s1)),(2,.op 0 0),(3,.op 1 0),(4,.s (.int .i64 i4))],ofH [(0,.box 24 [.s (.int .i64 0),.s (.str []),.s (.int .i64 0),.nl 4]),(1,.box 24 [.s (.int .i64 1),.s (.str []),.s (.int .i64 0),.orow 2]),(2,.row 24 4 (Nd.encs l5))],3⟩) (fun y=>zC8 s1 y.1 y.2.1 y.2.2 = some l6) (fun y=>y.1) (n,0,[]) hl ?_ ?_)
  ·exact (Le.trans (Le.trans (Le.rnm [(0,0),(1,1)] [(0,.s (.str s1)),(2,.op 0 0),(3,.op 1 0),(4,.s (.int .i64 0))] [(0,.box 24 [.s (.int .i64 0),.s (.str []),.s (.int .i64 0),.nl 4]),(1,.box 24 [.s (.int .i64 1),.s (.str []),.s (.int .i64 0),.nl 4])] 2 ⟨rfl,rfl,rfl,rfl,trivial⟩ ⟨rfl,⟨_,rfl,rfl⟩,rfl,⟨_,rfl,rfl⟩,trivial⟩) (Le.takeNil 1 3 24 rfl rfl (by decide))) (Le.rnm [(0,0),(1,1),(2,2)] _ _ _ ⟨rfl,rfl,rfl,rfl,trivial⟩ ⟨rfl,⟨_,rfl,rfl⟩,rfl,⟨_,rfl,rfl⟩,rfl,⟨_,rfl,congrArg (Ob.row 24 4) (by simp [List.map_append,List.map_take,List.map_drop,irow,brow,zAQ,List.map_cons,List.map_nil,zAJ,Nd.encs_eq,Nd.enc,zAq,zAo,zAp,zAv,zAw,zAs,zAy,zAi,zAN])⟩,trivial⟩))
  ·rintro ⟨k,i4,l5⟩ h;cases k with
   | zero=>cases h
   | succ k =>
    replace h : zC8 s1 (k+1) i4 l5 = some l6:=h;rw [zC8] at h;refine zAa ?_;refine zAa ?_;refine zAb [] [] rfl ?_;show Tri ..;refine zAd rfl (fun hb=>?_) (fun hb=>?_)
    ·replace h:=zAn hb h;refine zAg ?_;show Tri ..;refine zAa ?_;refine zAl ?_;refine zAB (by exact tokW) (by exact gok) (by exact mixed) [21] [20] [1,9,11] rfl (by decide +kernel) ?_;obtain ⟨hq,h⟩:=zAR h;refine And.intro hq ?_;intro r7 hr7;obtain rfl : Nd.encs [Nd.mk 2 ((s1.take (IntKind.i64.wrap (i4 + 1)).toNat).drop i4.toNat) 0 []] = r7:=(hr7.trans (by simp [List.map_append,List.map_take,List.map_drop,irow,brow,zAQ,List.map_cons,List.map_nil,zAJ,Nd.encs_eq,Nd.enc,zAq,zAo,zAp,zAv,zAw,zAs,zAy,zAi,zAN])).symm
     obtain ⟨hq,h⟩:=zAR h;refine And.intro (show ((Nd.encs l5).length + (Nd.encs [Nd.mk 2 ((s1.take (IntKind.i64.wrap (i4 + 1)).toNat).drop i4.toNat) 0 []]).length) * 56 ≤ 140737488355328 ∧ (Nd.encs l5).length + (Nd.encs [Nd.mk 2 ((s1.take (IntKind.i64.wrap (i4 + 1)).toNat).drop i4.toNat) 0 []]).length ≤ 9223372036854775807 from by simp only [List.length_append,List.length_cons,List.length_nil,List.length_map,rlen Nd.encs_eq] at hq ⊢; omega) ?_;show Tri ..
     refine zAj (Le.rnm [(0,0),(1,1),(3,2)] [(0,.s (.str s1)),(2,.op 0 0),(3,.op 1 0),(4,.s (.int .i64 i4))] [(0,.box 24 [.s (.int .i64 0),.s (.str []),.s (.int .i64 0),.nl 4]),(1,.box 24 [.s (.int .i64 1),.s (.str []),.s (.int .i64 0),.orow 2]),(2,.row 24 4 (Nd.encs (l5 ++ [Nd.mk 2 ((s1.take (IntKind.i64.wrap (i4 + 1)).toNat).drop i4.toNat) 0 []])))] 3 ⟨rfl,rfl,rfl,rfl,trivial⟩ ⟨rfl,⟨_,rfl,rfl⟩,rfl,⟨_,rfl,rfl⟩,rfl,⟨_,rfl,congrArg (Ob.row 24 4) (by simp [List.map_append,List.map_take,List.map_drop,irow,brow,zAQ,List.map_cons,List.map_nil,zAJ,Nd.encs_eq,Nd.enc,zAq,zAo,zAp,zAv,zAw,zAs,zAy,zAi,zAN])⟩,trivial⟩) ?_
     refine zAb [] [] rfl ?_;refine ⟨(k,IntKind.i64.wrap (i4 + 1),l5 ++ [Nd.mk 2 ((s1.take (IntKind.i64.wrap (i4 + 1)).toNat).drop i4.toNat) 0 []]),h,(Le.rnm [(0,0),(1,1),(2,2)] _ _ _ ⟨rfl,rfl,rfl,rfl,trivial⟩ ⟨rfl,⟨_,rfl,rfl⟩,rfl,⟨_,rfl,rfl⟩,rfl,⟨_,rfl,rfl⟩,trivial⟩),Nat.lt_succ_self k⟩
    ·replace h:=zAm hb h;refine zAM ?_;cases h;exact (Le.rnm [(0,0),(1,1),(2,2)] _ _ _ ⟨rfl,rfl,trivial⟩ ⟨rfl,⟨_,rfl,rfl⟩,rfl,⟨_,rfl,rfl⟩,rfl,⟨_,rfl,rfl⟩,trivial⟩)
 ·show Tri ..;refine zAj hle ?_;refine zAa ?_;refine zAb [] [] rfl ?_;show Tri ..;refine zAh ?_;have hy:=Option.some.inj h;subst hy;unfold zAA;exact ⟨_,(Le.trans (Le.rnm [(0,0),(2,1)] [(2,.op 0 0)] [(0,.box 24 [.s (.int .i64 1),.s (.str []),.s (.int .i64 0),.orow 1]),(1,.row 24 4 (Nd.encs l6))] 2 ⟨rfl,trivial⟩ ⟨rfl,⟨_,rfl,rfl⟩,rfl,⟨_,rfl,rfl⟩,trivial⟩) (Le.giveRow 1 rfl)),rfl,rfl⟩
def zQ7 (n : Nat) (xs : List AV) (r : Ret) : Prop:=∃ (y0 : Bool),zG0 n = some y0 ∧ xs = [] ∧ r = .val (.s (.bool y0))
def zLu : zAt:=zAG fun xs r=>∃ n,zQ7 n xs r
theorem zQn : PSound Tryz.prog 6 zLu:=by
 have gok : ∀ f s,look? f [(20,zJm),(14,zLt)] = some s → PSound Tryz.prog f s:=zAu (by
  simp only [List.forall_mem_cons]
  exact ⟨zMV,zQm,by simp⟩)
 refine zAK tokW Tryz.call6 Tryz.func6 rfl (fun xs r h=>by obtain ⟨n,_,_,rfl,_⟩:=h; show 0 ≤ 15; decide) 15 rfl ?_;rintro xs r w0 G0 ⟨n,y0,h,rfl,rfl⟩ _;rw [zG0] at h;refine zAa ?_;refine zAb [] [] rfl ?_;show Tri ..;refine zAa ?_;refine zAb [] [] rfl ?_;obtain ⟨⟨y1A,y1C,y1D,y1B⟩,hy1,h⟩:=zAc h;refine ⟨_,⟨_,_,_,hy1,rfl,rfl⟩,?_⟩
 obtain ⟨⟨y2A,y2C,y2D,y2B⟩,hy2,h⟩:=zAc h;refine ⟨_,⟨_,_,_,hy2,rfl,rfl⟩,?_⟩
 obtain ⟨⟨y3,y4⟩,hy3,h⟩:=zAc h;refine ⟨_,⟨_,_,_,_,_,hy3,rfl,rfl⟩,?_⟩
 show Tri ..;refine zAa ?_;obtain ⟨x5,hj,h⟩:=zAc h;refine zAr ⟨ofL [(0,.s (.bool x5))],fun _=>none,0⟩ ?_ (fun σ' hle=>?_)
 ·replace h:=hj;refine zAb [] [11] rfl ?_;intro b hb;cases b with
  | true =>
   replace h:=zAn hb.symm h;cases h;exact (Le.forget _ ⟨rfl,trivial⟩)
  | false =>
   replace h:=zAm hb.symm h;cases h;exact (Le.forget _ ⟨rfl,trivial⟩)
 ·show Tri ..;refine zAj hle ?_;refine zAh ?_;have hy:=Option.some.inj h;subst hy;unfold zAA;exact ⟨_,Le.refl _ _,rfl,rfl⟩
def zGn (n : Nat) (xs : List AV) (r : Ret) : Prop:=∃ (a0 : Nd) (a1 : Int) (y0 : Int),zDE n a0 a1 = some y0 ∧ xs = [.agg ((Nd.enc a0).map .s),.s (.int .i64 a1)] ∧ r = .val (.s (.int .i64 y0))
theorem zO1 (n : Nat) (ih : PSound Tryz.prog 42 (zAG (zGn n))) : PSound Tryz.prog 42 (zAG (zGn (n + 1))):=by
 have gok : ∀ f s,look? f [(42,zAG (zGn n))] = some s → PSound Tryz.prog f s:=zAu (by
  simp only [List.forall_mem_cons]
  exact ⟨ih,by simp⟩)
 refine zAK tokW Tryz.call42 Tryz.func42 rfl (fun xs r h=>by obtain ⟨_,_,_,_,rfl,_⟩:=h; show 2 ≤ 27; decide) 27 rfl ?_;rintro xs r w0 G0 ⟨⟨n1A,n1C,n1D,n1B⟩,most2,y0,h,rfl,rfl⟩ _;rw [zDE] at h;refine zAa ?_;refine zAb [] [] rfl ?_;show Tri ..;refine zAa ?_;refine zAb [] [] rfl ?_;show Tri ..;refine zAa ?_;refine zAa ?_;refine zAb [] [] rfl ?_;show Tri ..;obtain ⟨most5,hl,h⟩:=zAc h;refine zAr ⟨ofL [(1,.s (.int .i64 most5))],fun _=>none,0⟩ ?_ (fun σ' hle=>?_)
 ·refine zAl (zAI (X:=Nat × Int × Int) (fun y=>match y with | (k,most3,i4)=>⟨ofL [(1,.s (.int .i64 most3)),(2,.s (.pt [.int .i64 n1A,.str n1C,.int .i64 n1D,.sl 4 (Nd.encs n1B)])),(5,.s (.int .i64 i4))],fun _=>none,0⟩) (fun y=>zCp (zDE n) n1B y.1 y.2.1 y.2.2 = some most5) (fun y=>y.1) (n,IntKind.i64.wrap (most2 - 1),0) hl ?_ ?_)
  ·exact (Le.forget _ ⟨rfl,rfl,rfl,trivial⟩)
  ·rintro ⟨k,most3,i4⟩ h;cases k with
   | zero=>cases h
   | succ k =>
    replace h : zCp (zDE n) n1B (k+1) most3 i4 = some most5:=h;rw [zCp] at h;refine zAa ?_;refine zAa ?_;obtain ⟨x6,hj,h⟩:=zAc h;refine zAr ⟨ofL [(1,.s (.int .i64 most3)),(2,.s (.pt [.int .i64 n1A,.str n1C,.int .i64 n1D,.sl 4 (Nd.encs n1B)])),(5,.s (.int .i64 i4)),(16,.s (.bool x6))],fun _=>none,0⟩ ?_ (fun σ' hle=>?_)
    ·replace h:=hj;refine zAb [] [11,13] rfl ?_;intro n7 hn7;obtain rfl : (n1B.length : Int) = n7:=(hn7.trans (congrArg (fun m : Nat=>(m : Int)) (rlen Nd.encs_eq n1B))).symm;intro b hb;cases b with
     | true =>
      replace h:=zAn hb.symm h;cases h;exact (Le.forget _ ⟨rfl,rfl,rfl,rfl,trivial⟩)
     | false =>
      replace h:=zAm hb.symm h;cases h;exact (Le.forget _ ⟨rfl,rfl,rfl,rfl,trivial⟩)
    ·show Tri ..;refine zAj hle ?_;refine zAd rfl (fun hb=>?_) (fun hb=>?_)
     ·replace h:=zAn hb h;refine zAg ?_;show Tri ..;refine zAa ?_;refine zAl ?_;refine zAb [] [22] rfl ?_;obtain ⟨⟨e8A,e8C,e8D,e8B⟩,he8,h⟩:=zAc h;refine And.intro (zAC Nd.encs_eq he8).1 ?_;intro r9 hr9;obtain rfl : [.int .i64 e8A,.str e8C,.int .i64 e8D,.sl 4 (Nd.encs e8B)] = r9:=(hr9.trans (zAC Nd.encs_eq he8).2.1).symm;obtain ⟨y10,hy10,h⟩:=zAc h;refine ⟨_,⟨_,_,_,hy10,rfl,rfl⟩,?_⟩
      show Tri ..;refine zAb [] [] rfl ?_;refine ⟨(k,y10,IntKind.i64.wrap (i4 + 1)),h,(Le.forget _ ⟨rfl,rfl,rfl,trivial⟩),Nat.lt_succ_self k⟩
     ·replace h:=zAm hb h;refine zAM ?_;cases h;exact (Le.forget _ ⟨rfl,trivial⟩)
 ·show Tri ..;refine zAj hle ?_;refine zAa ?_;refine zAb [] [] rfl ?_;show Tri ..;refine zAh ?_;have hy:=Option.some.inj h;subst hy;unfold zAA;exact ⟨_,Le.refl _ _,rfl,rfl⟩
theorem zPw : ∀ n,PSound Tryz.prog 42 (zAG (zGn n)):=by
 intro n
 induction n with
 | zero=>exact zCz Tryz.call42 (fun xs r h=>by obtain ⟨_,_,_,h,_⟩:=h; cases h)
 | succ n ih=>exact zO1 n ih
def zNe : zAt:=zAG fun xs r=>∃ n,zGn n xs r
theorem zRF : PSound Tryz.prog 42 zNe:=zEd zPw
def zTg (n : Nat) (xs : List AV) (r : Ret) : Prop:=∃ (a0 : Nd) (a1 : Int) (y0 : Bool),zGD n a0 a1 = some y0 ∧ xs = [.agg ((Nd.enc a0).map .s),.s (.int .i64 a1)] ∧ r = .val (.s (.bool y0))
def zPs : zAt:=zAG fun xs r=>∃ n,zTg n xs r
theorem zS1 : PSound Tryz.prog 21 zPs:=by
 have gok : ∀ f s,look? f [(42,zNe)] = some s → PSound Tryz.prog f s:=zAu (by
  simp only [List.forall_mem_cons]
  exact ⟨zRF,by simp⟩)
 refine zAK tokW Tryz.call21 Tryz.func21 rfl (fun xs r h=>by obtain ⟨n,_,_,_,_,rfl,_⟩:=h; show 2 ≤ 9; decide) 9 rfl ?_;rintro xs r w0 G0 ⟨n,⟨n1A,n1C,n1D,n1B⟩,most2,y0,h,rfl,rfl⟩ _;rw [zGD] at h;refine zAa ?_;refine zAb [] [] rfl ?_;show Tri ..;refine zAa ?_;refine zAb [] [] rfl ?_;obtain ⟨y3,hy3,h⟩:=zAc h;refine ⟨_,⟨_,_,_,_,hy3,rfl,rfl⟩,?_⟩
 show Tri ..;refine zAh ?_;have hy:=Option.some.inj h;subst hy;unfold zAA;exact ⟨_,Le.refl _ _,rfl,rfl⟩
def zTf (n : Nat) (xs : List AV) (r : Ret) : Prop:=∃ (a0 : Nd) (a1 : Nd) (y0 : Bool),zHE n a0 a1 = some y0 ∧ xs = [.agg ((Nd.enc a0).map .s),.agg ((Nd.enc a1).map .s)] ∧ r = .val (.s (.bool y0))
def zPr : zAt:=zAG fun xs r=>∃ n,zTf n xs r
theorem zS0 : PSound Tryz.prog 7 zPr:=by
 have gok : ∀ f s,look? f [(21,zPs)] = some s → PSound Tryz.prog f s:=zAu (by
  simp only [List.forall_mem_cons]
  exact ⟨zS1,by simp⟩)
 refine zAK tokW Tryz.call7 Tryz.func7 rfl (fun xs r h=>by obtain ⟨n,_,_,_,_,rfl,_⟩:=h; show 2 ≤ 11; decide) 11 rfl ?_;rintro xs r w0 G0 ⟨n,⟨a1A,a1C,a1D,a1B⟩,⟨b2A,b2C,b2D,b2B⟩,y0,h,rfl,rfl⟩ _;rw [zHE] at h;refine zAa ?_;refine zAb [] [] rfl ?_;show Tri ..;refine zAa ?_;obtain ⟨x3,hj,h⟩:=zAc h;refine zAr ⟨ofL [(4,.s (.bool x3))],fun _=>none,0⟩ ?_ (fun σ' hle=>?_)
 ·replace h:=hj;refine zAb [] [7] rfl ?_;obtain ⟨y4,hy4,h⟩:=zAc h;refine ⟨_,⟨_,_,_,_,hy4,rfl,rfl⟩,?_⟩
  intro b hb;cases b with
  | true =>
   replace h:=zAn hb.symm h;obtain ⟨y5,hy5,h⟩:=zAc h;refine ⟨_,⟨_,_,_,_,hy5,rfl,rfl⟩,?_⟩
   cases h;exact (Le.forget _ ⟨rfl,trivial⟩)
  | false =>
   replace h:=zAm hb.symm h;cases h;exact (Le.forget _ ⟨rfl,trivial⟩)
 ·show Tri ..;refine zAj hle ?_;refine zAh ?_;have hy:=Option.some.inj h;subst hy;unfold zAA;exact ⟨_,Le.refl _ _,rfl,rfl⟩
def zEz (n : Nat) (xs : List AV) (r : Ret) : Prop:=∃ (a0 : Nd) (a1 : Nd) (y0 : Bool),zCd n a0 a1 = some y0 ∧ xs = [.agg ((Nd.enc a0).map .s),.agg ((Nd.enc a1).map .s)] ∧ r = .val (.s (.bool y0))
def zDk (n : Nat) (xs : List AV) (r : Ret) : Prop:=∃ (a0 : List Nd) (a1 : List Nd) (y0 : Bool),zCH n a0 a1 = some y0 ∧ xs = [.s (.sl 4 (Nd.encs a0)),.s (.sl 4 (Nd.encs a1))] ∧ r = .val (.s (.bool y0))
theorem zM8 (n : Nat) (ih_r09_Equal : PSound Tryz.prog 15 (zAG (zEz n))) (ih_r09_SameItems : PSound Tryz.prog 38 (zAG (zDk n))) : PSound Tryz.prog 15 (zAG (zEz (n + 1))):=by
 have gok : ∀ f s,look? f [(38,zAG (zDk n))] = some s → PSound Tryz.prog f s:=zAu (by
  simp only [List.forall_mem_cons]
  exact ⟨ih_r09_SameItems,by simp⟩)
 refine zAK tokW Tryz.call15 Tryz.func15 rfl (fun xs r h=>by obtain ⟨_,_,_,_,rfl,_⟩:=h; show 2 ≤ 31; decide) 31 rfl ?_;rintro xs r w0 G0 ⟨⟨a1A,a1C,a1D,a1B⟩,⟨b2A,b2C,b2D,b2B⟩,y0,h,rfl,rfl⟩ _;rw [zCd] at h;refine zAa ?_;refine zAb [] [] rfl ?_;show Tri ..;refine zAa ?_;obtain ⟨x3,hj,h⟩:=zAc h;refine zAr ⟨ofL [(4,.s (.bool x3))],fun _=>none,0⟩ ?_ (fun σ' hle=>?_)
 ·replace h:=hj;refine zAb [] [10,17,24] rfl ?_;intro b hb;cases b with
  | true =>
   replace h:=zAn hb.symm h;intro b hb;cases b with
   | true =>
    replace h:=zAn hb.symm h;intro b hb;cases b with
    | true =>
     replace h:=zAn hb.symm h;obtain ⟨y4,hy4,h⟩:=zAc h;refine ⟨_,⟨_,_,_,hy4,rfl,rfl⟩,?_⟩
     cases h;exact (Le.forget _ ⟨rfl,trivial⟩)
    | false =>
     replace h:=zAm hb.symm h;cases h;exact (Le.forget _ ⟨rfl,trivial⟩)
   | false =>
    replace h:=zAm hb.symm h;intro b hb;subst hb;cases h;exact (Le.forget _ ⟨rfl,trivial⟩)
  | false =>
   replace h:=zAm hb.symm h;intro b hb;subst hb;intro b hb;subst hb;cases h;exact (Le.forget _ ⟨rfl,trivial⟩)
 ·show Tri ..;refine zAj hle ?_;refine zAh ?_;have hy:=Option.some.inj h;subst hy;unfold zAA;exact ⟨_,Le.refl _ _,rfl,rfl⟩
theorem zJT (n : Nat) (ih_r09_Equal : PSound Tryz.prog 15 (zAG (zEz n))) (ih_r09_SameItems : PSound Tryz.prog 38 (zAG (zDk n))) : PSound Tryz.prog 38 (zAG (zDk (n + 1))):=by
 have gok : ∀ f s,look? f [(15,zAG (zEz n))] = some s → PSound Tryz.prog f s:=zAu (by
  simp only [List.forall_mem_cons]
  exact ⟨ih_r09_Equal,by simp⟩)
 refine zAK tokW Tryz.call38 Tryz.func38 rfl (fun xs r h=>by obtain ⟨_,_,_,_,rfl,_⟩:=h; show 2 ≤ 27; decide) 27 rfl ?_;rintro xs r w0 G0 ⟨a1,b2,y0,h,rfl,rfl⟩ _;rw [zCH] at h;refine zAa ?_;refine zAb [] [] rfl ?_;show Tri ..;refine zAa ?_;refine zAa ?_;refine zAb [] [7,9] rfl ?_;intro n3 hn3;obtain rfl : (a1.length : Int) = n3:=(hn3.trans (congrArg (fun m : Nat=>(m : Int)) (rlen Nd.encs_eq a1))).symm;intro n4 hn4;obtain rfl : (b2.length : Int) = n4:=(hn4.trans (congrArg (fun m : Nat=>(m : Int)) (rlen Nd.encs_eq b2))).symm;show Tri ..;refine zAd rfl (fun hb=>?_) (fun hb=>?_)
 ·replace h:=zAn hb h;refine zAa ?_;refine zAb [] [] rfl ?_;show Tri ..;refine zAh ?_;have hy:=Option.some.inj h;subst hy;unfold zAA;exact ⟨_,Le.refl _ _,rfl,rfl⟩
 ·replace h:=zAm hb h;refine zAg ?_;show Tri ..;refine zAa ?_;refine zAa ?_;refine zAb [] [] rfl ?_;show Tri ..;obtain ⟨fl,hl,ho1⟩:=zAc h;refine zEs (fl:=fl) (fun z=>match z with | _=>⟨ofL [],fun _=>none,0⟩) ?_ (fun z σ' hz hle=>?_)
  ·refine zAl (zAI (X:=Nat × Int) (fun y=>match y with | (k,i5)=>⟨ofL [(0,.s (.sl 4 (Nd.encs a1))),(1,.s (.sl 4 (Nd.encs b2))),(5,.s (.int .i64 i5))],fun _=>none,0⟩) (fun y=>zBE (zCd n) a1 b2 y.1 y.2 = some fl) (fun y=>y.1) (n,0) hl ?_ ?_)
   ·exact (Le.forget _ ⟨rfl,rfl,rfl,trivial⟩)
   ·rintro ⟨k,i5⟩ h;cases k with
    | zero=>cases h
    | succ k =>
     replace h : zBE (zCd n) a1 b2 (k+1) i5 = some fl:=h;rw [zBE] at h;refine zAa ?_;refine zAa ?_;refine zAb [] [13] rfl ?_;intro n6 hn6;obtain rfl : (a1.length : Int) = n6:=(hn6.trans (congrArg (fun m : Nat=>(m : Int)) (rlen Nd.encs_eq a1))).symm;show Tri ..;refine zAd rfl (fun hb=>?_) (fun hb=>?_)
     ·replace h:=zAn hb h;refine zAg ?_;show Tri ..;refine zAa ?_;refine zAl ?_;refine zAa ?_;refine zAB (by exact tokW) (by exact gok) (by exact mixed) [] [19,23] [] rfl (by decide +kernel) ?_;obtain ⟨⟨e7A,e7C,e7D,e7B⟩,he7,h⟩:=zAc h;refine And.intro (zAC Nd.encs_eq he7).1 ?_;intro r8 hr8;obtain rfl : [.int .i64 e7A,.str e7C,.int .i64 e7D,.sl 4 (Nd.encs e7B)] = r8:=(hr8.trans (zAC Nd.encs_eq he7).2.1).symm;obtain ⟨⟨e9A,e9C,e9D,e9B⟩,he9,h⟩:=zAc h;refine And.intro (zAC Nd.encs_eq he9).1 ?_;intro r10 hr10
      obtain rfl : [.int .i64 e9A,.str e9C,.int .i64 e9D,.sl 4 (Nd.encs e9B)] = r10:=(hr10.trans (zAC Nd.encs_eq he9).2.1).symm;obtain ⟨y11,hy11,h⟩:=zAc h;refine ⟨_,⟨_,_,_,hy11,rfl,rfl⟩,?_⟩
      show Tri ..;refine zAd rfl (fun hb=>?_) (fun hb=>?_)
      ·replace h:=zAn hb h;refine zAa ?_;refine zAb [] [] rfl ?_;show Tri ..;refine zAh ?_;cases h;replace h : some _ = some _:=ho1;have hy:=Option.some.inj h;subst hy;unfold zAA;exact ⟨_,Le.refl _ _,rfl,rfl⟩
      ·replace h:=zAm hb h;refine zAg ?_;show Tri ..;refine zAb [] [] rfl ?_;refine ⟨(k,IntKind.i64.wrap (i5 + 1)),h,(Le.forget _ ⟨rfl,rfl,rfl,trivial⟩),Nat.lt_succ_self k⟩
     ·replace h:=zAm hb h;refine zAM ?_;cases h;exact ⟨_,rfl,(Le.forget _ trivial)⟩
  ·subst hz;obtain _:=z;replace h:=ho1;show Tri ..;refine zAj hle ?_;refine zAa ?_;refine zAb [] [] rfl ?_;show Tri ..;refine zAh ?_;have hy:=Option.some.inj h;subst hy;unfold zAA;exact ⟨_,Le.refl _ _,rfl,rfl⟩
theorem zMJ : ∀ n,PSound Tryz.prog 15 (zAG (zEz n)) ∧ PSound Tryz.prog 38 (zAG (zDk n)):=by
 intro n
 induction n with
 | zero =>
  refine ⟨?_,?_⟩
  ·exact zCz Tryz.call15 (fun xs r h=>by obtain ⟨_,_,_,h,_⟩:=h; rw [zCd] at h; cases h)
  ·exact zCz Tryz.call38 (fun xs r h=>by obtain ⟨_,_,_,h,_⟩:=h; rw [zCH] at h; cases h)
 | succ n ih =>
  obtain ⟨ih_r09_Equal,ih_r09_SameItems⟩:=ih;exact ⟨zM8 n ih_r09_Equal ih_r09_SameItems,zJT n ih_r09_Equal ih_r09_SameItems⟩
def zLC : zAt:=zAG fun xs r=>∃ n,zEz n xs r
theorem zQv : PSound Tryz.prog 15 zLC:=zEd (fun n=>(zMJ n).1)
end Go.Proofs.YtjdhkpdjecegnaaGreatDoor
namespace Go.Proofs.YtjdhkpdjecegnaaGreatDoor
open Go.Abs
def zSG (n : Nat) (xs : List AV) (r : Ret) : Prop:=∃ (a0 : Nd) (a1 : List Int) (y0 : Nd) (y1 : Int),zGC n a0 a1 = some (y0,y1) ∧ xs = [.agg ((Nd.enc a0).map .s),.s (.sl 1 (a1.map (irow .i64)))] ∧ r = .val (.tup [.agg ((Nd.enc y0).map .s),.s (.int .i64 y1)])
def zNb : zAt:=zAG fun xs r=>∃ n,zSG n xs r
theorem zRC : PSound Tryz.prog 56 zNb:=by
 have gok : ∀ f s,look? f [(33,zCL),(89,zLy),(34,zDV)] = some s → PSound Tryz.prog f s:=zAu (by
  simp only [List.forall_mem_cons]
  exact ⟨zC0,zQr,zEc,by simp⟩)
 refine zAK tokW Tryz.call56 Tryz.func56 rfl (fun xs r h=>by obtain ⟨n,_,_,_,_,_,rfl,_⟩:=h; show 2 ≤ _; decide) _ rfl ?_;rintro xs r w0 G0 ⟨f,⟨k,t,c,ks⟩,p,y0,y1,h,rfl,rfl⟩ _;rw [zGC] at h;obtain ⟨b,hb,h⟩:=zAc h;refine zAa ?_;refine zAb [4] [] rfl ?_;show Tri ..;refine zAa ?_;refine zAa ?_;refine zAb [] [] rfl ?_;refine ⟨_,⟨f,_,_,hb,rfl,rfl⟩,?_⟩
 show Tri ..;cases b with
 | false =>
  refine zAd rfl (fun _=>?_) (fun h=>by cases h)
  refine zAa ?_;refine zAb [] [] rfl ?_;show Tri ..;refine zAh ?_;obtain ⟨rfl,rfl⟩:=Prod.mk.inj (Option.some.inj h)
  unfold zAA;exact ⟨_,Le.refl _ _,rfl,rfl⟩
 | true =>
  refine zAd rfl (fun h=>by cases h) (fun _=>?_)
  refine zAg ?_;show Tri ..;replace h : (match zCt (.mk k t c ks) p with | some r=>(zBc r).bind fun r=>some (r,0) | none=>some (zDu,8)) = some (y0,y1):=h;refine zAa ?_;refine zAb [] [] rfl ?_;cases hf : zCt (.mk k t c ks) p with
  | none =>
   rw [hf] at h;refine ⟨.val (.tup [.junk,.s (.bool false)]),⟨.mk k t c ks,p,rfl,by rw [hf]; rfl⟩,?_⟩
   show Tri ..;refine zAa ?_;refine zAa ?_;refine zAb [] [] rfl ?_;show Tri ..;refine zAd rfl (fun _=>?_) (fun h=>by cases h)
   refine zAa ?_;refine zAb [] [] rfl ?_;show Tri ..;refine zAh ?_;obtain ⟨rfl,rfl⟩:=Prod.mk.inj (Option.some.inj h)
   unfold zAA;exact ⟨_,Le.refl _ _,rfl,rfl⟩
  | some z =>
   obtain ⟨k2,t2,c2,ks2⟩:=z;rw [hf] at h;refine ⟨.val (.tup [.s (.pt (Nd.enc (.mk k2 t2 c2 ks2))),.s (.bool true)]),⟨.mk k t c ks,p,rfl,by rw [hf]; rfl⟩,?_⟩
   show Tri ..;refine zAa ?_;refine zAa ?_;refine zAb [] [] rfl ?_;show Tri ..;refine zAd rfl (fun h=>by cases h) (fun _=>?_)
   refine zAg ?_;show Tri ..;obtain ⟨⟨k3,t3,c3,ks3⟩,hd,h⟩:=zAc h;obtain ⟨rfl,rfl⟩:=Prod.mk.inj (Option.some.inj h)
   refine zAa ?_;refine zAb [] [] rfl ?_;refine ⟨_,⟨_,_,hd,rfl,rfl⟩,?_⟩
   show Tri ..;refine zAh ?_;unfold zAA;exact ⟨_,Le.refl _ _,rfl,rfl⟩
end Go.Proofs.YtjdhkpdjecegnaaGreatDoor
namespace Go.Proofs.YtjdhkpdjecegnaaGreatDoor
open Go.Abs
theorem zUz {T : Nat → Option TI} {own : Bool} {o : Oper} {σ : St} {e t e0 : Nat} {args : Array Operand} {ts : Array Nat} {y : Operand} {v : AV} {ks : List Nd} {keys : List Nat} (hv : VAt σ.hp e v ks keys) (ho : o.op = .call { callee:=.builtin .len,args:=args,argTypes:=ts }) (ha : args.toList = [y]) (hts : ts.toList = [t]) (ht : tk T t = .slice e0)
  (hy : opd T σ.env t y = v) : step1 T own o σ = some (none,.s (.int .i64 (ks.length : Int)),σ):=by
 rcases hv with ⟨rfl,rfl,_⟩ | ⟨q,rows,keys',w,rfl,hq,hlen,_,_⟩
 ·have e1 : zCB T own o σ.env = some (none,.s (.int .i64 0)) :=(by simp only [zCB,ho,ha,hts,pLen,ht,hy]; rfl);simp only [step1,e1]; rfl
 ·rw [zMo ho ha hts ht hy hq,hlen]
theorem zUl {k c : Int} {tx : List UInt8} {ks : List Nd} {k2 c2 : Int} {tx2 : List UInt8} {ks2 : List Nd} {z r : Nd} {i s : Int} {p : List Int} (hx : ks[i.toNat]? = some (.mk k2 tx2 c2 ks2)) (hz : ks2[s.toNat]? = some z) :
  putL (.mk k tx c ks) (i :: s :: p) r = .mk k tx c (ks.set i.toNat (.mk k2 tx2 c2 (ks2.set s.toNat (putL z p r)))):=by
 rw [putL,hx]
 simp only [hz]
theorem Hole.here {hp : Nat → Option Ob} {e : Nat} {p p1 : AV} {y : Nd} {keys : List Nat} {F : Nd → Nd} (hn : (zBv p :: keys).Nodup) (h : Hole hp e p keys p1 y F) : ∃ keys0 w0,At hp e p1 y keys0 [] w0 ∧ isL 4 p1 ∧ (zBv p1 :: keys0).Nodup:=by
 obtain ⟨keys0,rest,w0,a1,a2,a3,a4,_⟩:=h;obtain ⟨hb,hnk⟩:=List.nodup_cons.1 hn;obtain ⟨n0,n1,n01⟩:=List.nodup_append.1 (a1.nodup_iff.1 hnk)
 refine ⟨keys0,w0,a2,a3,List.nodup_cons.2 ⟨fun hm=>?_,n0⟩⟩
 rcases a4 with rfl | a4
 ·exact hb (a1.mem_iff.2 (List.mem_append_left _ hm))
 ·exact n01 _ hm _ a4 rfl
theorem Hole.step {hp : Nat → Option Ob} {e q i : Nat} {p p1 : AV} {k c : Int} {tx : List UInt8} {ks : List Nd} {x : Nd} {keys : List Nat} {F : Nd → Nd} (hn : (zBv p :: keys).Nodup) (h : Hole hp e p keys p1 (.mk k tx c ks) F) (hx : ks[i]? = some x) (hc : zAY hp p1 = some (zBj k tx c (.orow q))) :
  Hole hp e p keys (.rp q 4 i 0) x (fun r=>F (.mk k tx c (ks.set i r))) :=
 Hole.trans hn h fun keys0 w0 ha hl hn0=>by
  obtain ⟨b,rows,h1,_,_,h4⟩:=Hole.kid ha hl hn0 hx;rw [hc] at h1;have : q = b :=(by simpa [zBj] using h1);rw [this]; exact h4
theorem zVo {t r : Nd} : putL t [] r = r:=by cases t; rfl
def zO9 (xs : List AV) (hp : Nat → Option Ob) (n : Nat) (Φ : AV → (Nat → Option Ob) → Nat → Prop) : Prop :=
 ∃ (p : AV) (t : Nd) (path : List Int) (keys : List Nat) (w : Nat),xs = [p,.s (.sl 1 (path.map (irow .i64)))] ∧ isL 4 p ∧ At hp 24 p t keys [] w ∧ (zBv p :: keys).Nodup ∧
  (zCt t path = none → Φ (.tup [.junk,.s (.bool false)]) hp n) ∧ ∀ p1 y F,zCt t path = some y → Hole hp 24 p keys p1 y F → (∀ r,putL t path r = F r) → Φ (.tup [p1,.s (.bool true)]) hp n
def zLo : zAt:=zPX zO9
set_option maxHeartbeats 600000 in
theorem zOp : PSound Tryz.prog 89 zLo:=by
 have gok : ∀ (f : Nat) (s : zAt),(fun _=>none : Nat → Option zAt) f = some s → PSound Tryz.prog f s:=fun _ _ h=>by cases h
 refine zNt tokW Tryz.call89 Tryz.func89 rfl (fun xs hp n Φ h=>by obtain ⟨_,_,_,_,_,rfl,_⟩:=h; show 2 ≤ _; decide) _ rfl ?_;rintro xs hp n Φ w0 G0 B0 ⟨p0,t0,path0,keys,w,rfl,hl0,hat,hnd,hΦ1,hΦ2⟩ _ hhp;refine zAa ?_;refine zAb [] [] rfl ?_;show Tri ..;refine zAa ?_;refine zAl (zAI (X:=AV × Nd × List Int × (Nd → Nd)) (fun x=>match x with | (p,y,q,F)=>⟨ofL [(0,p),(1,.s (.sl 1 (q.map (irow .i64)))),(4,.s .np),(5,.s (.bool false))],hp,n⟩)
  (fun x=>match x with | (p,y,q,F)=>zCt t0 path0 = zCt y q ∧ Hole hp 24 p0 keys p y F ∧ ∀ r,putL t0 path0 r = F (putL y q r)) (fun x=>match x with | (p,y,q,F)=>q.length) (p0,t0,path0,id) ⟨rfl,Hole.refl hat hl0,fun _=>rfl⟩ (Le.forget [(0,p0),(1,.s (.sl 1 (path0.map (irow .i64)))),(4,.s .np),(5,.s (.bool false))] ⟨rfl,rfl,rfl,rfl,trivial⟩) ?_)
 rintro ⟨p,⟨k,t,c,ks⟩,q,F⟩ hI;have hI : zCt t0 path0 = zCt (.mk k t c ks) q ∧ Hole hp 24 p0 keys p (.mk k t c ks) F ∧ ∀ r,putL t0 path0 r = F (putL (.mk k t c ks) q r):=hI
 obtain ⟨hI1,hI2,hI3⟩:=hI;have hlp : isL 4 p :=(by obtain ⟨_,_,_,_,_,h,_⟩:=hI2; exact h);refine zAa ?_;refine zAa ?_;refine zAb [] [] rfl ?_;show Tri ..;refine zAd rfl (fun hb=>?_) (fun hb=>?_)
 ·refine zAg ?_;show Tri ..
  match q,hI1,hI3,hb with
  | [],_,_,hb=>cases hb
  | [_],_,_,hb=>cases hb
  | i :: s :: q,hI1,hI3,hb =>
   refine zAj (Le.forgetH [(0,p),(1,.s (.sl 1 ((i :: s :: q).map (irow .i64)))),(4,.s .np),(5,.s (.bool false))] hp n ⟨rfl,rfl,rfl,rfl,trivial⟩ (fun _=>rfl) rfl) ?_;refine zAa ?_;refine zAl ?_;refine zAa ?_;refine zAB (by exact tokW) (by exact gok) (by exact mixed) [] [] [1,2,4,5] rfl (by decide +kernel) ?_;refine And.intro (show (0 : Int) ≤ 0 ∧ (0 : Int) < ((((i :: s :: q).map (irow .i64)).length : Nat) : Int) by simp only [List.map_cons,List.length_cons]; omega) ?_;refine And.intro (show (0 : Int) ≤ 1 ∧ (1 : Int) < ((((i :: s :: q).map (irow .i64)).length : Nat) : Int) by simp only [List.map_cons,List.length_cons]; omega) ?_;show Tri ..
   refine zAj (Le.forgetH [(0,p),(1,.s (.sl 1 ((i :: s :: q).map (irow .i64)))),(4,.s .np),(5,.s (.bool false)),(6,.s (.int .i64 i)),(7,.s (.int .i64 s))] hp n ⟨rfl,rfl,rfl,rfl,rfl,rfl,trivial⟩ (fun _=>rfl) rfl) ?_;refine zAa ?_;refine zAa ?_
   by_cases hi : i < 0
   ·refine zAb [] [21] rfl ?_;intro b hb;obtain rfl : true = b:=(hb.trans (decide_eq_true hi)).symm;show Tri ..;refine zAd rfl (fun _=>?_) (fun h=>by cases h)
    refine zAa ?_;refine zAb [] [] rfl ?_;show Tri ..;refine zAh ?_;unfold zFW;exact ⟨_,Le.forget [(5,.s (.bool false))] ⟨rfl,trivial⟩,_,rfl,hΦ1 (hI1.trans (zGU (fun h=>by omega)))⟩
   obtain ⟨keys1,w1,hat1,_,hnd1⟩:=hI2.here hnd;obtain ⟨v,hcv,hv⟩:=hat1.full;refine zAb [] [] rfl ?_;refine zAe rfl rfl rfl rfl rfl rfl trivial ?_;refine zAe rfl rfl rfl rfl rfl rfl trivial ?_;rw [show decide (i < 0) = false from decide_eq_false hi]
   refine zAe rfl rfl rfl rfl rfl rfl trivial ?_;refine zDf (g:=22) rfl rfl rfl ?_;refine zAe rfl rfl rfl rfl rfl rfl trivial ?_;refine zDf (g:=22) rfl rfl rfl ?_;refine zAe rfl rfl rfl rfl rfl (zDd hlp (.inr rfl) rfl rfl) trivial ?_;refine zDf (g:=22) rfl rfl rfl ?_;refine zAe rfl rfl rfl rfl rfl (zEK hlp rfl rfl) trivial ?_;refine zDf (g:=22) rfl rfl rfl ?_;refine zAe rfl rfl rfl rfl rfl (zE4 hlp rfl rfl rfl rfl rfl rfl rfl) trivial ?_;refine zDf (g:=22) rfl rfl rfl ?_;refine zDR (off:=3) (sz:=4) rfl rfl rfl rfl rfl rfl rfl hlp rfl hcv rfl ?_;refine zDf (g:=22) rfl rfl rfl ?_
   refine zAe rfl rfl rfl rfl rfl (zUz hv rfl rfl rfl rfl rfl) trivial ?_;refine zDf (g:=22) rfl rfl rfl ?_;refine zAe rfl rfl rfl rfl rfl rfl trivial ?_
   by_cases hi2 : (ks.length : Int) ≤ i
   ·rw [show decide ((ks.length : Int) ≤ i) = true from decide_eq_true hi2]
    refine zAe rfl rfl rfl rfl rfl rfl trivial ?_;show Tri ..;refine zAd rfl (fun _=>?_) (fun h=>by cases h)
    refine zAa ?_;refine zAb [] [] rfl ?_;show Tri ..;refine zAh ?_;unfold zFW;exact ⟨_,Le.forget [(5,.s (.bool false))] ⟨rfl,trivial⟩,_,rfl,hΦ1 (hI1.trans (zGU (n:=.mk k t c ks) (fun h=>by have : i < (ks.length : Int):=h.2; omega)))⟩
   rw [show decide ((ks.length : Int) ≤ i) = false from decide_eq_false hi2]
   refine zAe rfl rfl rfl rfl rfl rfl trivial ?_;show Tri ..;refine zAd rfl (fun h=>by cases h) (fun _=>?_)
   refine zAg ?_;show Tri ..;have hi0 : i.toNat < ks.length :=(by omega);obtain ⟨⟨k2,t2,c2,ks2⟩,hx⟩ : ∃ x,ks[i.toNat]? = some x:=⟨_,List.getElem?_eq_getElem hi0⟩
   obtain ⟨b1,rows1,hc1,hr1,hlen1,hole1⟩:=Hole.kid hat1 hlp hnd1 hx;refine zAj (Le.forgetH [(0,p),(1,.s (.sl 1 ((i :: s :: q).map (irow .i64)))),(4,.s .np),(5,.s (.bool false)),(6,.s (.int .i64 i)),(7,.s (.int .i64 s))] hp n ⟨rfl,rfl,rfl,rfl,rfl,rfl,trivial⟩ (fun _=>rfl) rfl) ?_;refine zAa ?_;refine zAb [] [] rfl ?_;refine zAe rfl rfl rfl rfl rfl (zDd hlp (.inr rfl) rfl rfl) trivial ?_;refine zAe rfl rfl rfl rfl rfl (zEK hlp rfl rfl) trivial ?_;refine zAe rfl rfl rfl rfl rfl (zE4 hlp rfl rfl rfl rfl rfl rfl rfl) trivial ?_;refine zDR (off:=3) (sz:=4) rfl rfl rfl rfl rfl rfl rfl hlp rfl hc1 rfl ?_
   refine zAe rfl rfl rfl rfl rfl rfl trivial ?_;refine zAe rfl rfl rfl rfl rfl (zOW rfl rfl rfl rfl rfl rfl hr1 rfl) ⟨by omega,by rw [hlen1]; omega⟩ ?_;refine zAe rfl rfl rfl rfl rfl rfl trivial ?_;show Tri ..;refine zAj (Le.forgetH [(0,p),(1,.s (.sl 1 ((i :: s :: q).map (irow .i64)))),(4,.s .np),(5,.s (.bool false)),(6,.s (.int .i64 i)),(7,.s (.int .i64 s)),(8,.rp b1 4 i.toNat 0)] hp n ⟨rfl,rfl,rfl,rfl,rfl,rfl,rfl,trivial⟩ (fun _=>rfl) rfl) ?_;refine zAa ?_;refine zAa ?_
   by_cases hs : s < 0
   ·refine zAb [] [38] rfl ?_;intro b hb;obtain rfl : true = b:=(hb.trans (decide_eq_true hs)).symm;show Tri ..;refine zAd rfl (fun _=>?_) (fun h=>by cases h)
    refine zAa ?_;refine zAb [] [] rfl ?_;show Tri ..;refine zAh ?_;unfold zFW;exact ⟨_,Le.forget [(5,.s (.bool false))] ⟨rfl,trivial⟩,_,rfl,hΦ1 (hI1.trans (zGV (n:=.mk k t c ks) (by omega) hx (fun h=>by omega)))⟩
   have hl2 : isL 4 (.rp b1 4 i.toNat 0):=.inl ⟨b1,i.toNat,rfl⟩
   have hI4:=Hole.step hnd hI2 hx hc1;obtain ⟨keys2,w2,hat2,_,hnd2⟩:=hI4.here hnd;obtain ⟨v2,hcv2,hv2⟩:=hat2.full;refine zAb [] [] rfl ?_;refine zAe rfl rfl rfl rfl rfl rfl trivial ?_;refine zAe rfl rfl rfl rfl rfl rfl trivial ?_;rw [show decide (s < 0) = false from decide_eq_false hs]
   refine zAe rfl rfl rfl rfl rfl rfl trivial ?_;refine zDf (g:=39) rfl rfl rfl ?_;refine zAe rfl rfl rfl rfl rfl rfl trivial ?_;refine zDf (g:=39) rfl rfl rfl ?_;refine zAe rfl rfl rfl rfl rfl (zDd hl2 (.inr rfl) rfl rfl) trivial ?_;refine zDf (g:=39) rfl rfl rfl ?_;refine zAe rfl rfl rfl rfl rfl (zEK hl2 rfl rfl) trivial ?_;refine zDf (g:=39) rfl rfl rfl ?_;refine zAe rfl rfl rfl rfl rfl (zE4 hl2 rfl rfl rfl rfl rfl rfl rfl) trivial ?_;refine zDf (g:=39) rfl rfl rfl ?_;refine zDR (off:=3) (sz:=4) rfl rfl rfl rfl rfl rfl rfl hl2 rfl hcv2 rfl ?_;refine zDf (g:=39) rfl rfl rfl ?_
   refine zAe rfl rfl rfl rfl rfl (zUz hv2 rfl rfl rfl rfl rfl) trivial ?_;refine zDf (g:=39) rfl rfl rfl ?_;refine zAe rfl rfl rfl rfl rfl rfl trivial ?_
   by_cases hs2 : (ks2.length : Int) ≤ s
   ·rw [show decide ((ks2.length : Int) ≤ s) = true from decide_eq_true hs2]
    refine zAe rfl rfl rfl rfl rfl rfl trivial ?_;show Tri ..;refine zAd rfl (fun _=>?_) (fun h=>by cases h)
    refine zAa ?_;refine zAb [] [] rfl ?_;show Tri ..;refine zAh ?_;unfold zFW;exact ⟨_,Le.forget [(5,.s (.bool false))] ⟨rfl,trivial⟩,_,rfl,hΦ1 (hI1.trans (zGV (n:=.mk k t c ks) (by omega) hx (fun h=>by have : s < (ks2.length : Int):=h.2; omega)))⟩
   rw [show decide ((ks2.length : Int) ≤ s) = false from decide_eq_false hs2]
   refine zAe rfl rfl rfl rfl rfl rfl trivial ?_;show Tri ..;refine zAd rfl (fun h=>by cases h) (fun _=>?_)
   refine zAg ?_;show Tri ..;have hs0 : s.toNat < ks2.length :=(by omega);obtain ⟨z,hz⟩ : ∃ z,ks2[s.toNat]? = some z:=⟨_,List.getElem?_eq_getElem hs0⟩
   obtain ⟨b2,rows2,hc2,hr2,hlen2,hole2⟩:=Hole.kid hat2 hl2 hnd2 hz;refine zAj (Le.forgetH [(0,p),(1,.s (.sl 1 ((i :: s :: q).map (irow .i64)))),(4,.s .np),(5,.s (.bool false)),(6,.s (.int .i64 i)),(7,.s (.int .i64 s)),(8,.rp b1 4 i.toNat 0)] hp n ⟨rfl,rfl,rfl,rfl,rfl,rfl,rfl,trivial⟩ (fun _=>rfl) rfl) ?_;refine zAb [] [] rfl ?_;refine zAe rfl rfl rfl rfl rfl (zDd hl2 (.inr rfl) rfl rfl) trivial ?_;refine zAe rfl rfl rfl rfl rfl (zEK hl2 rfl rfl) trivial ?_;refine zAe rfl rfl rfl rfl rfl (zE4 hl2 rfl rfl rfl rfl rfl rfl rfl) trivial ?_;refine zDR (off:=3) (sz:=4) rfl rfl rfl rfl rfl rfl rfl hl2 rfl hc2 rfl ?_
   refine zAe rfl rfl rfl rfl rfl rfl trivial ?_;refine zAe rfl rfl rfl rfl rfl (zOW rfl rfl rfl rfl rfl rfl hr2 rfl) ⟨by omega,by rw [hlen2]; omega⟩ ?_;refine zAe rfl rfl rfl rfl rfl rfl trivial ?_;show Tri ..;refine zAj (Le.forgetH [(0,.rp b2 4 s.toNat 0),(1,.s (.sl 1 ((i :: s :: q).map (irow .i64)))),(4,.s .np),(5,.s (.bool false))] hp n ⟨rfl,rfl,rfl,rfl,trivial⟩ (fun _=>rfl) rfl) ?_;refine zAb [] [] rfl ?_;have h2l : (2 : Int) ≤ ((((i :: s :: q).map (irow .i64)).length : Nat) : Int) :=(by simp only [List.map_cons,List.length_cons]; omega);refine zAe rfl rfl rfl rfl rfl rfl trivial ?_
   refine zAe rfl rfl rfl rfl rfl rfl ⟨by decide,h2l,Int.le_refl _⟩ ?_;refine zAe rfl rfl rfl rfl rfl rfl trivial ?_;have hI5:=Hole.step hnd hI4 hz hc2;refine ⟨(.rp b2 4 s.toNat 0,z,q,fun r=>F (.mk k t c (ks.set i.toNat (.mk k2 t2 c2 (ks2.set s.toNat r))))),⟨?_,hI5,?_⟩,Le.forgetH [(0,.rp b2 4 s.toNat 0),(1,.s (.sl 1 (q.map (irow .i64)))),(4,.s .np),(5,.s (.bool false))] hp n ⟨rfl,congrArg (fun z=>AV.s (.sl 1 z)) ?_,rfl,rfl,trivial⟩ (fun _=>rfl) rfl,?_⟩
   ·exact hI1.trans (zNq (n:=.mk k t c ks) (by omega) hx (by omega) hz)
   ·intro r;exact (hI3 r).trans (congrArg F (zUl hx hz))
   ·show List.drop 2 (List.take ((((i :: s :: q).map (irow .i64)).length : Nat) : Int).toNat ((i :: s :: q).map (irow .i64))) = _;rw [Int.toNat_natCast,List.take_length]; rfl
   ·show q.length < q.length + 1 + 1
    omega
 ·refine zAM ?_;show Tri ..;refine zAj (Le.forgetH [(0,p),(1,.s (.sl 1 (q.map (irow .i64)))),(4,.s .np),(5,.s (.bool false))] hp n ⟨rfl,rfl,rfl,rfl,trivial⟩ (fun _=>rfl) rfl) ?_;refine zAa ?_;refine zAb [] [] rfl ?_;refine zAe rfl rfl rfl rfl rfl (zDd hlp (.inr rfl) rfl rfl) trivial ?_
  match q,hI1,hI3,hb with
  | [],hI1,hI3,_ =>
   refine zAe rfl rfl rfl rfl rfl rfl trivial ?_;refine zAe rfl rfl rfl rfl rfl rfl trivial ?_;refine zAe rfl rfl rfl rfl rfl rfl trivial ?_;refine zAe rfl rfl rfl rfl rfl (zDd hlp (.inl rfl) rfl rfl) trivial ?_;refine zAe rfl rfl rfl rfl rfl rfl trivial ?_;show Tri ..;refine zAh ?_;have hd : AV.deep p = p:=by rcases hlp with ⟨_,_,rfl⟩ | ⟨_,rfl⟩ <;> rfl
   unfold zFW;refine ⟨_,Le.forget [(4,p),(5,.s (.bool true))] ⟨rfl,rfl,trivial⟩,.tup [p,.s (.bool true)],?_,hΦ2 p (.mk k t c ks) F (hI1.trans rfl) hI2 fun r=>(hI3 r).trans (by rw [zVo])⟩
   show some (AV.tup [AV.deep p,.s (.bool true)]) = _;rw [hd]
  | [i],hI1,_,_ =>
   refine zAe rfl rfl rfl rfl rfl rfl trivial ?_;refine zAe rfl rfl rfl rfl rfl rfl trivial ?_;refine zAe rfl rfl rfl rfl rfl rfl trivial ?_;refine zAe rfl rfl rfl rfl rfl (zDd hlp (.inl rfl) rfl rfl) trivial ?_;refine zAe rfl rfl rfl rfl rfl rfl trivial ?_;show Tri ..;refine zAh ?_;unfold zFW;exact ⟨_,Le.forget [(5,.s (.bool false))] ⟨rfl,trivial⟩,_,rfl,hΦ1 (hI1.trans rfl)⟩
  | i :: s :: p,_,_,hb=>exact absurd (of_decide_eq_false hb) (by simp only [List.map_cons,List.length_cons]; omega)
end Go.Proofs.YtjdhkpdjecegnaaGreatDoor
namespace Go.Proofs.YtjdhkpdjecegnaaGreatDoor
open Go.Abs
theorem zH6 {T : Nat → Option TI} {σ : St} {t ty q bt u : Nat} {i : TI} {cells : List AV} (h1 : σ.env t = .op q 0) (h2 : σ.hp q = some (.box bt cells)) (h3 : T ty = some i) (ha : i.k.agg = true) (hz : i.size = cells.length) : zK3 T σ [.cell t ty,.tmp u] = some (.tup [AV.deep (.agg cells),(σ.env u).deep]):=by
 have hb : Nat.ble i.size cells.length = true :=(by rw [hz]; exact Nat.ble_eq_true_of_le (Nat.le_refl _));simp only [zK3,zHS,zQJ,h1,h2,h3,ha,hb]
 rw [hz,List.take_length]
theorem Hole.base {hp : Nat → Option Ob} {e : Nat} {p p1 : AV} {y : Nd} {keys : List Nat} {F : Nd → Nd} (h : Hole hp e p keys p1 y F) : zBv p1 = zBv p ∨ zBv p1 ∈ keys:=by
 obtain ⟨keys0,rest,w0,a1,a2,a3,a4,_⟩:=h;rcases a4 with rfl | a4
 ·exact .inl rfl
 ·exact .inr (a1.mem_iff.2 (List.mem_append_right _ a4))
theorem At.ofV {hp : Nat → Option Ob} {e : Nat} {p v : AV} {k c : Int} {t : List UInt8} {ks : List Nd} {keys : List Nat} (hc : zAY hp p = some (zBj k t c v)) (h : VAt hp e v ks keys) : ∃ w,At hp e p (.mk k t c ks) keys [] w:=by
 rcases h with ⟨rfl,rfl,rfl⟩ | ⟨q,rows,keys',w,rfl,h1,h2,rfl,h3⟩
 ·exact ⟨0,by simp only [At]; exact ⟨_,hc,.inr (.inl (by simp))⟩⟩
 ·exact ⟨w,by simp only [At]; exact ⟨_,hc,.inr (.inr ⟨q,rows,keys',rfl,h1,h2,rfl,h3⟩)⟩⟩
def zQ9 (n : Nat) (xs : List AV) (r : Ret) : Prop:=∃ (a0 : Nd) (a1 : List Int) (a2 : Nd) (y0 : Nd) (y1 : Int),zEG n a0 a1 a2 = some (y0,y1) ∧ xs = [.agg ((Nd.enc a0).map .s),.s (.sl 1 (a1.map (irow .i64))),.agg ((Nd.enc a2).map .s)] ∧ r = .val (.tup [.agg ((Nd.enc y0).map .s),.s (.int .i64 y1)])
def zLw : zAt:=zAG fun xs r=>∃ n,zQ9 n xs r
set_option maxHeartbeats 600000 in
theorem zQp : PSound Tryz.prog 58 zLw:=by
 have gok : ∀ f s,look? f [(33,zCL),(89,zLo),(34,zLn)] = some s → PSound Tryz.prog f s:=zAu (by
  simp only [List.forall_mem_cons]
  exact ⟨zC0,zOp,zGX,by simp⟩)
 refine zAK tokW Tryz.call58 Tryz.func58 rfl (fun xs r h=>by obtain ⟨n,_,_,_,_,_,_,rfl,_⟩:=h; show 3 ≤ _; decide) _ rfl ?_;rintro xs r w0 G0 ⟨f,⟨k,t,c,ks⟩,path,⟨rk,rt,rc,rks⟩,y0,y1,h,rfl,rfl⟩ _;rw [zEG] at h;obtain ⟨b,hb,h⟩:=zAc h;refine zAa ?_;refine zAb [6] [] rfl ?_;show Tri ..;refine zAa ?_;refine zAa ?_;refine zAb [] [] rfl ?_;refine ⟨_,⟨f,_,_,hb,rfl,rfl⟩,?_⟩
 show Tri ..;cases b with
 | false =>
  refine zAd rfl (fun _=>?_) (fun h=>by cases h)
  refine zAa ?_;refine zAb [] [] rfl ?_;show Tri ..;refine zAh ?_;obtain ⟨rfl,rfl⟩:=Prod.mk.inj (Option.some.inj h)
  unfold zAA;exact ⟨_,Le.refl _ _,rfl,rfl⟩
 | true =>
  refine zAd rfl (fun h=>by cases h) (fun _=>?_)
  refine zAg ?_;show Tri ..;rw [if_pos rfl] at h;obtain ⟨n1,hn1,h⟩:=zAc h;obtain ⟨hcnt,hn1⟩:=zAR hn1;obtain rfl:=Option.some.inj hn1;refine zAa ?_;refine zAb [8] [] rfl ?_;refine ⟨_,⟨k,c,t,ks,hcnt,rfl,fun v hp' n' keys h1 h2 h3 h4 h5=>?_⟩,fun _ _ _ h=>h⟩
  have hv1 : v.one = true ∧ ∀ m,n' < m → v.lt m = true:=by
   rcases h3 with ⟨_,rfl,_⟩ | ⟨q,_,_,_,rfl,_,_,hk,_⟩
   ·exact ⟨rfl,fun _ _=>rfl⟩
   ·exact ⟨rfl,fun m hm=>decide_eq_true (Nat.lt_trans (h5 q (by rw [hk]; exact List.mem_cons_self)).2 hm)⟩
  refine zQb (d:=16) ?_;refine zAe rfl rfl rfl rfl rfl rfl trivial ?_;refine zGx (sz:=4) (cs:=[.s (.int .i64 0),.s (.str []),.s (.int .i64 0),.nl 4]) (cs':=zBj k t c v) (p:=.op n' 0) rfl rfl rfl rfl rfl (.inr ⟨n',rfl⟩) rfl (zD5 (bt:=24) (by show (bif Nat.beq n' n' then _ else hp' n') = _; rw [Nat.beq_refl]; rfl)) rfl rfl rfl (by simp only [zBj,List.all_cons,List.all_nil,hv1.1]; rfl) (by have h0 : v.lt (n' + 1) = true:=hv1.2 _ (Nat.lt_succ_self _); show AV.ltAll (n' + 1) (zBj k t c v) = true; simp only [zBj,AV.ltAll,h0]; rfl) ?_;show Tri ..
  refine zHV [(1,.s (.sl 1 (path.map (irow .i64)))),(5,.s (.pt (Nd.enc (.mk rk rt rc rks)))),(6,.op 0 0),(8,.op n' 0)] (n' + 1) ⟨rfl,rfl,rfl,rfl,trivial⟩ rfl fun H hH=>?_
  have g1 : H n' = some (.box 24 (zBj k t c v)):=(hH n').trans (by
   show putC (fun m=>bif Nat.beq m n' then some (Ob.box 24 [.s (.int .i64 0),.s (.str []),.s (.int .i64 0),.nl 4]) else hp' m) (.op n' 0) (zBj k t c v) n' = _;rw [zFN (bt:=24) (cs:=[.s (.int .i64 0),.s (.str []),.s (.int .i64 0),.nl 4]) (by simp only [Nat.beq_refl,cond_true])]
   simp only [Nat.beq_refl,cond_true])
  have g2 : ∀ m,m < n' → H m = hp' m:=fun m hm=>(hH m).trans (by
   show putC (fun m=>bif Nat.beq m n' then some (Ob.box 24 [.s (.int .i64 0),.s (.str []),.s (.int .i64 0),.nl 4]) else hp' m) (.op n' 0) (zBj k t c v) m = _;rw [zBR (show m ≠ n' by omega),zD3 (show m ≠ n' by omega)]; rfl)
  clear hH
  have g0 : H 0 = some (.box 24 [.s (.int .i64 0),.s (.str []),.s (.int .i64 0),.nl 4]):=(g2 0 h1).trans (h2 0 (Nat.lt_succ_self 0))
  obtain ⟨w,hat⟩:=At.ofV (zD5 g1) (h3.frame fun m hm=>g2 m (h5 m hm).2)
  have hnd : (zBv (.op n' 0) :: keys).Nodup:=List.nodup_cons.2 ⟨fun hm=>Nat.lt_irrefl _ (h5 n' hm).2,h4⟩
  refine zAa ?_;refine zAb [] [] rfl ?_;refine ⟨_,⟨.op n' 0,.mk k t c ks,path,keys,w,rfl,.inr ⟨n',rfl⟩,hat,hnd,fun hf=>?_,fun p1 y F hf hole hF=>?_⟩,fun _ _ _ h=>h⟩
  ·rw [hf] at h;show Tri ..;refine zAa ?_;refine zAa ?_;refine zAb [] [] rfl ?_;show Tri ..;refine zAd rfl (fun _=>?_) (fun h=>by cases h)
   obtain ⟨rfl,rfl⟩:=Prod.mk.inj (Option.some.inj h)
   refine zAj (Le.forgetH [(6,.op 0 0)] H (n' + 1) ⟨rfl,trivial⟩ (fun _=>rfl) rfl) ?_;refine zAa ?_;refine zAb [] [] rfl ?_;refine zAe rfl rfl rfl rfl rfl rfl trivial ?_;refine zGx (sz:=4) (cs:=[.s (.int .i64 0),.s (.str []),.s (.int .i64 0),.nl 4]) (cs':=[.s (.int .i64 0),.s (.str []),.s (.int .i64 0),.nl 4]) (p:=.op 0 0) rfl rfl rfl rfl rfl (.inr ⟨0,rfl⟩) rfl (zD5 (bt:=24) g0) rfl rfl rfl rfl rfl ?_;refine zAe rfl rfl rfl rfl rfl rfl trivial ?_;show Tri ..;refine zAh ?_;unfold zAA
   refine ⟨_,Le.refl _ _,(zH6 (bt:=24) (cells:=[.s (.int .i64 0),.s (.str []),.s (.int .i64 0),.nl 4]) rfl ?_ rfl rfl rfl).trans rfl,rfl⟩
   show putC H (.op 0 0) _ 0 = _;rw [zFN (bt:=24) (cs:=[.s (.int .i64 0),.s (.str []),.s (.int .i64 0),.nl 4]) g0]; rfl
  ·rw [hf] at h;obtain ⟨keys1,w1,hat1,hl1,hnd1⟩:=hole.here hnd;refine zQb (d:=19) ?_;refine zAe rfl rfl rfl rfl rfl rfl trivial ?_;refine zAe rfl rfl rfl rfl rfl rfl trivial ?_;refine zAe rfl rfl rfl rfl rfl rfl trivial ?_;refine zAe rfl rfl rfl rfl rfl (zDd hl1 (.inl rfl) rfl rfl) trivial ?_;refine zAe rfl rfl rfl rfl rfl rfl trivial ?_;show Tri ..;refine zAj (Le.forgetH [(5,.s (.pt (Nd.enc (.mk rk rt rc rks)))),(6,.op 0 0),(8,.op n' 0),(9,p1),(10,.s (.bool true))] H (n' + 1) ⟨rfl,rfl,rfl,rfl,rfl,trivial⟩ (fun _=>rfl) rfl) ?_;refine zAa ?_;refine zAa ?_;refine zAb [] [] rfl ?_;show Tri ..
   refine zAd rfl (fun h=>by cases h) (fun _=>?_)
   refine zAg ?_;show Tri ..;obtain ⟨b2,hb2,h⟩:=zAc h;refine zAa ?_;refine zAa ?_;refine zAb [] [] rfl ?_;refine ⟨_,⟨f,_,_,hb2,rfl,rfl⟩,?_⟩
   show Tri ..;cases b2 with
   | false =>
    refine zAd rfl (fun _=>?_) (fun h=>by cases h)
    obtain ⟨rfl,rfl⟩:=Prod.mk.inj (Option.some.inj h)
    refine zAj (Le.forgetH [(6,.op 0 0)] H (n' + 1) ⟨rfl,trivial⟩ (fun _=>rfl) rfl) ?_;refine zAa ?_;refine zAb [] [] rfl ?_;refine zAe rfl rfl rfl rfl rfl rfl trivial ?_;refine zGx (sz:=4) (cs:=[.s (.int .i64 0),.s (.str []),.s (.int .i64 0),.nl 4]) (cs':=[.s (.int .i64 0),.s (.str []),.s (.int .i64 0),.nl 4]) (p:=.op 0 0) rfl rfl rfl rfl rfl (.inr ⟨0,rfl⟩) rfl (zD5 (bt:=24) g0) rfl rfl rfl rfl rfl ?_;refine zAe rfl rfl rfl rfl rfl rfl trivial ?_;show Tri ..;refine zAh ?_;unfold zAA
    refine ⟨_,Le.refl _ _,(zH6 (bt:=24) (cells:=[.s (.int .i64 0),.s (.str []),.s (.int .i64 0),.nl 4]) rfl ?_ rfl rfl rfl).trans rfl,rfl⟩
    show putC H (.op 0 0) _ 0 = _;rw [zFN (bt:=24) (cs:=[.s (.int .i64 0),.s (.str []),.s (.int .i64 0),.nl 4]) g0]; rfl
   | true =>
    refine zAd rfl (fun h=>by cases h) (fun _=>?_)
    refine zAg ?_;show Tri ..;rw [if_pos rfl] at h;obtain ⟨n2,hn2,h⟩:=zAc h;obtain ⟨hcnt2,hn2⟩:=zAR hn2;obtain rfl:=Option.some.inj hn2;refine zAj (Le.forgetH [(5,.s (.pt (Nd.enc (.mk rk rt rc rks)))),(6,.op 0 0),(8,.op n' 0),(9,p1)] H (n' + 1) ⟨rfl,rfl,rfl,rfl,trivial⟩ (fun _=>rfl) rfl) ?_;refine zAa ?_;refine zAb [] [] rfl ?_;refine zAe rfl rfl rfl rfl rfl (zDd hl1 (.inr rfl) rfl rfl) trivial ?_;refine zAe rfl rfl rfl rfl rfl rfl trivial ?_;refine ⟨_,⟨rk,rc,rt,rks,hcnt2,rfl,fun v2 hp2 n2 keys2 q1 q2 q3 q4 q5=>?_⟩,fun _ _ _ h=>h⟩
    refine zQb (d:=31) ?_;refine zAe rfl rfl rfl rfl rfl (zEK hl1 rfl rfl) trivial ?_;have hb1 : zBv p1 < n' + 1:=by
     rcases hole.base with h | h
     ·have : zBv p1 = n':=h
      omega
     ·have:=(h5 _ h).2; omega
    obtain ⟨yk,yt,yc,yks⟩:=y;obtain ⟨vy,hcy,_⟩:=hat1.full;have hcy2 : zAY hp2 p1 = some (zBj yk yt yc vy):=(zCj hl1 (q2 _ hb1)).trans hcy;have hv2 : v2.one = true ∧ v2.lt n2 = true:=by
     rcases q3 with ⟨_,rfl,_⟩ | ⟨q,_,_,_,rfl,_,_,hk,_⟩
     ·exact ⟨rfl,rfl⟩
     ·exact ⟨rfl,decide_eq_true (q5 q (by rw [hk]; exact List.mem_cons_self)).2⟩
    refine zGx (sz:=4) (cs':=zBj rk rt rc v2) rfl rfl rfl rfl rfl hl1 rfl hcy2 rfl rfl rfl (by simp only [zBj,List.all_cons,List.all_nil,hv2.1]; rfl) (by show AV.ltAll n2 (zBj rk rt rc v2) = true; simp only [zBj,AV.ltAll,hv2.2]; rfl) ?_;show Tri ..;refine zHV [(6,.op 0 0),(8,.op n' 0)] n2 ⟨rfl,rfl,trivial⟩ rfl fun H2 hH2=>?_
    have hH2 : ∀ m,H2 m = putC hp2 p1 (zBj rk rt rc v2) m:=hH2
    have hcp : zAY H2 p1 = some (zBj rk rt rc v2):=(zCj hl1 (hH2 _)).trans (zIN hl1 hcy2)
    have hb2k : ∀ m ∈ keys2,H2 m = hp2 m:=fun m hm=>(hH2 m).trans (zBR (by have hm1 : n' + 1 ≤ m:=(q5 m hm).1; omega))
    obtain ⟨w3,hat3⟩:=At.ofV hcp (q3.frame hb2k)
    obtain ⟨keys0,rest,w0',a1,a2,a3,a4,a5⟩:=hole;have hrest : ∀ m,m = n' ∨ m ∈ rest → m < n' + 1:=fun m hm=>by
     rcases hm with rfl | hm
     ·omega
     ·have:=(h5 m (a1.mem_iff.2 (List.mem_append_right _ hm))).2; omega
    obtain ⟨keys3,w4,hperm,hfin⟩:=a5 H2 (.mk rk rt rc rks) keys2 w3 (Sim.put (c:=zBj rk rt rc v2) hl1 hcy fun m hm=>(hH2 m).trans (zH5 hl1 (q2 m (hrest m hm)) (q2 _ hb1))) hat3;have hput : F (.mk rk rt rc rks) = putL (.mk k t c ks) path (.mk rk rt rc rks):=(hF _).symm;rw [hput] at hfin;have hn0 : ∀ m,m = n' ∨ m ∈ keys3 → m ≠ 0:=fun m hm=>by
     have e1 : 1 ≤ n':=h1;rcases hm with rfl | hm
     ·omega
     ·rcases List.mem_append.1 (hperm.mem_iff.1 hm) with hm | hm
      ·have e2 : 1 ≤ m:=(h5 m (a1.mem_iff.2 (List.mem_append_right _ hm))).1
       omega
      ·have e2 : n' + 1 ≤ m:=(q5 m hm).1
       omega
    have hatD : At (fun m=>bif Nat.beq m 0 then none else H2 m) 24 (.op n' 0) (putL (.mk k t c ks) path (.mk rk rt rc rks)) keys3 [] w4:=hfin.frame (.inr ⟨n',rfl⟩) fun m hm=>by rw [zD3 (hn0 m hm)]; rfl
    obtain ⟨cs,hcs,hrd⟩:=hatD.rd;rcases zCR (sz:=4) (.inr ⟨n',rfl⟩) hcs with ⟨q,i,e,rows,h1,_⟩ | ⟨q,bt,h1,hbt⟩
    ·cases h1
    cases h1;refine zAj (Le.givePart [(6,.op 0 0),(8,.s (.pt (Nd.enc (putL (.mk k t c ks) path (.mk rk rt rc rks)))))] (fun m=>bif Nat.beq m 0 then none else H2 m) (fun m=>bif Nat.beq m 0 then H2 m else none) (fun m ob hm=>by
     cases e : Nat.beq m 0 with
     | true=>rw [e] at hm; cases hm
     | false=>rw [e] at hm; exact hm) (fun m ob hm=>by
     cases e : Nat.beq m 0 with
     | true=>rw [e] at hm; exact hm
     | false=>rw [e] at hm; cases hm) (fun m ob ob' h1 h2=>by
     cases e : Nat.beq m 0 with
     | true=>rw [e] at h1; cases h1
     | false=>rw [e] at h2; cases h2) ⟨.inl rfl,.inr (Rd.box (off:=0) hbt hrd.1 hrd.2),trivial⟩) ?_
    have hb0 : 0 ≠ zBv p1:=by
     rcases a4 with rfl | a4
     ·exact Ne.symm (hn0 n' (.inl rfl))
     ·exact Ne.symm (hn0 _ (.inr (hperm.mem_iff.2 (List.mem_append_left _ a4))))
    have g3 : H2 0 = some (.box 24 [.s (.int .i64 0),.s (.str []),.s (.int .i64 0),.nl 4]):=(hH2 0).trans ((zBR hb0).trans ((q2 0 (Nat.succ_pos n')).trans g0))
    clear hrd hcs hatD hfin hput
    generalize putL (.mk k t c ks) path (.mk rk rt rc rks) = T1 at *;obtain ⟨k9,t9,c9,ks9⟩:=T1;obtain ⟨b3,hb3,h⟩:=zAc h;refine zHV [(6,.op 0 0),(8,.s (.pt (Nd.enc (.mk k9 t9 c9 ks9))))] n2 ⟨rfl,rfl,trivial⟩ rfl fun H3 hH3=>?_
    have g4 : H3 0 = some (.box 24 [.s (.int .i64 0),.s (.str []),.s (.int .i64 0),.nl 4]):=(hH3 0).trans g3;refine zAa ?_;refine zAa ?_;refine zAb [] [] rfl ?_;refine ⟨_,⟨f,_,_,hb3,rfl,rfl⟩,?_⟩
    show Tri ..;cases b3 with
    | false =>
     refine zAd rfl (fun _=>?_) (fun h=>by cases h)
     obtain ⟨rfl,rfl⟩:=Prod.mk.inj (Option.some.inj h)
     refine zAj (Le.forgetH [(6,.op 0 0)] H3 n2 ⟨rfl,trivial⟩ (fun _=>rfl) rfl) ?_;refine zAa ?_;refine zAb [] [] rfl ?_;refine zAe rfl rfl rfl rfl rfl rfl trivial ?_;refine zGx (sz:=4) (cs:=[.s (.int .i64 0),.s (.str []),.s (.int .i64 0),.nl 4]) (cs':=[.s (.int .i64 0),.s (.str []),.s (.int .i64 0),.nl 4]) (p:=.op 0 0) rfl rfl rfl rfl rfl (.inr ⟨0,rfl⟩) rfl (zD5 (bt:=24) g4) rfl rfl rfl rfl rfl ?_;refine zAe rfl rfl rfl rfl rfl rfl trivial ?_;show Tri ..;refine zAh ?_;unfold zAA
     refine ⟨_,Le.refl _ _,(zH6 (bt:=24) (cells:=[.s (.int .i64 0),.s (.str []),.s (.int .i64 0),.nl 4]) rfl ?_ rfl rfl rfl).trans rfl,rfl⟩
     show putC H3 (.op 0 0) _ 0 = _;rw [zFN (bt:=24) (cs:=[.s (.int .i64 0),.s (.str []),.s (.int .i64 0),.nl 4]) g4]; rfl
    | true =>
     refine zAd rfl (fun h=>by cases h) (fun _=>?_)
     obtain ⟨rfl,rfl⟩:=Prod.mk.inj (Option.some.inj h)
     refine zAg ?_;show Tri ..;refine zAj (Le.forgetH [(6,.op 0 0),(8,.s (.pt (Nd.enc (.mk k9 t9 c9 ks9))))] H3 n2 ⟨rfl,rfl,trivial⟩ (fun _=>rfl) rfl) ?_;refine zAa ?_;refine zAb [] [] rfl ?_;refine zAe rfl rfl rfl rfl rfl rfl trivial ?_;refine zGx (sz:=4) (cs:=[.s (.int .i64 0),.s (.str []),.s (.int .i64 0),.nl 4]) (cs':=zBj k9 t9 c9 (.s (.sl 4 (Nd.encs ks9)))) (p:=.op 0 0) rfl rfl rfl rfl rfl (.inr ⟨0,rfl⟩) rfl (zD5 (bt:=24) g4) rfl rfl rfl rfl rfl ?_;refine zAe rfl rfl rfl rfl rfl rfl trivial ?_;show Tri ..;refine zAh ?_;unfold zAA
     refine ⟨_,Le.refl _ _,(zH6 (bt:=24) (cells:=zBj k9 t9 c9 (.s (.sl 4 (Nd.encs ks9)))) rfl ?_ rfl rfl rfl).trans rfl,rfl⟩
     show putC H3 (.op 0 0) _ 0 = _;rw [zFN (bt:=24) (cs:=[.s (.int .i64 0),.s (.str []),.s (.int .i64 0),.nl 4]) g4]; rfl
end Go.Proofs.YtjdhkpdjecegnaaGreatDoor
namespace Go.Proofs
open Go.RowKit Go.Lib
theorem Tryz.Grow_nil_sNode (w : World) :
  Calls Tryz.prog 128 #[.slice none 0 0,.int .i64 0] w fun e w'=>e = .returned (.slice none 0 0) ∧ w' = w:=by
 have h2 : wrap64 0 = 0:=by unfold wrap64; omega
 go_enter Tryz.func128,Tryz.ntmps128
 go_wp2
 go_ret
 exact ⟨rfl,rfl⟩
set_option maxHeartbeats 4000000 in
theorem Tryz.Grow_new_sNode (i0 : TypeInfo) (z : Value) (hi0 : Tryz.prog.info? 24 = some i0) (hz0 : i0.zero = some z) (hs0 : 0 < i0.size)
  (n : Nat) (w : World) (hroom : 0 < n) (hbig : n * i0.bytes ≤ 140737488355328) (h63 : n ≤ 4611686018427387904) :
  Calls Tryz.prog 128 #[.slice none 0 0,.int .i64 n] w fun e w' =>
   e = .returned (.slice (some ⟨w.heap.size,0,none⟩) 0 (grownCap w n 0 24)) ∧
   w' = w.drew.alloc (.cells (#[] ++ Builtin.zeroCells z.cells n ++ Builtin.zeroCells z.cells (grownCap w n 0 24 - n)) 24):=by
 have h1 : ¬ ((n : Int) < 0) :=(by omega);have h2 : wrap64 0 = 0 :=(by unfold wrap64; omega);have h3 : wrap64 (n : Int) = (n : Int) :=(by unfold wrap64; omega);have h4 : (n : Int) > 0 :=(by omega);have hold : (Builtin.firstCells i0.size 0 (.slice none 0 0)).run Tryz.prog w.drew = .ok ([] : List Value).toArray w.drew:=run_firstCells_none w.drew i0.size 0 0 0;have hrz : ∀ ty,(Builtin.append_ #[22,3] ty #[.slice none 0 0,.int .i64 (n : Int)]).run Tryz.prog w =
   .ok (.slice (some ⟨w.heap.size,0,none⟩) n (grownCap w n 0 24)) (w.drew.alloc (.cells (#[] ++ Builtin.zeroCells z.cells n ++ Builtin.zeroCells z.cells (grownCap w n 0 24 - n)) 24)):=fun ty=>by
  have h:=Lib.run_append_grow_zeros w 22 3 ty 24 i0 z .i64 .i64 Tryz.underlying22 Tryz.underlying3 hi0 hz0 none 0 0 [] hold n (by omega) hs0 (by omega) (by omega) (by omega)
   (by rw [Nat.zero_add]; exact growslice_fits hroom hbig)
  rw [Nat.zero_add] at h;exact h
 have hGn : n ≤ grownCap w n 0 24:=grownCap_ge w _ _ _;obtain ⟨G,hG⟩ : ∃ G,G = grownCap w n 0 24:=⟨_,rfl⟩
 rw [← hG] at hrz hGn ⊢;have hG63 : G ≤ 9223372036854775807:=by
  have:=grownCap_le_maxLen w n 0 24 (by unfold maxLen; omega)
  rw [← hG] at this;unfold maxLen at this
  omega
 clear hold hG
 go_enter Tryz.func128,Tryz.ntmps128
 go_wp2_with (at_builtin; refine Lib.wpList_append_run _ rfl _ _ _ _ rfl _ _ rfl rfl _ _ (hrz _) ?_)
 all_goals (go_ret; exact ⟨rfl,rfl⟩)
theorem Tryz.Grow_nil_sint (w : World) :
  Calls Tryz.prog 69 #[.slice none 0 0,.int .i64 0] w fun e w'=>e = .returned (.slice none 0 0) ∧ w' = w:=by
 have h2 : wrap64 0 = 0:=by unfold wrap64; omega
 go_enter Tryz.func69,Tryz.ntmps69
 go_wp2
 go_ret
 exact ⟨rfl,rfl⟩
set_option maxHeartbeats 4000000 in
theorem Tryz.Grow_new_sint (i0 : TypeInfo) (z : Value) (hi0 : Tryz.prog.info? 3 = some i0) (hz0 : i0.zero = some z) (hs0 : 0 < i0.size)
  (n : Nat) (w : World) (hroom : 0 < n) (hbig : n * i0.bytes ≤ 140737488355328) (h63 : n ≤ 4611686018427387904) :
  Calls Tryz.prog 69 #[.slice none 0 0,.int .i64 n] w fun e w' =>
   e = .returned (.slice (some ⟨w.heap.size,0,none⟩) 0 (grownCap w n 0 3)) ∧
   w' = w.drew.alloc (.cells (#[] ++ Builtin.zeroCells z.cells n ++ Builtin.zeroCells z.cells (grownCap w n 0 3 - n)) 3):=by
 have h1 : ¬ ((n : Int) < 0) :=(by omega);have h2 : wrap64 0 = 0 :=(by unfold wrap64; omega);have h3 : wrap64 (n : Int) = (n : Int) :=(by unfold wrap64; omega);have h4 : (n : Int) > 0 :=(by omega);have hold : (Builtin.firstCells i0.size 0 (.slice none 0 0)).run Tryz.prog w.drew = .ok ([] : List Value).toArray w.drew:=run_firstCells_none w.drew i0.size 0 0 0;have hrz : ∀ ty,(Builtin.append_ #[43,3] ty #[.slice none 0 0,.int .i64 (n : Int)]).run Tryz.prog w =
   .ok (.slice (some ⟨w.heap.size,0,none⟩) n (grownCap w n 0 3)) (w.drew.alloc (.cells (#[] ++ Builtin.zeroCells z.cells n ++ Builtin.zeroCells z.cells (grownCap w n 0 3 - n)) 3)):=fun ty=>by
  have h:=Lib.run_append_grow_zeros w 43 3 ty 3 i0 z .i64 .i64 Tryz.underlying43 Tryz.underlying3 hi0 hz0 none 0 0 [] hold n (by omega) hs0 (by omega) (by omega) (by omega)
   (by rw [Nat.zero_add]; exact growslice_fits hroom hbig)
  rw [Nat.zero_add] at h;exact h
 have hGn : n ≤ grownCap w n 0 3:=grownCap_ge w _ _ _;obtain ⟨G,hG⟩ : ∃ G,G = grownCap w n 0 3:=⟨_,rfl⟩
 rw [← hG] at hrz hGn ⊢;have hG63 : G ≤ 9223372036854775807:=by
  have:=grownCap_le_maxLen w n 0 3 (by unfold maxLen; omega)
  rw [← hG] at this;unfold maxLen at this
  omega
 clear hold hG
 go_enter Tryz.func69,Tryz.ntmps69
 go_wp2_with (at_builtin; refine Lib.wpList_append_run _ rfl _ _ _ _ rfl _ _ rfl rfl _ _ (hrz _) ?_)
 all_goals (go_ret; exact ⟨rfl,rfl⟩)
end Go.Proofs
namespace Go.Proofs.YtjdhkpdjecegnaaGreatDoor
open Go.Abs
theorem zUK (z : Array Value) (n : Nat) : (Builtin.zeroCells z n).size = n * z.size:=by simp [Builtin.zeroCells]
def zIF (xs : List AV) (r : Ret) : Prop:=∃ (a0 : Int) (y0 : List Nd),zDX a0 = some y0 ∧ xs = [.nl 4,.s (.int .i64 a0)] ∧ r = .row 24 4 (Nd.encs y0)
def zFC : zAt:=zWX fun xs r=>zIF xs r
theorem zIi : PSound Tryz.prog 128 zFC :=
 ⟨Tryz.call128,fun G w xs vs r hl hg _ hv ⟨a0,y0,hm,hx,hr⟩=>by
  subst hx; subst hr
  obtain ⟨⟨q1,q2⟩,hm⟩:=zAR hm;obtain rfl:=Option.some.inj hm;obtain ⟨n,rfl⟩:=Int.eq_ofNat_of_zero_le q1;simp only [AVals,AVal,Rep] at hv;obtain ⟨_,_,rfl,rfl,_,_,rfl,rfl,rfl⟩:=hv
  by_cases h0 : n = 0
  ·subst h0;exact (Tryz.Grow_nil_sNode w).mono fun e w' ⟨h1,h2⟩=>by
    subst h2;exact ⟨_,G,h1,Ext.refl hl,fun r hr=>(by cases hr),by decide,.inl ⟨rfl,rfl⟩⟩
  obtain ⟨d,info,z,b1,b2,b3,b4,b5,b6,b7,b8,b9,b10⟩:=tokW 24 _ rfl;have i1 : info.size = 4:=b4;have i2 : info.bytes = 56:=b5;have hzs : z.cells.size = 4:=zHW b7 b8 b9;refine (Tryz.Grow_new_sNode info z b3 b6 (by omega) n w (by omega) (by rw [i2]; omega) (by omega)).mono fun e w' ⟨h1,h2⟩=>?_
  have hge : n ≤ grownCap w n 0 24 :=(by unfold grownCap Question.cut; simp);generalize grownCap w n 0 24 = g at *;refine ⟨_,G,h1,?_,fun r hr=>(by cases hr),by decide,.inr ⟨w.heap.size,g,#[] ++ Builtin.zeroCells z.cells n ++ Builtin.zeroCells z.cells (g - n),rfl,Nat.zero_le _,?_,by rw [h2]; exact zCS w.drew _,fun h=>Nat.lt_irrefl _ (hl _ h),Nat.le_refl _,fun i s hi=>by cases hi⟩⟩
  ·rw [h2]
   exact (Ext.drew hl).trans (Ext.own (w:=w.drew) hl _)
  ·simp only [Array.size_append,Array.size_empty,zUK,hzs]
   omega,
 fun R hR=>(by cases hR),fun R hR=>(by cases hR)⟩
def zId (xs : List AV) (r : Ret) : Prop:=∃ (a0 : List Nd) (y0 : List Nd),zDM a0 = some y0 ∧ xs = [.s (.sl 4 (Nd.encs a0))] ∧ r = .val (.s (.sl 4 (Nd.encs y0)))
def zFa : zAt:=zAG fun xs r=>zId xs r
theorem zHM : PSound Tryz.prog 116 zFa:=by
 have gok : ∀ (f : Nat) (s : zAt),(fun _=>none : Nat → Option zAt) f = some s → PSound Tryz.prog f s:=fun _ _ h=>by cases h
 refine zAK tokW Tryz.call116 Tryz.func116 rfl (fun xs r h=>by obtain ⟨_,_,_,rfl,_⟩:=h; show 1 ≤ _; decide) _ rfl ?_;rintro xs r w0 G0 ⟨l,y,h,rfl,rfl⟩ _;obtain ⟨hq,h⟩:=zAR h;obtain rfl:=Option.some.inj h;have hlen : (Nd.encs l).length = l.length:=rlen Nd.encs_eq l;refine zAa ?_;refine zAb [] [] rfl ?_;show Tri ..;refine zAa ?_;refine zAa ?_;refine zAb [] [] rfl ?_;intro b hb;show Tri ..;cases b with
 | true =>
  have hl:=hb rfl;refine zAd rfl (fun _=>?_) (fun h=>by cases h)
  refine zAa ?_;refine zAb [] [] rfl ?_;show Tri ..;refine zAh ?_;unfold zAA;exact ⟨_,Le.refl _ _,congrArg (fun z=>some (AV.s (.sl 4 z))) hl.symm,rfl⟩
 | false =>
  refine zAd rfl (fun h=>by cases h) (fun _=>?_)
  refine zAg ?_;show Tri ..;refine zAa ?_;refine zAb [5,7] [] rfl ?_;refine And.intro (show (([] : List (List S)).length + (Nd.encs l).length) * 56 ≤ 140737488355328 ∧ ([] : List (List S)).length + (Nd.encs l).length ≤ 9223372036854775807 from by rw [hlen]; simp only [List.length_nil]; omega) ?_;show Tri ..;refine zAh ?_;unfold zAA;exact ⟨_,Le.giveRow 1 (e:=24) (sz:=4) (rows:=Nd.encs l) rfl,rfl,rfl⟩
def zJf (xs : List AV) (r : Ret) : Prop:=∃ (a0 : Int) (y0 : List Int),zDi a0 = some y0 ∧ xs = [.nl 1,.s (.int .i64 a0)] ∧ r = .row 3 1 ((List.map (irow .i64)) y0)
def zF1 : zAt:=zWX fun xs r=>zJf xs r
theorem zIZ : PSound Tryz.prog 69 zF1 :=
 ⟨Tryz.call69,fun G w xs vs r hl hg _ hv ⟨a0,y0,hm,hx,hr⟩=>by
  subst hx; subst hr
  obtain ⟨⟨q1,q2⟩,hm⟩:=zAR hm;obtain rfl:=Option.some.inj hm;obtain ⟨n,rfl⟩:=Int.eq_ofNat_of_zero_le q1;simp only [AVals,AVal,Rep] at hv;obtain ⟨_,_,rfl,rfl,_,_,rfl,rfl,rfl⟩:=hv
  by_cases h0 : n = 0
  ·subst h0;exact (Tryz.Grow_nil_sint w).mono fun e w' ⟨h1,h2⟩=>by
    subst h2;exact ⟨_,G,h1,Ext.refl hl,fun r hr=>(by cases hr),by decide,.inl ⟨rfl,rfl⟩⟩
  obtain ⟨d,info,z,b1,b2,b3,b4,b5,b6,b7,b8,b9,b10⟩:=tokW 3 _ rfl;have i1 : info.size = 1:=b4;have i2 : info.bytes = 8:=b5;have hzs : z.cells.size = 1:=zHW b7 b8 b9;refine (Tryz.Grow_new_sint info z b3 b6 (by omega) n w (by omega) (by rw [i2]; omega) (by omega)).mono fun e w' ⟨h1,h2⟩=>?_
  have hge : n ≤ grownCap w n 0 3 :=(by unfold grownCap Question.cut; simp);generalize grownCap w n 0 3 = g at *;refine ⟨_,G,h1,?_,fun r hr=>(by cases hr),by decide,.inr ⟨w.heap.size,g,#[] ++ Builtin.zeroCells z.cells n ++ Builtin.zeroCells z.cells (g - n),rfl,Nat.zero_le _,?_,by rw [h2]; exact zCS w.drew _,fun h=>Nat.lt_irrefl _ (hl _ h),Nat.le_refl _,fun i s hi=>by cases hi⟩⟩
  ·rw [h2]
   exact (Ext.drew hl).trans (Ext.own (w:=w.drew) hl _)
  ·simp only [Array.size_append,Array.size_empty,zUK,hzs]
   omega,
 fun R hR=>(by cases hR),fun R hR=>(by cases hR)⟩
def zIE (xs : List AV) (r : Ret) : Prop:=∃ (a0 : List Int) (y0 : List Int),zBJ a0 = some y0 ∧ xs = [.s (.sl 1 ((List.map (irow .i64)) a0))] ∧ r = .val (.s (.sl 1 ((List.map (irow .i64)) y0)))
def zFB : zAt:=zAG fun xs r=>zIE xs r
theorem zIh : PSound Tryz.prog 66 zFB:=by
 have gok : ∀ (f : Nat) (s : zAt),(fun _=>none : Nat → Option zAt) f = some s → PSound Tryz.prog f s:=fun _ _ h=>by cases h
 refine zAK tokW Tryz.call66 Tryz.func66 rfl (fun xs r h=>by obtain ⟨_,_,_,rfl,_⟩:=h; show 1 ≤ _; decide) _ rfl ?_;rintro xs r w0 G0 ⟨l,y,h,rfl,rfl⟩ _;obtain ⟨hq,h⟩:=zAR h;obtain rfl:=Option.some.inj h;have hlen : ((List.map (irow .i64)) l).length = l.length:=rlen (fun _=>rfl) l;refine zAa ?_;refine zAb [] [] rfl ?_;show Tri ..;refine zAa ?_;refine zAa ?_;refine zAb [] [] rfl ?_;intro b hb;show Tri ..;cases b with
 | true =>
  have hl:=hb rfl;refine zAd rfl (fun _=>?_) (fun h=>by cases h)
  refine zAa ?_;refine zAb [] [] rfl ?_;show Tri ..;refine zAh ?_;unfold zAA;exact ⟨_,Le.refl _ _,congrArg (fun z=>some (AV.s (.sl 1 z))) hl.symm,rfl⟩
 | false =>
  refine zAd rfl (fun h=>by cases h) (fun _=>?_)
  refine zAg ?_;show Tri ..;refine zAa ?_;refine zAb [5,7] [] rfl ?_;refine And.intro (show (([] : List (List S)).length + ((List.map (irow .i64)) l).length) * 8 ≤ 140737488355328 ∧ ([] : List (List S)).length + ((List.map (irow .i64)) l).length ≤ 9223372036854775807 from by rw [hlen]; simp only [List.length_nil]; omega) ?_;show Tri ..;refine zAh ?_;unfold zAA;exact ⟨_,Le.giveRow 1 (e:=3) (sz:=1) (rows:=(List.map (irow .i64)) l) rfl,rfl,rfl⟩
end Go.Proofs.YtjdhkpdjecegnaaGreatDoor
namespace Go.Proofs.YtjdhkpdjecegnaaGreatDoor
open Go.Abs
def zAD (p : List Nd) : List S:=[.sl 4 (Nd.encs p)]
def zHo (n : Nat) (xs : List AV) (r : Ret) : Prop:=∃ (a0 : List (List Nd)) (y0 : List Nd),zBO n a0 = some y0 ∧ xs = [.s (.sl 1 ((List.map zAD) a0))] ∧ r = .row 24 4 (Nd.encs y0)
def zET : zAt:=zAG fun xs r=>∃ n,zHo n xs r
theorem zHl : PSound Tryz.prog 123 zET:=by
 have gok : ∀ f s,look? f [(128,zFC)] = some s → PSound Tryz.prog f s:=zAu (by
  simp only [List.forall_mem_cons]
  exact ⟨zIi,by simp⟩)
 refine zAK tokW Tryz.call123 Tryz.func123 rfl (fun xs r h=>by obtain ⟨n,_,_,_,rfl,_⟩:=h; show 1 ≤ 36; decide) 36 rfl ?_;rintro xs r w0 G0 ⟨n,slices1,y0,h,rfl,rfl⟩ _;rw [zBO] at h;refine zAa ?_;refine zAb [2] [] rfl ?_;show Tri ..;refine zAj (Le.rnm [] [(0,.s (.sl 1 ((List.map zAD) slices1)))] [] 0 ⟨rfl,trivial⟩ trivial) ?_;refine zAa ?_;refine zAb [] [] rfl ?_;show Tri ..;refine zAa ?_;refine zAa ?_;refine zAb [] [10] rfl ?_;intro n2 hn2;obtain rfl : (slices1.length : Int) = n2:=(hn2.trans (congrArg (fun m : Nat=>(m : Int)) (rlen (fun _=>rfl) slices1))).symm;show Tri ..
 obtain ⟨size5,hl,h⟩:=zAc h;refine zAr ⟨ofL [(0,.s (.sl 1 ((List.map zAD) slices1))),(3,.s (.int .i64 size5))],fun _=>none,0⟩ ?_ (fun σ' hle=>?_)
 ·refine zAl (zAI (X:=Nat × Int × Int) (fun y=>match y with | (k,x3,size4)=>⟨ofL [(0,.s (.sl 1 ((List.map zAD) slices1))),(3,.s (.int .i64 size4)),(9,.s (.sl 1 ((List.map zAD) slices1))),(10,.s (.int .i64 (slices1.length : Int))),(11,.s (.int .i64 x3))],fun _=>none,0⟩) (fun y=>zA4 slices1 y.1 y.2.1 y.2.2 = some size5) (fun y=>y.1) (n,0,0) hl ?_ ?_)
  ·exact (Le.forget _ ⟨rfl,rfl,rfl,rfl,rfl,trivial⟩)
  ·rintro ⟨k,x3,size4⟩ h;cases k with
   | zero=>cases h
   | succ k =>
    replace h : zA4 slices1 (k+1) x3 size4 = some size5:=h;rw [zA4] at h;refine zAa ?_;refine zAb [] [] rfl ?_;show Tri ..;refine zAa ?_;refine zAd rfl (fun hb=>?_) (fun hb=>?_)
    ·replace h:=zAn hb h;refine zAg ?_;show Tri ..;refine zAa ?_;refine zAl ?_;refine zAa ?_;refine zAb [] [13] rfl ?_;obtain ⟨e6,he6,h⟩:=zAc h;refine And.intro (zAC (fun _=>rfl) he6).1 ?_;intro r7 hr7;obtain rfl : [.sl 4 (Nd.encs e6)] = r7:=(hr7.trans (zAC (fun _=>rfl) he6).2.1).symm;show Tri ..;refine zAa ?_;refine zAb [] [17] rfl ?_;intro n8 hn8;obtain rfl : (e6.length : Int) = n8:=(hn8.trans (congrArg (fun m : Nat=>(m : Int)) (rlen Nd.encs_eq e6))).symm;show Tri ..;refine zAa ?_;refine zAb [] [] rfl ?_;show Tri ..;refine zAd rfl (fun hb=>?_) (fun hb=>?_)
     ·replace h:=zAn hb h;cases h
     ·replace h:=zAm hb h;refine zAg ?_;show Tri ..;refine zAb [] [] rfl ?_;refine ⟨(k,IntKind.i64.wrap (x3 + 1),IntKind.i64.wrap (size4 + (e6.length : Int))),h,(Le.forget _ ⟨rfl,rfl,rfl,rfl,rfl,trivial⟩),Nat.lt_succ_self k⟩
    ·replace h:=zAm hb h;refine zAM ?_;cases h;exact (Le.forget _ ⟨rfl,rfl,trivial⟩)
 ·show Tri ..;refine zAj hle ?_;refine zAa ?_;refine zAb [24] [] rfl ?_;obtain ⟨y9,hy9,h⟩:=zAc h;refine ⟨_,⟨_,_,hy9,rfl,rfl⟩,?_⟩
  show Tri ..;refine zAa ?_;refine zAa ?_;refine zAb [] [26] rfl ?_;intro n10 hn10;obtain rfl : (slices1.length : Int) = n10:=(hn10.trans (congrArg (fun m : Nat=>(m : Int)) (rlen (fun _=>rfl) slices1))).symm;show Tri ..;obtain ⟨l14,hl,h⟩:=zAc h;refine zAr ⟨ofL [(6,.orow 0)],ofH [(0,.row 24 4 (Nd.encs l14))],1⟩ ?_ (fun σ' hle=>?_)
  ·refine zAl (zAI (X:=Nat × Int × (List Nd)) (fun y=>match y with | (k,x11,l13)=>⟨ofL [(6,.orow 0),(25,.s (.sl 1 ((List.map zAD) slices1))),(26,.s (.int .i64 (slices1.length : Int))),(27,.s (.int .i64 x11))],ofH [(0,.row 24 4 (Nd.encs l13))],1⟩) (fun y=>zA5 slices1 y.1 y.2.1 y.2.2 = some l14) (fun y=>y.1) (n,0,y9) hl ?_ ?_)
   ·exact (Le.rnm [(0,0)] _ _ _ ⟨rfl,rfl,rfl,rfl,trivial⟩ ⟨rfl,⟨_,rfl,rfl⟩,trivial⟩)
   ·rintro ⟨k,x11,l13⟩ h;cases k with
    | zero=>cases h
    | succ k =>
     replace h : zA5 slices1 (k+1) x11 l13 = some l14:=h;rw [zA5] at h;refine zAa ?_;refine zAb [] [] rfl ?_;show Tri ..;refine zAa ?_;refine zAd rfl (fun hb=>?_) (fun hb=>?_)
     ·replace h:=zAn hb h;refine zAg ?_;show Tri ..;refine zAa ?_;refine zAl ?_;refine zAa ?_;refine zAb [] [29] rfl ?_;obtain ⟨e15,he15,h⟩:=zAc h;refine And.intro (zAC (fun _=>rfl) he15).1 ?_;intro r16 hr16;obtain rfl : [.sl 4 (Nd.encs e15)] = r16:=(hr16.trans (zAC (fun _=>rfl) he15).2.1).symm;show Tri ..;refine zAb [33] [] rfl ?_;obtain ⟨hq,h⟩:=zAR h
      refine And.intro (show ((Nd.encs l13).length + (Nd.encs e15).length) * 56 ≤ 140737488355328 ∧ (Nd.encs l13).length + (Nd.encs e15).length ≤ 9223372036854775807 from by simp only [List.length_append,List.length_cons,List.length_nil,List.length_map,rlen Nd.encs_eq] at hq ⊢; omega) ?_;show Tri ..
      refine zAj (Le.rnm [(1,0)] [(6,.orow 0),(25,.s (.sl 1 ((List.map zAD) slices1))),(26,.s (.int .i64 (slices1.length : Int))),(27,.s (.int .i64 x11))] [(0,.row 24 4 (Nd.encs (l13 ++ e15)))] 1 ⟨rfl,rfl,rfl,rfl,trivial⟩ ⟨rfl,⟨_,rfl,congrArg (Ob.row 24 4) (by simp [List.map_append,List.map_take,List.map_drop,irow,brow,zAQ,List.map_cons,List.map_nil,zAJ,Nd.encs_eq,Nd.enc,zAq,zAo,zAp,zAv,zAw,zAs,zAy,zAi,zAN,zAD])⟩,trivial⟩) ?_;refine zAb [] [] rfl ?_
      refine ⟨(k,IntKind.i64.wrap (x11 + 1),l13 ++ e15),h,(Le.rnm [(0,0)] _ _ _ ⟨rfl,rfl,rfl,rfl,trivial⟩ ⟨rfl,⟨_,rfl,rfl⟩,trivial⟩),Nat.lt_succ_self k⟩
     ·replace h:=zAm hb h;refine zAM ?_;cases h;exact (Le.rnm [(0,0)] _ _ _ ⟨rfl,trivial⟩ ⟨rfl,⟨_,rfl,rfl⟩,trivial⟩)
  ·show Tri ..;refine zAj hle ?_;refine zAa ?_;refine zAb [] [] rfl ?_;show Tri ..;refine zAh ?_;have hy:=Option.some.inj h;subst hy;unfold zAA;exact ⟨_,Le.refl _ _,0,rfl,rfl⟩
def zAz (p : (zO8 × List Nd)) : List S:=[.int .i64 p.1.1,.sl 1 ((List.map (irow .i64)) p.1.2.1),.int .i64 p.1.2.2.1,.int .i64 p.1.2.2.2.1,.sl 4 (Nd.encs p.1.2.2.2.2.1),.int .i64 p.1.2.2.2.2.2.1,.str p.1.2.2.2.2.2.2.1,.str p.1.2.2.2.2.2.2.2,.sl 4 (Nd.encs p.2)]
def zJb (n : Nat) (xs : List AV) (r : Ret) : Prop:=∃ (a0 : (zO8 × List Nd)) (a1 : Int) (a2 : List Nd) (y0 : List Nd),zA8 n a0 a1 a2 = some y0 ∧ xs = [.agg ((zAz a0).map .s),.s (.int .i64 a1),.s (.sl 4 (Nd.encs a2))] ∧ r = .val (.s (.sl 4 (Nd.encs y0)))
def zBP : zAt:=zAG fun xs r=>∃ n,zJb n xs r
theorem zCf : PSound Tryz.prog 113 zBP:=by
 have gok : ∀ f s,look? f [(123,zET)] = some s → PSound Tryz.prog f s:=zAu (by
  simp only [List.forall_mem_cons]
  exact ⟨zHl,by simp⟩)
 refine zAK tokW Tryz.call113 Tryz.func113 rfl (fun xs r h=>by obtain ⟨n,_,_,_,_,_,rfl,_⟩:=h; show 3 ≤ 24; decide) 24 rfl ?_;rintro xs r w0 G0 ⟨n,⟨⟨c1Aa,c1Ag,c1F,c1Ab,c1X,c1Z,c1Af,c1Ae⟩,c1J⟩,n2,nodes3,y0,h,rfl,rfl⟩ _;rw [zA8] at h;refine zAa ?_;refine zAb [] [] rfl ?_;show Tri ..;refine zAa ?_;refine zAB (by exact tokW) (by exact gok) (by exact mixed) [] [12,21,22] [] rfl (by decide +kernel) ?_;obtain ⟨hq,h⟩:=zAR h;refine And.intro ⟨hq.1,hq.2.1,Int.le_trans hq.2.2 (Int.ofNat_le.2 (Nat.le_of_eq (rlen Nd.encs_eq _).symm))⟩ ?_;intro r4 hr4
 obtain rfl : Nd.encs ((c1J.take c1F.toNat).drop (0 : Int).toNat) = r4:=(hr4.trans (rcut Nd.encs_eq _ _ _)).symm;obtain ⟨hq,h⟩:=zAR h;refine And.intro ⟨hq.1,Int.le_trans hq.2.1 (Int.ofNat_le.2 (Nat.le_of_eq (rlen Nd.encs_eq _).symm)),Int.le_refl _⟩ ?_;intro r5 hr5;obtain rfl : Nd.encs ((c1J.take (c1J.length : Int).toNat).drop (IntKind.i64.wrap (c1F + n2)).toNat) = r5:=(hr5.trans ((congrArg (fun m : Nat=>((Nd.encs c1J).take m).drop (IntKind.i64.wrap (c1F + n2)).toNat) (rlen Nd.encs_eq _)).trans (rcut Nd.encs_eq _ _ _))).symm;intro r6 hr6
 obtain rfl : (List.map zAD) [(c1J.take c1F.toNat).drop (0 : Int).toNat,nodes3,(c1J.take (c1J.length : Int).toNat).drop (IntKind.i64.wrap (c1F + n2)).toNat] = r6:=(hr6.trans (by simp [List.map_append,List.map_take,List.map_drop,irow,brow,zAQ,List.map_cons,List.map_nil,zAJ,Nd.encs_eq,Nd.enc,zAq,zAo,zAp,zAv,zAw,zAs,zAy,zAi,zAN,zAD])).symm;obtain ⟨y7,hy7,h⟩:=zAc h;refine ⟨_,⟨_,_,_,hy7,rfl,rfl⟩,?_⟩
 show Tri ..;refine zAh ?_;have hy:=Option.some.inj h;subst hy;unfold zAA;exact ⟨_,Le.refl _ _,rfl,rfl⟩
def zD0 (n : Nat) (xs : List AV) (r : Ret) : Prop:=∃ (a0 : Nd) (a1 : Nd) (y0 : Bool),zB2 n a0 a1 = some y0 ∧ xs = [.agg ((Nd.enc a0).map .s),.agg ((Nd.enc a1).map .s)] ∧ r = .val (.s (.bool y0))
def zBe (n : Nat) (xs : List AV) (r : Ret) : Prop:=∃ (a0 : List Nd) (a1 : List Nd) (y0 : Bool),zA6 n a0 a1 = some y0 ∧ xs = [.s (.sl 4 (Nd.encs a0)),.s (.sl 4 (Nd.encs a1)),.s (.fn 115)] ∧ r = .val (.s (.bool y0))
theorem zMt (n : Nat) (ih_node_Equal : PSound Tryz.prog 115 (zAG (zD0 n))) (ih_slices_EqualFunc_sNode : PSound Tryz.prog 114 (zAG (zBe n))) : PSound Tryz.prog 115 (zAG (zD0 (n + 1))):=by
 have gok : ∀ f s,look? f [(114,zAG (zBe n))] = some s → PSound Tryz.prog f s:=zAu (by
  simp only [List.forall_mem_cons]
  exact ⟨ih_slices_EqualFunc_sNode,by simp⟩)
 refine zAK tokW Tryz.call115 Tryz.func115 rfl (fun xs r h=>by obtain ⟨_,_,_,_,rfl,_⟩:=h; show 2 ≤ 31; decide) 31 rfl ?_;rintro xs r w0 G0 ⟨⟨a1A,a1C,a1D,a1B⟩,⟨b2A,b2C,b2D,b2B⟩,y0,h,rfl,rfl⟩ _;rw [zB2] at h;refine zAa ?_;refine zAb [] [] rfl ?_;show Tri ..;refine zAa ?_;obtain ⟨x3,hj,h⟩:=zAc h;refine zAr ⟨ofL [(4,.s (.bool x3))],fun _=>none,0⟩ ?_ (fun σ' hle=>?_)
 ·replace h:=hj;refine zAb [] [10,17,24] rfl ?_;intro b hb;cases b with
  | true =>
   replace h:=zAn hb.symm h;intro b hb;cases b with
   | true =>
    replace h:=zAn hb.symm h;intro b hb;cases b with
    | true =>
     replace h:=zAn hb.symm h;obtain ⟨y4,hy4,h⟩:=zAc h;refine ⟨_,⟨_,_,_,hy4,rfl,rfl⟩,?_⟩
     cases h;exact (Le.forget _ ⟨rfl,trivial⟩)
    | false =>
     replace h:=zAm hb.symm h;cases h;exact (Le.forget _ ⟨rfl,trivial⟩)
   | false =>
    replace h:=zAm hb.symm h;intro b hb;subst hb;cases h;exact (Le.forget _ ⟨rfl,trivial⟩)
  | false =>
   replace h:=zAm hb.symm h;intro b hb;subst hb;intro b hb;subst hb;cases h;exact (Le.forget _ ⟨rfl,trivial⟩)
 ·show Tri ..;refine zAj hle ?_;refine zAh ?_;have hy:=Option.some.inj h;subst hy;unfold zAA;exact ⟨_,Le.refl _ _,rfl,rfl⟩
theorem zFR (n : Nat) (ih_node_Equal : PSound Tryz.prog 115 (zAG (zD0 n))) (ih_slices_EqualFunc_sNode : PSound Tryz.prog 114 (zAG (zBe n))) : PSound Tryz.prog 114 (zAG (zBe (n + 1))):=by
 have gok : ∀ f s,look? f [(115,zAG (zD0 n))] = some s → PSound Tryz.prog f s:=zAu (by
  simp only [List.forall_mem_cons]
  exact ⟨ih_node_Equal,by simp⟩)
 refine zAK tokW Tryz.call114 Tryz.func114 rfl (fun xs r h=>by obtain ⟨_,_,_,_,rfl,_⟩:=h; show 3 ≤ 32; decide) 32 rfl ?_;rintro xs r w0 G0 ⟨s11,s22,y0,h,rfl,rfl⟩ _;rw [zA6] at h;refine zAa ?_;refine zAb [] [] rfl ?_;show Tri ..;refine zAa ?_;refine zAa ?_;refine zAb [] [11,13] rfl ?_;intro n3 hn3;obtain rfl : (s11.length : Int) = n3:=(hn3.trans (congrArg (fun m : Nat=>(m : Int)) (rlen Nd.encs_eq s11))).symm;intro n4 hn4;obtain rfl : (s22.length : Int) = n4:=(hn4.trans (congrArg (fun m : Nat=>(m : Int)) (rlen Nd.encs_eq s22))).symm;show Tri ..;refine zAd rfl (fun hb=>?_) (fun hb=>?_)
 ·replace h:=zAn hb h;refine zAa ?_;refine zAb [] [] rfl ?_;show Tri ..;refine zAh ?_;have hy:=Option.some.inj h;subst hy;unfold zAA;exact ⟨_,Le.refl _ _,rfl,rfl⟩
 ·replace h:=zAm hb h;refine zAg ?_;show Tri ..;refine zAa ?_;refine zAa ?_;refine zAb [] [16] rfl ?_;intro n5 hn5;obtain rfl : (s11.length : Int) = n5:=(hn5.trans (congrArg (fun m : Nat=>(m : Int)) (rlen Nd.encs_eq s11))).symm;show Tri ..;obtain ⟨fl,hl,ho1⟩:=zAc h;refine zEs (fl:=fl) (fun z=>match z with | _=>⟨ofL [],fun _=>none,0⟩) ?_ (fun z σ' hz hle=>?_)
  ·refine zAl (zAI (X:=Nat × Int) (fun y=>match y with | (k,x6)=>⟨ofL [(1,.s (.sl 4 (Nd.encs s22))),(2,.s (.fn 115)),(15,.s (.sl 4 (Nd.encs s11))),(16,.s (.int .i64 (s11.length : Int))),(17,.s (.int .i64 x6))],fun _=>none,0⟩) (fun y=>zAW (zB2 n) s11 s22 y.1 y.2 = some fl) (fun y=>y.1) (n,0) hl ?_ ?_)
   ·exact (Le.forget _ ⟨rfl,rfl,rfl,rfl,rfl,trivial⟩)
   ·rintro ⟨k,x6⟩ h;cases k with
    | zero=>cases h
    | succ k =>
     replace h : zAW (zB2 n) s11 s22 (k+1) x6 = some fl:=h;rw [zAW] at h;refine zAa ?_;refine zAb [] [] rfl ?_;show Tri ..;refine zAa ?_;refine zAd rfl (fun hb=>?_) (fun hb=>?_)
     ·replace h:=zAn hb h;refine zAg ?_;show Tri ..;refine zAa ?_;refine zAl ?_;refine zAa ?_;refine zAb [8] [20] rfl ?_;obtain ⟨⟨e7A,e7C,e7D,e7B⟩,he7,h⟩:=zAc h;refine And.intro (zAC Nd.encs_eq he7).1 ?_;intro r8 hr8;obtain rfl : [.int .i64 e7A,.str e7C,.int .i64 e7D,.sl 4 (Nd.encs e7B)] = r8:=(hr8.trans (zAC Nd.encs_eq he7).2.1).symm;show Tri ..;refine zAj (Le.giveBox 0 [.int .i64 e7A,.str e7C,.int .i64 e7D,.sl 4 (Nd.encs e7B)] rfl rfl) ?_;refine zAa ?_;refine zAb [9] [24] rfl ?_;obtain ⟨⟨e9A,e9C,e9D,e9B⟩,he9,h⟩:=zAc h
      refine And.intro (zAC Nd.encs_eq he9).1 ?_;intro r10 hr10;obtain rfl : [.int .i64 e9A,.str e9C,.int .i64 e9D,.sl 4 (Nd.encs e9B)] = r10:=(hr10.trans (zAC Nd.encs_eq he9).2.1).symm;show Tri ..;refine zAj (Le.giveBox 1 [.int .i64 e9A,.str e9C,.int .i64 e9D,.sl 4 (Nd.encs e9B)] rfl rfl) ?_;refine zAa ?_;refine zAb [] [] rfl ?_;obtain ⟨y11,hy11,h⟩:=zAc h;refine ⟨_,⟨_,_,_,hy11,rfl,rfl⟩,?_⟩
      show Tri ..;refine zAd rfl (fun hb=>?_) (fun hb=>?_)
      ·replace h:=zAn hb h;refine zAa ?_;refine zAb [] [] rfl ?_;show Tri ..;refine zAh ?_;cases h;replace h : some _ = some _:=ho1;have hy:=Option.some.inj h;subst hy;unfold zAA;exact ⟨_,Le.refl _ _,rfl,rfl⟩
      ·replace h:=zAm hb h;refine zAg ?_;show Tri ..;refine zAb [] [] rfl ?_;refine ⟨(k,IntKind.i64.wrap (x6 + 1)),h,(Le.rnm [] _ [] 0 ⟨rfl,rfl,rfl,rfl,rfl,trivial⟩ trivial),Nat.lt_succ_self k⟩
     ·replace h:=zAm hb h;refine zAM ?_;cases h;exact ⟨_,rfl,(Le.forget _ trivial)⟩
  ·subst hz;obtain _:=z;replace h:=ho1;show Tri ..;refine zAj hle ?_;refine zAa ?_;refine zAb [] [] rfl ?_;show Tri ..;refine zAh ?_;have hy:=Option.some.inj h;subst hy;unfold zAA;exact ⟨_,Le.refl _ _,rfl,rfl⟩
theorem zHx : ∀ n,PSound Tryz.prog 115 (zAG (zD0 n)) ∧ PSound Tryz.prog 114 (zAG (zBe n)):=by
 intro n
 induction n with
 | zero =>
  refine ⟨?_,?_⟩
  ·exact zCz Tryz.call115 (fun xs r h=>by obtain ⟨_,_,_,h,_⟩:=h; rw [zB2] at h; cases h)
  ·exact zCz Tryz.call114 (fun xs r h=>by obtain ⟨_,_,_,h,_⟩:=h; rw [zA6] at h; cases h)
 | succ n ih =>
  obtain ⟨ih_node_Equal,ih_slices_EqualFunc_sNode⟩:=ih;exact ⟨zMt n ih_node_Equal ih_slices_EqualFunc_sNode,zFR n ih_node_Equal ih_slices_EqualFunc_sNode⟩
def zKt : zAt:=zAG fun xs r=>∃ n,zD0 n xs r
theorem zOF : PSound Tryz.prog 115 zKt:=zEd (fun n=>(zHx n).1)
def zD1 : zAt:=zAG fun xs r=>∃ n,zBe n xs r
theorem zGi : PSound Tryz.prog 114 zD1:=zEd (fun n=>(zHx n).2)
def zGa (n : Nat) (xs : List AV) (r : Ret) : Prop:=∃ (a0 : (zO8 × List Nd)) (y0 : List Nd) (y1 : Int),zBt n a0 = some (y0,y1) ∧ xs = [.agg ((zAz a0).map .s)] ∧ r = .val (.tup [.s (.sl 4 (Nd.encs y0)),.s (.int .i64 y1)])
def zGc : zAt:=zAG fun xs r=>∃ n,zGa n xs r
theorem zFU : PSound Tryz.prog 94 zGc:=by
 have gok : ∀ f s,look? f [(34,zFx),(112,zFY),(115,zKt),(113,zBP)] = some s → PSound Tryz.prog f s:=zAu (by
  simp only [List.forall_mem_cons]
  exact ⟨zHf,zG5,zOF,zCf,by simp⟩)
 refine zAK tokW Tryz.call94 Tryz.func94 rfl (fun xs r h=>by obtain ⟨n,_,_,_,_,rfl,_⟩:=h; show 1 ≤ 54; decide) 54 rfl ?_;rintro xs r w0 G0 ⟨n,⟨⟨c1Aa,c1Ag,c1F,c1Ab,c1X,c1Z,c1Af,c1Ae⟩,c1J⟩,y0,y1,h,rfl,rfl⟩ _;rw [zBt] at h;refine zAa ?_;refine zAb [] [] rfl ?_;show Tri ..;refine zAa ?_;refine zAb [4] [11] rfl ?_;obtain ⟨⟨e2A,e2C,e2D,e2B⟩,he2,h⟩:=zAc h;refine And.intro (zAC Nd.encs_eq he2).1 ?_;intro r3 hr3;obtain rfl : [.int .i64 e2A,.str e2C,.int .i64 e2D,.sl 4 (Nd.encs e2B)] = r3:=(hr3.trans (zAC Nd.encs_eq he2).2.1).symm
 obtain ⟨⟨y4A,y4C,y4D,y4B⟩,hy4,h⟩:=zAc h;refine ⟨_,_,⟨_,_,hy4,rfl,rfl,rfl,rfl⟩,?_⟩
 show Tri ..;refine zAa ?_;refine zAa ?_;refine zAB (by exact tokW) (by exact gok) (by exact mixed) [] [] [3,4] rfl (by decide +kernel) ?_;obtain ⟨y5,hy5,h⟩:=zAc h;refine ⟨_,⟨_,_,hy5,rfl,rfl⟩,?_⟩
 show Tri ..;refine zAd rfl (fun hb=>?_) (fun hb=>?_)
 ·replace h:=zAn hb h;refine zAa ?_;refine zAb [] [] rfl ?_;show Tri ..;refine zAh ?_;obtain ⟨hj1,hk1⟩:=Prod.mk.inj (Option.some.inj h)
  subst hj1;subst hk1;unfold zAA;exact ⟨_,Le.refl _ _,rfl,rfl⟩
 ·replace h:=zAm hb h;refine zAg ?_;show Tri ..;refine zAa ?_;refine zAb [] [] rfl ?_;obtain ⟨⟨e6A,e6C,e6D,e6B⟩,he6,h⟩:=zAc h;refine And.intro (zAC Nd.encs_eq he6).1 ?_;refine And.intro (zAC Nd.encs_eq he6).2.2 ?_;refine ⟨_,(zAC Nd.encs_eq he6).2.1,?_⟩
  show Tri ..;refine zAa ?_;refine zAb [] [] rfl ?_;obtain ⟨⟨e7A,e7C,e7D,e7B⟩,he7,h⟩:=zAc h;refine And.intro (zAC Nd.encs_eq he7).1 ?_;have hset8:=(rset (R:=Nd.encs) (f:=Nd.enc) Nd.encs_eq he7 (Nd.mk e7A e7C e7D []) 3 4 [.sl 4 (Nd.encs [])] rfl)
  have hat8:=at_set he7 (Nd.mk e7A e7C e7D [])
  refine And.intro (zAC Nd.encs_eq he7).2.2 ?_;show Tri ..;refine zAj (Le.rnm [(1,0),(0,1)] [(1,.s (.pt [.int .i64 c1Aa,.sl 1 ((List.map (irow .i64)) c1Ag),.int .i64 c1F,.int .i64 c1Ab,.sl 4 (Nd.encs c1X),.int .i64 c1Z,.str c1Af,.str c1Ae,.sl 4 (Nd.encs c1J)])),(4,.op 0 0),(5,.s (.sl 4 (Nd.encs e6B)))] [(0,.box 24 [.s (.int .i64 y4A),.s (.str y4C),.s (.int .i64 y4D),.orow 1]),(1,.row 24 4 (Nd.encs (y4B.set c1Z.toNat (Nd.mk e7A e7C e7D []))))] 2 ⟨rfl,rfl,rfl,trivial⟩ ⟨rfl,⟨_,rfl,rfl⟩,rfl,⟨_,rfl,congrArg (Ob.row 24 4) hset8⟩,trivial⟩) ?_;refine zAa ?_
  refine zAa ?_;obtain ⟨x9,hj,h⟩:=zAc h;refine zAr ⟨ofL [(1,.s (.pt [.int .i64 c1Aa,.sl 1 ((List.map (irow .i64)) c1Ag),.int .i64 c1F,.int .i64 c1Ab,.sl 4 (Nd.encs c1X),.int .i64 c1Z,.str c1Af,.str c1Ae,.sl 4 (Nd.encs c1J)])),(5,.s (.sl 4 (Nd.encs e6B))),(50,.s (.bool x9))],fun _=>none,0⟩ ?_ (fun σ' hle=>?_)
  ·replace h:=hj;refine zAB (by exact tokW) (by exact gok) (by exact mixed) [] [36,41,46] [7,13] rfl (by decide +kernel) ?_;intro n10 hn10;obtain rfl : (e6B.length : Int) = n10:=(hn10.trans (congrArg (fun m : Nat=>(m : Int)) (rlen Nd.encs_eq e6B))).symm;intro b hb;cases b with
   | true =>
    replace h:=zAn hb.symm h;cases h;exact (Le.rnm [] _ [] 0 ⟨rfl,rfl,rfl,trivial⟩ trivial)
   | false =>
    replace h:=zAm hb.symm h;obtain ⟨⟨e11A,e11C,e11D,e11B⟩,he11,h⟩:=zAc h;refine And.intro (zAC Nd.encs_eq he11).1 ?_;intro r12 hr12;obtain rfl : [.int .i64 e11A,.str e11C,.int .i64 e11D,.sl 4 (Nd.encs e11B)] = r12:=(hr12.trans (zAC Nd.encs_eq he11).2.1).symm;obtain ⟨y13,hy13,h⟩:=zAc h;refine ⟨_,⟨_,_,_,_,hy13,rfl,rfl⟩,?_⟩
    cases h;exact (Le.rnm [] _ [] 0 ⟨rfl,rfl,rfl,trivial⟩ trivial)
  ·show Tri ..;refine zAj hle ?_;refine zAd rfl (fun hb=>?_) (fun hb=>?_)
   ·replace h:=zAn hb h;refine zAa ?_;refine zAb [] [] rfl ?_;show Tri ..;refine zAh ?_;obtain ⟨hj1,hk1⟩:=Prod.mk.inj (Option.some.inj h)
    subst hj1;subst hk1;unfold zAA;exact ⟨_,Le.refl _ _,rfl,rfl⟩
   ·replace h:=zAm hb h;refine zAg ?_;show Tri ..;refine zAa ?_;refine zAb [] [] rfl ?_;obtain ⟨y14,hy14,h⟩:=zAc h;refine ⟨_,⟨_,_,_,_,_,hy14,rfl,rfl⟩,?_⟩
    show Tri ..;refine zAh ?_;obtain ⟨hj1,hk1⟩:=Prod.mk.inj (Option.some.inj h)
    subst hj1;subst hk1;unfold zAA;exact ⟨_,Le.refl _ _,rfl,rfl⟩
def zGb (xs : List AV) (r : Ret) : Prop:=∃ (a0 : (zO8 × List Nd)) (y0 : List Nd) (y1 : Int),zBu a0 = some (y0,y1) ∧ xs = [.agg ((zAz a0).map .s)] ∧ r = .val (.tup [.s (.sl 4 (Nd.encs y0)),.s (.int .i64 y1)])
def zGd : zAt:=zAG fun xs r=>zGb xs r
theorem zFV : PSound Tryz.prog 94 zGd:=by
 have gok : ∀ f s,look? f [(34,zDV),(112,zFY)] = some s → PSound Tryz.prog f s:=zAu (by
  simp only [List.forall_mem_cons]
  exact ⟨zEc,zG5,by simp⟩)
 refine zAK tokW Tryz.call94 Tryz.func94 rfl (fun xs r h=>by obtain ⟨_,_,_,_,rfl,_⟩:=h; show 1 ≤ 54; decide) 54 rfl ?_;rintro xs r w0 G0 ⟨⟨⟨c1Aa,c1Ag,c1F,c1Ab,c1X,c1Z,c1Af,c1Ae⟩,c1J⟩,y0,y1,h,rfl,rfl⟩ _;rw [zBu] at h;refine zAa ?_;refine zAb [] [] rfl ?_;show Tri ..;refine zAa ?_;refine zAb [4] [11] rfl ?_;obtain ⟨⟨e2A,e2C,e2D,e2B⟩,he2,h⟩:=zAc h;refine And.intro (zAC Nd.encs_eq he2).1 ?_;intro r3 hr3;obtain rfl : [.int .i64 e2A,.str e2C,.int .i64 e2D,.sl 4 (Nd.encs e2B)] = r3:=(hr3.trans (zAC Nd.encs_eq he2).2.1).symm
 obtain ⟨⟨y4A,y4C,y4D,y4B⟩,hy4,h⟩:=zAc h;refine ⟨_,⟨_,_,hy4,rfl,rfl⟩,?_⟩
 show Tri ..;refine zAa ?_;refine zAa ?_;refine zAB (by exact tokW) (by exact gok) (by exact mixed) [] [] [3] rfl (by decide +kernel) ?_;obtain ⟨y5,hy5,h⟩:=zAc h;refine ⟨_,⟨_,_,hy5,rfl,rfl⟩,?_⟩
 show Tri ..;refine zAd rfl (fun hb=>?_) (fun hb=>?_)
 ·replace h:=zAn hb h;refine zAa ?_;refine zAb [] [] rfl ?_;show Tri ..;refine zAh ?_;obtain ⟨hj1,hk1⟩:=Prod.mk.inj (Option.some.inj h)
  subst hj1;subst hk1;unfold zAA;exact ⟨_,Le.refl _ _,rfl,rfl⟩
 ·replace h:=zAm hb h;refine zAg ?_;show Tri ..;refine zAa ?_;cases h
def zJc (n : Nat) (xs : List AV) (r : Ret) : Prop:=∃ (a0 : (zO8 × List Nd)) (y0 : List Nd) (y1 : Int),zDh n a0 = some (y0,y1) ∧ xs = [.agg ((zAz a0).map .s)] ∧ r = .val (.tup [.s (.sl 4 (Nd.encs y0)),.s (.int .i64 y1)])
def zFX : zAt:=zAG fun xs r=>∃ n,zJc n xs r
theorem zIW : PSound Tryz.prog 93 zFX:=by
 have gok : ∀ f s,look? f [(34,zFx),(116,zFa),(113,zBP)] = some s → PSound Tryz.prog f s:=zAu (by
  simp only [List.forall_mem_cons]
  exact ⟨zHf,zHM,zCf,by simp⟩)
 refine zAK tokW Tryz.call93 Tryz.func93 rfl (fun xs r h=>by obtain ⟨n,_,_,_,_,rfl,_⟩:=h; show 1 ≤ 39; decide) 39 rfl ?_;rintro xs r w0 G0 ⟨n,⟨⟨c1Aa,c1Ag,c1F,c1Ab,c1X,c1Z,c1Af,c1Ae⟩,c1J⟩,y0,y1,h,rfl,rfl⟩ _;rw [zDh] at h;refine zAa ?_;refine zAb [] [] rfl ?_;show Tri ..;refine zAa ?_;refine zAb [4] [8] rfl ?_;obtain ⟨⟨e2A,e2C,e2D,e2B⟩,he2,h⟩:=zAc h;refine And.intro (zAC Nd.encs_eq he2).1 ?_;intro r3 hr3;obtain rfl : [.int .i64 e2A,.str e2C,.int .i64 e2D,.sl 4 (Nd.encs e2B)] = r3:=(hr3.trans (zAC Nd.encs_eq he2).2.1).symm
 obtain ⟨⟨y4A,y4C,y4D,y4B⟩,hy4,h⟩:=zAc h;refine ⟨_,_,⟨_,_,hy4,rfl,rfl,rfl,rfl⟩,?_⟩
 show Tri ..;refine zAa ?_;refine zAB (by exact tokW) (by exact gok) (by exact mixed) [] [28] [1,19,21] rfl (by decide +kernel) ?_;obtain ⟨hq,h⟩:=zAR h;refine And.intro ⟨hq.1,hq.2.1,Int.le_trans hq.2.2 (Int.ofNat_le.2 (Nat.le_of_eq (rlen Nd.encs_eq _).symm))⟩ ?_;intro r5 hr5;obtain rfl : Nd.encs ((c1J.take (IntKind.i64.wrap (c1F + c1Ab)).toNat).drop c1F.toNat) = r5:=(hr5.trans (rcut Nd.encs_eq _ _ _)).symm;obtain ⟨y6,hy6,h⟩:=zAc h;refine ⟨_,⟨_,_,hy6,rfl,rfl⟩,?_⟩
 obtain ⟨⟨e7A,e7C,e7D,e7B⟩,he7,h⟩:=zAc h;refine And.intro (zAC Nd.encs_eq he7).1 ?_;have hset8:=(rset (R:=Nd.encs) (f:=Nd.enc) Nd.encs_eq he7 (Nd.mk e7A e7C e7D y6) 3 4 [.sl 4 (Nd.encs y6)] rfl)
 have hat8:=at_set he7 (Nd.mk e7A e7C e7D y6)
 refine And.intro (zAC Nd.encs_eq he7).2.2 ?_;show Tri ..
 refine zAj (Le.trans (Le.trans (Le.trans (Le.rnm [(1,0),(0,1)] [(1,.s (.pt [.int .i64 c1Aa,.sl 1 ((List.map (irow .i64)) c1Ag),.int .i64 c1F,.int .i64 c1Ab,.sl 4 (Nd.encs c1X),.int .i64 c1Z,.str c1Af,.str c1Ae,.sl 4 (Nd.encs c1J)])),(4,.op 0 0)] [(0,.box 24 [.s (.int .i64 y4A),.s (.str y4C),.s (.int .i64 y4D),.orow 1]),(1,.row 24 4 (Nd.encs (y4B.set c1Z.toNat (Nd.mk e7A e7C e7D y6))))] 2 ⟨rfl,rfl,trivial⟩ ⟨rfl,⟨_,rfl,rfl⟩,rfl,⟨_,rfl,congrArg (Ob.row 24 4) hset8⟩,trivial⟩) (Le.giveRow 1 rfl)) (Le.rnm [(0,0)] [(1,.s (.pt [.int .i64 c1Aa,.sl 1 ((List.map (irow .i64)) c1Ag),.int .i64 c1F,.int .i64 c1Ab,.sl 4 (Nd.encs c1X),.int .i64 c1Z,.str c1Af,.str c1Ae,.sl 4 (Nd.encs c1J)])),(4,.op 0 0)] [(0,.box 24 [.s (.int .i64 y4A),.s (.str y4C),.s (.int .i64 y4D),.s (.sl 4 (Nd.encs (y4B.set c1Z.toNat (Nd.mk e7A e7C e7D y6))))])] 1 ⟨rfl,rfl,trivial⟩ ⟨rfl,⟨_,rfl,rfl⟩,trivial⟩)) (Le.giveBox 0 [.int .i64 y4A,.str y4C,.int .i64 y4D,.sl 4 (Nd.encs (y4B.set c1Z.toNat (Nd.mk e7A e7C e7D y6)))] rfl rfl)) ?_
 refine zAa ?_;refine zAb [] [37] rfl ?_;intro r9 hr9;obtain rfl : Nd.encs [Nd.mk y4A y4C y4D (y4B.set c1Z.toNat (Nd.mk e7A e7C e7D y6))] = r9:=(hr9.trans (by simp [List.map_append,List.map_take,List.map_drop,irow,brow,zAQ,List.map_cons,List.map_nil,zAJ,Nd.encs_eq,Nd.enc,zAq,zAo,zAp,zAv,zAw,zAs,zAy,zAi,zAN,zAD,zAz])).symm;obtain ⟨y10,hy10,h⟩:=zAc h;refine ⟨_,⟨_,_,_,_,_,hy10,rfl,rfl⟩,?_⟩
 show Tri ..;refine zAh ?_;obtain ⟨hj1,hk1⟩:=Prod.mk.inj (Option.some.inj h)
 subst hj1;subst hk1;unfold zAA;exact ⟨_,Le.refl _ _,rfl,rfl⟩
def zH9 (n : Nat) (xs : List AV) (r : Ret) : Prop:=∃ (a0 : (zO8 × List Nd)) (y0 : List Nd) (y1 : Int),zCC n a0 = some (y0,y1) ∧ xs = [.agg ((zAz a0).map .s)] ∧ r = .val (.tup [.s (.sl 4 (Nd.encs y0)),.s (.int .i64 y1)])
def zE6 : zAt:=zAG fun xs r=>∃ n,zH9 n xs r
theorem zHI : PSound Tryz.prog 91 zE6:=by
 have gok : ∀ f s,look? f [(113,zBP)] = some s → PSound Tryz.prog f s:=zAu (by
  simp only [List.forall_mem_cons]
  exact ⟨zCf,by simp⟩)
 refine zAK tokW Tryz.call91 Tryz.func91 rfl (fun xs r h=>by obtain ⟨n,_,_,_,_,rfl,_⟩:=h; show 1 ≤ 9; decide) 9 rfl ?_;rintro xs r w0 G0 ⟨n,⟨⟨c1Aa,c1Ag,c1F,c1Ab,c1X,c1Z,c1Af,c1Ae⟩,c1J⟩,y0,y1,h,rfl,rfl⟩ _;rw [zCC] at h;refine zAa ?_;refine zAb [] [] rfl ?_;show Tri ..;refine zAa ?_;refine zAb [] [] rfl ?_;obtain ⟨y2,hy2,h⟩:=zAc h;refine ⟨_,⟨_,_,_,_,_,hy2,rfl,rfl⟩,?_⟩
 show Tri ..;refine zAh ?_;obtain ⟨hj1,hk1⟩:=Prod.mk.inj (Option.some.inj h)
 subst hj1;subst hk1;unfold zAA;exact ⟨_,Le.refl _ _,rfl,rfl⟩
def zIa (n : Nat) (xs : List AV) (r : Ret) : Prop:=∃ (a0 : (zO8 × List Nd)) (y0 : List Nd) (y1 : Int),zCD n a0 = some (y0,y1) ∧ xs = [.agg ((zAz a0).map .s)] ∧ r = .val (.tup [.s (.sl 4 (Nd.encs y0)),.s (.int .i64 y1)])
def zE7 : zAt:=zAG fun xs r=>∃ n,zIa n xs r
theorem zHJ : PSound Tryz.prog 92 zE7:=by
 have gok : ∀ f s,look? f [(114,zD1),(113,zBP)] = some s → PSound Tryz.prog f s:=zAu (by
  simp only [List.forall_mem_cons]
  exact ⟨zGi,zCf,by simp⟩)
 refine zAK tokW Tryz.call92 Tryz.func92 rfl (fun xs r h=>by obtain ⟨n,_,_,_,_,rfl,_⟩:=h; show 1 ≤ 28; decide) 28 rfl ?_;rintro xs r w0 G0 ⟨n,⟨⟨c1Aa,c1Ag,c1F,c1Ab,c1X,c1Z,c1Af,c1Ae⟩,c1J⟩,y0,y1,h,rfl,rfl⟩ _;rw [zCD] at h;refine zAa ?_;refine zAb [] [] rfl ?_;show Tri ..;refine zAa ?_;refine zAb [] [8] rfl ?_;intro n2 hn2;obtain rfl : (c1X.length : Int) = n2:=(hn2.trans (congrArg (fun m : Nat=>(m : Int)) (rlen Nd.encs_eq c1X))).symm;show Tri ..;refine zAa ?_;refine zAa ?_
 refine zAB (by exact tokW) (by exact gok) (by exact mixed) [] [19] [] rfl (by decide +kernel) ?_;obtain ⟨hq,h⟩:=zAR h;refine And.intro ⟨hq.1,hq.2.1,Int.le_trans hq.2.2 (Int.ofNat_le.2 (Nat.le_of_eq (rlen Nd.encs_eq _).symm))⟩ ?_;intro r3 hr3;obtain rfl : Nd.encs ((c1J.take (IntKind.i64.wrap (c1F + (c1X.length : Int))).toNat).drop c1F.toNat) = r3:=(hr3.trans (rcut Nd.encs_eq _ _ _)).symm;obtain ⟨y4,hy4,h⟩:=zAc h;refine ⟨_,⟨_,_,_,_,hy4,rfl,rfl⟩,?_⟩
 show Tri ..;refine zAd rfl (fun hb=>?_) (fun hb=>?_)
 ·replace h:=zAn hb h;refine zAa ?_;refine zAb [] [] rfl ?_;show Tri ..;refine zAh ?_;obtain ⟨hj1,hk1⟩:=Prod.mk.inj (Option.some.inj h)
  subst hj1;subst hk1;unfold zAA;exact ⟨_,Le.refl _ _,rfl,rfl⟩
 ·replace h:=zAm hb h;refine zAg ?_;show Tri ..;refine zAa ?_;refine zAb [] [] rfl ?_;obtain ⟨y5,hy5,h⟩:=zAc h;refine ⟨_,⟨_,_,_,_,_,hy5,rfl,rfl⟩,?_⟩
  show Tri ..;refine zAh ?_;obtain ⟨hj1,hk1⟩:=Prod.mk.inj (Option.some.inj h)
  subst hj1;subst hk1;unfold zAA;exact ⟨_,Le.refl _ _,rfl,rfl⟩
def zJY (n : Nat) (xs : List AV) (r : Ret) : Prop:=∃ (a0 : (zO8 × List Nd)) (y0 : List Nd) (y1 : Int),zDy n a0 = some (y0,y1) ∧ xs = [.agg ((zAz a0).map .s)] ∧ r = .val (.tup [.s (.sl 4 (Nd.encs y0)),.s (.int .i64 y1)])
def zGq : zAt:=zAG fun xs r=>∃ n,zJY n xs r
theorem zJG : PSound Tryz.prog 95 zGq:=by
 have gok : ∀ f s,look? f [(113,zBP)] = some s → PSound Tryz.prog f s:=zAu (by
  simp only [List.forall_mem_cons]
  exact ⟨zCf,by simp⟩)
 refine zAK tokW Tryz.call95 Tryz.func95 rfl (fun xs r h=>by obtain ⟨n,_,_,_,_,rfl,_⟩:=h; show 1 ≤ 34; decide) 34 rfl ?_;rintro xs r w0 G0 ⟨n,⟨⟨c1Aa,c1Ag,c1F,c1Ab,c1X,c1Z,c1Af,c1Ae⟩,c1J⟩,y0,y1,h,rfl,rfl⟩ _;rw [zDy] at h;refine zAa ?_;refine zAb [] [] rfl ?_;show Tri ..;refine zAa ?_;refine zAb [4] [10] rfl ?_;obtain ⟨⟨e2A,e2C,e2D,e2B⟩,he2,h⟩:=zAc h;refine And.intro (zAC Nd.encs_eq he2).1 ?_;intro r3 hr3;obtain rfl : [.int .i64 e2A,.str e2C,.int .i64 e2D,.sl 4 (Nd.encs e2B)] = r3:=(hr3.trans (zAC Nd.encs_eq he2).2.1).symm
 show Tri ..;refine zAa ?_;refine zAa ?_;refine zAb [] [] rfl ?_;show Tri ..;obtain ⟨fl,hj,ho1⟩:=zAc h;refine zEs (fl:=fl) (fun z=>match z with | _=>⟨ofL [(1,.s (.pt [.int .i64 c1Aa,.sl 1 ((List.map (irow .i64)) c1Ag),.int .i64 c1F,.int .i64 c1Ab,.sl 4 (Nd.encs c1X),.int .i64 c1Z,.str c1Af,.str c1Ae,.sl 4 (Nd.encs c1J)])),(4,.op 0 0)],ofH [(0,.box 24 [.s (.int .i64 e2A),.s (.str e2C),.s (.int .i64 e2D),.s (.sl 4 (Nd.encs e2B))])],1⟩) ?_ (fun z σ' hz hle=>?_)
 ·replace h:=hj;refine zAl ?_;refine zAa ?_;refine zAa ?_;refine zAb [] [] rfl ?_;show Tri ..;obtain ⟨x4,hj,h⟩:=zAc h;refine zAr ⟨ofL [(1,.s (.pt [.int .i64 c1Aa,.sl 1 ((List.map (irow .i64)) c1Ag),.int .i64 c1F,.int .i64 c1Ab,.sl 4 (Nd.encs c1X),.int .i64 c1Z,.str c1Af,.str c1Ae,.sl 4 (Nd.encs c1J)])),(4,.op 0 0),(14,.s (.bool x4))],ofH [(0,.box 24 [.s (.int .i64 e2A),.s (.str e2C),.s (.int .i64 e2D),.s (.sl 4 (Nd.encs e2B))])],1⟩ ?_ (fun σ' hle=>?_)
  ·replace h:=hj;refine zAd rfl (fun hb=>?_) (fun hb=>?_)
   ·replace h:=zAn hb h;refine zAg ?_;cases h;exact (Le.rnm [(0,0)] _ _ _ ⟨rfl,rfl,rfl,trivial⟩ ⟨rfl,⟨_,rfl,rfl⟩,trivial⟩)
   ·replace h:=zAm hb h;refine zAa ?_;refine zAb [] [] rfl ?_;show Tri ..;refine zAd rfl (fun hb=>?_) (fun hb=>?_)
    ·replace h:=zAn hb h;refine zAg ?_;cases h;exact (Le.rnm [(0,0)] _ _ _ ⟨rfl,rfl,rfl,trivial⟩ ⟨rfl,⟨_,rfl,rfl⟩,trivial⟩)
    ·replace h:=zAm hb h;refine zAa ?_;refine zAb [] [] rfl ?_;show Tri ..;refine zAd rfl (fun hb=>?_) (fun hb=>?_)
     ·replace h:=zAn hb h;refine zAg ?_;cases h;exact (Le.rnm [(0,0)] _ _ _ ⟨rfl,rfl,rfl,trivial⟩ ⟨rfl,⟨_,rfl,rfl⟩,trivial⟩)
     ·replace h:=zAm hb h;refine zAa ?_;refine zAb [] [] rfl ?_;show Tri ..;refine zAd rfl (fun hb=>?_) (fun hb=>?_)
      ·replace h:=zAn hb h;refine zAg ?_;cases h;exact (Le.rnm [(0,0)] _ _ _ ⟨rfl,rfl,rfl,trivial⟩ ⟨rfl,⟨_,rfl,rfl⟩,trivial⟩)
      ·replace h:=zAm hb h;refine zAb [] [] rfl ?_;cases h;exact (Le.rnm [(0,0)] _ _ _ ⟨rfl,rfl,rfl,trivial⟩ ⟨rfl,⟨_,rfl,rfl⟩,trivial⟩)
  ·show Tri ..;refine zAj hle ?_;refine zAd rfl (fun hb=>?_) (fun hb=>?_)
   ·replace h:=zAn hb h;refine zAg ?_;cases h;exact ⟨_,rfl,(Le.rnm [(0,0)] _ _ _ ⟨rfl,rfl,trivial⟩ ⟨rfl,⟨_,rfl,rfl⟩,trivial⟩)⟩
   ·replace h:=zAm hb h;refine zAa ?_;refine zAb [] [] rfl ?_;show Tri ..;refine zAh ?_;cases h;replace h : some _ = some _:=ho1;obtain ⟨hj1,hk1⟩:=Prod.mk.inj (Option.some.inj h)
    subst hj1;subst hk1;unfold zAA;exact ⟨_,Le.refl _ _,rfl,rfl⟩
 ·subst hz;obtain _:=z;replace h:=ho1;show Tri ..;refine zAj hle ?_;refine zAa ?_;refine zAa ?_;refine zAb [] [] rfl ?_;show Tri ..;refine zAd rfl (fun hb=>?_) (fun hb=>?_)
  ·replace h:=zAn hb h;refine zAa ?_;refine zAb [] [] rfl ?_;show Tri ..;refine zAh ?_;obtain ⟨hj1,hk1⟩:=Prod.mk.inj (Option.some.inj h)
   subst hj1;subst hk1;unfold zAA;exact ⟨_,Le.refl _ _,rfl,rfl⟩
  ·replace h:=zAm hb h;refine zAg ?_;show Tri ..;refine zAa ?_;refine zAb [] [] rfl ?_;show Tri ..;refine zAa ?_;refine zAb [] [32] rfl ?_;intro r5 hr5;obtain rfl : Nd.encs [Nd.mk e2A c1Ae e2D e2B] = r5:=(hr5.trans (by simp [List.map_append,List.map_take,List.map_drop,irow,brow,zAQ,List.map_cons,List.map_nil,zAJ,Nd.encs_eq,Nd.enc,zAq,zAo,zAp,zAv,zAw,zAs,zAy,zAi,zAN,zAD,zAz])).symm;obtain ⟨y6,hy6,h⟩:=zAc h;refine ⟨_,⟨_,_,_,_,_,hy6,rfl,rfl⟩,?_⟩
   show Tri ..;refine zAh ?_;obtain ⟨hj1,hk1⟩:=Prod.mk.inj (Option.some.inj h)
   subst hj1;subst hk1;unfold zAA;exact ⟨_,Le.refl _ _,rfl,rfl⟩
def zH8 (xs : List AV) (r : Ret) : Prop:=∃ (a0 : (zO8 × List Nd)) (y0 : Int),zBW a0 = some y0 ∧ xs = [.agg ((zAz a0).map .s)] ∧ r = .val (.s (.int .i64 y0))
def zE5 : zAt:=zAG fun xs r=>zH8 xs r
theorem zHH : PSound Tryz.prog 90 zE5:=by
 have gok : ∀ (f : Nat) (s : zAt),(fun _=>none : Nat → Option zAt) f = some s → PSound Tryz.prog f s:=fun _ _ h=>by cases h
 refine zAK tokW Tryz.call90 Tryz.func90 rfl (fun xs r h=>by obtain ⟨_,_,_,rfl,_⟩:=h; show 1 ≤ 44; decide) 44 rfl ?_;rintro xs r w0 G0 ⟨⟨⟨c1Aa,c1Ag,c1F,c1Ab,c1X,c1Z,c1Af,c1Ae⟩,c1J⟩,y0,h,rfl,rfl⟩ _;rw [zBW] at h;refine zAa ?_;refine zAb [] [] rfl ?_;show Tri ..;refine zAa ?_;refine zAb [] [] rfl ?_;show Tri ..;refine zAa ?_;refine zAa ?_;refine zAb [] [] rfl ?_;show Tri ..;obtain ⟨need2,hj,h⟩:=zAc h
 refine zAr ⟨ofL [(1,.s (.pt [.int .i64 c1Aa,.sl 1 ((List.map (irow .i64)) c1Ag),.int .i64 c1F,.int .i64 c1Ab,.sl 4 (Nd.encs c1X),.int .i64 c1Z,.str c1Af,.str c1Ae,.sl 4 (Nd.encs c1J)])),(3,.s (.int .i64 need2))],fun _=>none,0⟩ ?_ (fun σ' hle=>?_)
 ·replace h:=hj;refine zAl ?_;refine zAa ?_;refine zAb [] [] rfl ?_;show Tri ..;refine zAd rfl (fun hb=>?_) (fun hb=>?_)
  ·replace h:=zAn hb h;refine zAb [] [] rfl ?_;cases h;exact (Le.forget _ ⟨rfl,rfl,trivial⟩)
  ·replace h:=zAm hb h;refine zAa ?_;refine zAb [] [] rfl ?_;show Tri ..;refine zAd rfl (fun hb=>?_) (fun hb=>?_)
   ·replace h:=zAn hb h;refine zAb [] [14] rfl ?_;intro n3 hn3;obtain rfl : (c1X.length : Int) = n3:=(hn3.trans (congrArg (fun m : Nat=>(m : Int)) (rlen Nd.encs_eq c1X))).symm;cases h;exact (Le.forget _ ⟨rfl,rfl,trivial⟩)
   ·replace h:=zAm hb h;refine zAa ?_;refine zAb [] [] rfl ?_;show Tri ..;refine zAd rfl (fun hb=>?_) (fun hb=>?_)
    ·replace h:=zAn hb h;refine zAb [] [] rfl ?_;cases h;exact (Le.forget _ ⟨rfl,rfl,trivial⟩)
    ·replace h:=zAm hb h;refine zAg ?_;cases h;exact (Le.forget _ ⟨rfl,rfl,trivial⟩)
 ·show Tri ..;refine zAj hle ?_;refine zAa ?_;refine zAa ?_;obtain ⟨x4,hj,h⟩:=zAc h;refine zAr ⟨ofL [(43,.s (.bool x4))],fun _=>none,0⟩ ?_ (fun σ' hle=>?_)
  ·replace h:=hj;refine zAb [] [24,30,33,37] rfl ?_;intro b hb;cases b with
   | true =>
    replace h:=zAn hb.symm h;intro b hb;subst hb;cases h;exact (Le.forget _ ⟨rfl,trivial⟩)
   | false =>
    replace h:=zAm hb.symm h;intro n5 hn5;obtain rfl : (c1J.length : Int) = n5:=(hn5.trans (congrArg (fun m : Nat=>(m : Int)) (rlen Nd.encs_eq c1J))).symm;intro b hb;cases b with
    | true =>
     replace h:=zAn hb.symm h;cases h;exact (Le.forget _ ⟨rfl,trivial⟩)
    | false =>
     replace h:=zAm hb.symm h;intro n6 hn6;obtain rfl : (c1J.length : Int) = n6:=(hn6.trans (congrArg (fun m : Nat=>(m : Int)) (rlen Nd.encs_eq c1J))).symm;cases h;exact (Le.forget _ ⟨rfl,trivial⟩)
  ·show Tri ..;refine zAj hle ?_;refine zAd rfl (fun hb=>?_) (fun hb=>?_)
   ·replace h:=zAn hb h;refine zAa ?_;refine zAb [] [] rfl ?_;show Tri ..;refine zAh ?_;have hy:=Option.some.inj h;subst hy;unfold zAA;exact ⟨_,Le.refl _ _,rfl,rfl⟩
   ·replace h:=zAm hb h;refine zAg ?_;show Tri ..;refine zAa ?_;refine zAb [] [] rfl ?_;show Tri ..;refine zAh ?_;have hy:=Option.some.inj h;subst hy;unfold zAA;exact ⟨_,Le.refl _ _,rfl,rfl⟩
def zKV (n : Nat) (xs : List AV) (r : Ret) : Prop:=∃ (a0 : List Nd) (a1 : Int) (y0 : Bool),zC7 n a0 a1 = some y0 ∧ xs = [.s (.sl 4 (Nd.encs a0)),.s (.int .i64 a1)] ∧ r = .val (.s (.bool y0))
def zHc : zAt:=zAG fun xs r=>∃ n,zKV n xs r
theorem zKd : PSound Tryz.prog 88 zHc:=by
 have gok : ∀ f s,look? f [(87,zEA),(112,zFY)] = some s → PSound Tryz.prog f s:=zAu (by
  simp only [List.forall_mem_cons]
  exact ⟨zF7,zG5,by simp⟩)
 refine zAK tokW Tryz.call88 Tryz.func88 rfl (fun xs r h=>by obtain ⟨n,_,_,_,_,rfl,_⟩:=h; show 2 ≤ 35; decide) 35 rfl ?_;rintro xs r w0 G0 ⟨n,l1,slot2,y0,h,rfl,rfl⟩ _;rw [zC7] at h;refine zAa ?_;refine zAb [] [] rfl ?_;show Tri ..;refine zAa ?_;refine zAa ?_;obtain ⟨x3,hj,h⟩:=zAc h;refine zAr ⟨ofL [(0,.s (.sl 4 (Nd.encs l1))),(1,.s (.int .i64 slot2)),(24,.s (.bool x3))],fun _=>none,0⟩ ?_ (fun σ' hle=>?_)
 ·replace h:=hj;refine zAb [] [6,8,13,17,20] rfl ?_;intro n4 hn4;obtain rfl : (l1.length : Int) = n4:=(hn4.trans (congrArg (fun m : Nat=>(m : Int)) (rlen Nd.encs_eq l1))).symm;intro b hb;cases b with
  | true =>
   replace h:=zAn hb.symm h;intro b hb;subst hb;intro b hb;subst hb;cases h;exact (Le.forget _ ⟨rfl,rfl,rfl,trivial⟩)
  | false =>
   replace h:=zAm hb.symm h;obtain ⟨y5,hy5,h⟩:=zAc h;refine ⟨_,⟨_,_,_,hy5,rfl,rfl⟩,?_⟩
   intro b hb;cases b with
   | true =>
    replace h:=zAn hb.symm h;intro b hb;subst hb;cases h;exact (Le.forget _ ⟨rfl,rfl,rfl,trivial⟩)
   | false =>
    replace h:=zAm hb.symm h;intro b hb;cases b with
    | true =>
     replace h:=zAn hb.symm h;cases h;exact (Le.forget _ ⟨rfl,rfl,rfl,trivial⟩)
    | false =>
     replace h:=zAm hb.symm h;obtain ⟨⟨e6A,e6C,e6D,e6B⟩,he6,h⟩:=zAc h;refine And.intro (zAC Nd.encs_eq he6).1 ?_;intro r7 hr7;obtain rfl : [.int .i64 e6A,.str e6C,.int .i64 e6D,.sl 4 (Nd.encs e6B)] = r7:=(hr7.trans (zAC Nd.encs_eq he6).2.1).symm;obtain ⟨y8,hy8,h⟩:=zAc h;refine ⟨_,⟨_,_,hy8,rfl,rfl⟩,?_⟩
     cases h;exact (Le.forget _ ⟨rfl,rfl,rfl,trivial⟩)
 ·show Tri ..;refine zAj hle ?_;refine zAd rfl (fun hb=>?_) (fun hb=>?_)
  ·replace h:=zAn hb h;refine zAa ?_;refine zAb [] [] rfl ?_;show Tri ..;refine zAh ?_;have hy:=Option.some.inj h;subst hy;unfold zAA;exact ⟨_,Le.refl _ _,rfl,rfl⟩
  ·replace h:=zAm hb h;refine zAg ?_;show Tri ..;refine zAa ?_;refine zAb [] [26,30,33] rfl ?_;obtain ⟨⟨e9A,e9C,e9D,e9B⟩,he9,h⟩:=zAc h;refine And.intro (zAC Nd.encs_eq he9).1 ?_;intro r10 hr10;obtain rfl : [.int .i64 e9A,.str e9C,.int .i64 e9D,.sl 4 (Nd.encs e9B)] = r10:=(hr10.trans (zAC Nd.encs_eq he9).2.1).symm;obtain ⟨⟨e11A,e11C,e11D,e11B⟩,he11,h⟩:=zAc h;refine And.intro (zAC Nd.encs_eq he11).1 ?_;intro r12 hr12;obtain rfl : [.int .i64 e11A,.str e11C,.int .i64 e11D,.sl 4 (Nd.encs e11B)] = r12:=(hr12.trans (zAC Nd.encs_eq he11).2.1).symm;intro n13 hn13
   obtain rfl : (e11B.length : Int) = n13:=(hn13.trans (congrArg (fun m : Nat=>(m : Int)) (rlen Nd.encs_eq e11B))).symm;show Tri ..;refine zAh ?_;have hy:=Option.some.inj h;subst hy;unfold zAA;exact ⟨_,Le.refl _ _,rfl,rfl⟩
def zN0 (n : Nat) (xs : List AV) (r : Ret) : Prop:=∃ (a0 : zO8) (y0 : Bool),zEk n a0 = some y0 ∧ xs = [.agg ((zAi a0).map .s)] ∧ r = .val (.s (.bool y0))
def zJj : zAt:=zAG fun xs r=>∃ n,zN0 n xs r
theorem zMS : PSound Tryz.prog 55 zJj:=by
 have gok : ∀ f s,look? f [(87,zEA),(88,zHc)] = some s → PSound Tryz.prog f s:=zAu (by
  simp only [List.forall_mem_cons]
  exact ⟨zF7,zKd,by simp⟩)
 refine zAK tokW Tryz.call55 Tryz.func55 rfl (fun xs r h=>by obtain ⟨n,_,_,_,rfl,_⟩:=h; show 1 ≤ 80; decide) 80 rfl ?_;rintro xs r w0 G0 ⟨n,⟨a1A,a1W,a1Y,a1U,a1E,a1V,a1T,a1C⟩,y0,h,rfl,rfl⟩ _;rw [zEk] at h;refine zAa ?_;refine zAb [] [] rfl ?_;show Tri ..;refine zAa ?_;obtain ⟨x2,hj,h⟩:=zAc h;refine zAr ⟨ofL [(1,.s (.pt [.int .i64 a1A,.sl 1 ((List.map (irow .i64)) a1W),.int .i64 a1Y,.int .i64 a1U,.sl 4 (Nd.encs a1E),.int .i64 a1V,.str a1T,.str a1C])),(3,.s (.bool x2))],fun _=>none,0⟩ ?_ (fun σ' hle=>?_)
 ·replace h:=hj;refine zAb [] [7] rfl ?_;intro b hb;cases b with
  | true =>
   replace h:=zAn hb.symm h;cases h;exact (Le.forget _ ⟨rfl,rfl,trivial⟩)
  | false =>
   replace h:=zAm hb.symm h;cases h;exact (Le.forget _ ⟨rfl,rfl,trivial⟩)
 ·show Tri ..;refine zAj hle ?_;refine zAa ?_;refine zAa ?_;refine zAb [] [] rfl ?_;show Tri ..;obtain ⟨fl,hj,ho1⟩:=zAc h;refine zEs (fl:=fl) (fun z=>match z with | _=>⟨ofL [],fun _=>none,0⟩) ?_ (fun z σ' hz hle=>?_)
  ·replace h:=hj;refine zAl ?_;refine zAa ?_;refine zAa ?_;refine zAb [] [] rfl ?_;show Tri ..;obtain ⟨x3,hj,h⟩:=zAc h;refine zAr ⟨ofL [(1,.s (.pt [.int .i64 a1A,.sl 1 ((List.map (irow .i64)) a1W),.int .i64 a1Y,.int .i64 a1U,.sl 4 (Nd.encs a1E),.int .i64 a1V,.str a1T,.str a1C])),(3,.s (.bool x2)),(13,.s (.int .i64 a1A)),(14,.s (.bool x3))],fun _=>none,0⟩ ?_ (fun σ' hle=>?_)
   ·replace h:=hj;refine zAd rfl (fun hb=>?_) (fun hb=>?_)
    ·replace h:=zAn hb h;refine zAg ?_;cases h;exact (Le.forget _ ⟨rfl,rfl,rfl,rfl,trivial⟩)
    ·replace h:=zAm hb h;refine zAb [] [] rfl ?_;cases h;exact (Le.forget _ ⟨rfl,rfl,rfl,rfl,trivial⟩)
   ·show Tri ..;refine zAj hle ?_;refine zAd rfl (fun hb=>?_) (fun hb=>?_)
    ·replace h:=zAn hb h;refine zAa ?_;obtain ⟨x4,hj,h⟩:=zAc h;refine zAr ⟨ofL [(2,.s (.bool x4))],fun _=>none,0⟩ ?_ (fun σ' hle=>?_)
     ·replace h:=hj;refine zAb [] [20,25,29,32,35] rfl ?_;intro b hb;cases b with
      | true =>
       replace h:=zAn hb.symm h;intro b hb;cases b with
       | true =>
        replace h:=zAn hb.symm h;intro b hb;cases b with
        | true =>
         replace h:=zAn hb.symm h;intro n5 hn5;obtain rfl : (a1E.length : Int) = n5:=(hn5.trans (congrArg (fun m : Nat=>(m : Int)) (rlen Nd.encs_eq a1E))).symm;intro b hb;cases b with
         | true =>
          replace h:=zAn hb.symm h;obtain ⟨y6,hy6,h⟩:=zAc h;refine ⟨_,⟨_,_,_,hy6,rfl,rfl⟩,?_⟩
          cases h;exact (Le.forget _ ⟨rfl,trivial⟩)
         | false =>
          replace h:=zAm hb.symm h;cases h;exact (Le.forget _ ⟨rfl,trivial⟩)
        | false =>
         replace h:=zAm hb.symm h;intro b hb;subst hb;cases h;exact (Le.forget _ ⟨rfl,trivial⟩)
       | false =>
        replace h:=zAm hb.symm h;intro b hb;subst hb;intro b hb;subst hb;cases h;exact (Le.forget _ ⟨rfl,trivial⟩)
      | false =>
       replace h:=zAm hb.symm h;intro b hb;subst hb;intro b hb;subst hb;intro b hb;subst hb;cases h;exact (Le.forget _ ⟨rfl,trivial⟩)
     ·show Tri ..;refine zAj hle ?_;refine zAh ?_;cases h;replace h : some _ = some _:=ho1;have hy:=Option.some.inj h;subst hy;unfold zAA;exact ⟨_,Le.refl _ _,rfl,rfl⟩
    ·replace h:=zAm hb h;refine zAa ?_;refine zAa ?_;refine zAb [] [] rfl ?_;show Tri ..;obtain ⟨x7,hj,h⟩:=zAc h;refine zAr ⟨ofL [(1,.s (.pt [.int .i64 a1A,.sl 1 ((List.map (irow .i64)) a1W),.int .i64 a1Y,.int .i64 a1U,.sl 4 (Nd.encs a1E),.int .i64 a1V,.str a1T,.str a1C])),(3,.s (.bool x2)),(13,.s (.int .i64 a1A)),(40,.s (.bool x7))],fun _=>none,0⟩ ?_ (fun σ' hle=>?_)
     ·replace h:=hj;refine zAd rfl (fun hb=>?_) (fun hb=>?_)
      ·replace h:=zAn hb h;refine zAg ?_;cases h;exact (Le.forget _ ⟨rfl,rfl,rfl,rfl,trivial⟩)
      ·replace h:=zAm hb h;refine zAb [] [] rfl ?_;cases h;exact (Le.forget _ ⟨rfl,rfl,rfl,rfl,trivial⟩)
     ·show Tri ..;refine zAj hle ?_;refine zAd rfl (fun hb=>?_) (fun hb=>?_)
      ·replace h:=zAn hb h;refine zAa ?_;obtain ⟨x8,hj,h⟩:=zAc h;refine zAr ⟨ofL [(2,.s (.bool x8))],fun _=>none,0⟩ ?_ (fun σ' hle=>?_)
       ·replace h:=hj;refine zAb [] [46,50] rfl ?_;intro b hb;cases b with
        | true =>
         replace h:=zAn hb.symm h;intro b hb;cases b with
         | true =>
          replace h:=zAn hb.symm h;obtain ⟨y9,hy9,h⟩:=zAc h;refine ⟨_,⟨_,_,_,_,hy9,rfl,rfl⟩,?_⟩
          cases h;exact (Le.forget _ ⟨rfl,trivial⟩)
         | false =>
          replace h:=zAm hb.symm h;cases h;exact (Le.forget _ ⟨rfl,trivial⟩)
        | false =>
         replace h:=zAm hb.symm h;intro b hb;subst hb;cases h;exact (Le.forget _ ⟨rfl,trivial⟩)
       ·show Tri ..;refine zAj hle ?_;refine zAh ?_;cases h;replace h : some _ = some _:=ho1;have hy:=Option.some.inj h;subst hy;unfold zAA;exact ⟨_,Le.refl _ _,rfl,rfl⟩
      ·replace h:=zAm hb h;refine zAa ?_;refine zAb [] [] rfl ?_;show Tri ..;refine zAd rfl (fun hb=>?_) (fun hb=>?_)
       ·replace h:=zAn hb h;refine zAa ?_;obtain ⟨x10,hj,h⟩:=zAc h;refine zAr ⟨ofL [(2,.s (.bool x10))],fun _=>none,0⟩ ?_ (fun σ' hle=>?_)
        ·replace h:=hj;refine zAb [] [62,67,70,73] rfl ?_;intro b hb;cases b with
         | true =>
          replace h:=zAn hb.symm h;intro b hb;cases b with
          | true =>
           replace h:=zAn hb.symm h;intro n11 hn11;obtain rfl : (a1E.length : Int) = n11:=(hn11.trans (congrArg (fun m : Nat=>(m : Int)) (rlen Nd.encs_eq a1E))).symm;intro b hb;cases b with
           | true =>
            replace h:=zAn hb.symm h;cases h;exact (Le.forget _ ⟨rfl,trivial⟩)
           | false =>
            replace h:=zAm hb.symm h;cases h;exact (Le.forget _ ⟨rfl,trivial⟩)
          | false =>
           replace h:=zAm hb.symm h;intro b hb;subst hb;cases h;exact (Le.forget _ ⟨rfl,trivial⟩)
         | false =>
          replace h:=zAm hb.symm h;intro b hb;subst hb;intro b hb;subst hb;cases h;exact (Le.forget _ ⟨rfl,trivial⟩)
        ·show Tri ..;refine zAj hle ?_;refine zAh ?_;cases h;replace h : some _ = some _:=ho1;have hy:=Option.some.inj h;subst hy;unfold zAA;exact ⟨_,Le.refl _ _,rfl,rfl⟩
       ·replace h:=zAm hb h;refine zAg ?_;cases h;exact ⟨_,rfl,(Le.forget _ trivial)⟩
  ·subst hz;obtain _:=z;replace h:=ho1;show Tri ..;refine zAj hle ?_;refine zAa ?_;refine zAb [] [] rfl ?_;show Tri ..;refine zAh ?_;have hy:=Option.some.inj h;subst hy;unfold zAA;exact ⟨_,Le.refl _ _,rfl,rfl⟩
def zQ4 (xs : List AV) (r : Ret) : Prop:=∃ (a0 : List Int) (y0 : List Int),zDn a0 = some y0 ∧ xs = [.s (.sl 1 ((List.map (irow .i64)) a0))] ∧ r = .val (.s (.sl 1 ((List.map (irow .i64)) y0)))
def zII : zAt:=zAG fun xs r=>zQ4 xs r
theorem zKI : PSound Tryz.prog 43 zII:=by
 have gok : ∀ f s,look? f [(66,zFB)] = some s → PSound Tryz.prog f s:=zAu (by
  simp only [List.forall_mem_cons]
  exact ⟨zIh,by simp⟩)
 refine zAK tokW Tryz.call43 Tryz.func43 rfl (fun xs r h=>by obtain ⟨_,_,_,rfl,_⟩:=h; show 1 ≤ 5; decide) 5 rfl ?_;rintro xs r w0 G0 ⟨l1,y0,h,rfl,rfl⟩ _;rw [zDn] at h;refine zAa ?_;refine zAb [] [] rfl ?_;show Tri ..;refine zAa ?_;refine zAb [] [] rfl ?_;obtain ⟨y2,hy2,h⟩:=zAc h;refine ⟨_,⟨_,_,hy2,rfl,rfl⟩,?_⟩
 show Tri ..;refine zAh ?_;have hy:=Option.some.inj h;subst hy;unfold zAA;exact ⟨_,Le.refl _ _,rfl,rfl⟩
def zPa (n : Nat) (xs : List AV) (r : Ret) : Prop:=∃ (a0 : List Nd) (y0 : List Nd),zEV n a0 = some y0 ∧ xs = [.s (.sl 4 (Nd.encs a0))] ∧ r = .row 24 4 (Nd.encs y0)
def zKp : zAt:=zAG fun xs r=>∃ n,zPa n xs r
theorem zOB : PSound Tryz.prog 44 zKp:=by
 have gok : ∀ f s,look? f [(34,zDV)] = some s → PSound Tryz.prog f s:=zAu (by
  simp only [List.forall_mem_cons]
  exact ⟨zEc,by simp⟩)
 refine zAK tokW Tryz.call44 Tryz.func44 rfl (fun xs r h=>by obtain ⟨n,_,_,_,rfl,_⟩:=h; show 1 ≤ 20; decide) 20 rfl ?_;rintro xs r w0 G0 ⟨n,l1,y0,h,rfl,rfl⟩ _;rw [zEV] at h;refine zAa ?_;refine zAb [2] [] rfl ?_;show Tri ..;refine zAj (Le.rnm [] [(0,.s (.sl 4 (Nd.encs l1)))] [] 0 ⟨rfl,trivial⟩ trivial) ?_;refine zAa ?_;refine zAb [3] [] rfl ?_;show Tri ..
 refine zAj (Le.rnm [(0,0)] [(0,.s (.sl 4 (Nd.encs l1))),(3,.orow 0)] [(0,.row 24 4 (Nd.encs []))] 1 ⟨rfl,rfl,trivial⟩ ⟨rfl,⟨_,rfl,congrArg (Ob.row 24 4) (by simp [List.map_append,List.map_take,List.map_drop,irow,brow,zAQ,List.map_cons,List.map_nil,zAJ,Nd.encs_eq,Nd.enc,zAq,zAo,zAp,zAv,zAw,zAs,zAy,zAi,zAN,zAD,zAz])⟩,trivial⟩) ?_;refine zAa ?_;refine zAa ?_;refine zAb [] [6] rfl ?_;intro n2 hn2;obtain rfl : (l1.length : Int) = n2:=(hn2.trans (congrArg (fun m : Nat=>(m : Int)) (rlen Nd.encs_eq l1))).symm;show Tri ..
 obtain ⟨l6,hl,h⟩:=zAc h;refine zAr ⟨ofL [(3,.orow 0)],ofH [(0,.row 24 4 (Nd.encs l6))],1⟩ ?_ (fun σ' hle=>?_)
 ·refine zAl (zAI (X:=Nat × Int × (List Nd)) (fun y=>match y with | (k,x4,l5)=>⟨ofL [(0,.s (.sl 4 (Nd.encs l1))),(3,.orow 0),(6,.s (.int .i64 (l1.length : Int))),(7,.s (.int .i64 x4))],ofH [(0,.row 24 4 (Nd.encs l5))],1⟩) (fun y=>zBz l1 y.1 y.2.1 y.2.2 = some l6) (fun y=>y.1) (n,0,[]) hl ?_ ?_)
  ·exact (Le.rnm [(0,0)] _ _ _ ⟨rfl,rfl,rfl,rfl,trivial⟩ ⟨rfl,⟨_,rfl,rfl⟩,trivial⟩)
  ·rintro ⟨k,x4,l5⟩ h;cases k with
   | zero=>cases h
   | succ k =>
    replace h : zBz l1 (k+1) x4 l5 = some l6:=h;rw [zBz] at h;refine zAa ?_;refine zAb [] [] rfl ?_;show Tri ..;refine zAa ?_;refine zAd rfl (fun hb=>?_) (fun hb=>?_)
    ·replace h:=zAn hb h;refine zAg ?_;show Tri ..;refine zAa ?_;refine zAl ?_;refine zAa ?_;refine zAb [] [] rfl ?_;show Tri ..;refine zAb [17] [13,16] rfl ?_;obtain ⟨⟨e7A,e7C,e7D,e7B⟩,he7,h⟩:=zAc h;refine And.intro (zAC Nd.encs_eq he7).1 ?_;intro r8 hr8;obtain rfl : [.int .i64 e7A,.str e7C,.int .i64 e7D,.sl 4 (Nd.encs e7B)] = r8:=(hr8.trans (zAC Nd.encs_eq he7).2.1).symm;obtain ⟨⟨y9A,y9C,y9D,y9B⟩,hy9,h⟩:=zAc h;refine ⟨_,⟨_,_,hy9,rfl,rfl⟩,?_⟩
     intro r10 hr10;obtain rfl : Nd.encs [Nd.mk y9A y9C y9D y9B] = r10:=(hr10.trans (by simp [List.map_append,List.map_take,List.map_drop,irow,brow,zAQ,List.map_cons,List.map_nil,zAJ,Nd.encs_eq,Nd.enc,zAq,zAo,zAp,zAv,zAw,zAs,zAy,zAi,zAN,zAD,zAz])).symm;obtain ⟨hq,h⟩:=zAR h
     refine And.intro (show ((Nd.encs l5).length + (Nd.encs [Nd.mk y9A y9C y9D y9B]).length) * 56 ≤ 140737488355328 ∧ (Nd.encs l5).length + (Nd.encs [Nd.mk y9A y9C y9D y9B]).length ≤ 9223372036854775807 from by simp only [List.length_append,List.length_cons,List.length_nil,List.length_map,rlen Nd.encs_eq] at hq ⊢; omega) ?_;show Tri ..
     refine zAj (Le.rnm [(1,0)] [(0,.s (.sl 4 (Nd.encs l1))),(3,.orow 0),(6,.s (.int .i64 (l1.length : Int))),(7,.s (.int .i64 x4))] [(0,.row 24 4 (Nd.encs (l5 ++ [Nd.mk y9A y9C y9D y9B])))] 1 ⟨rfl,rfl,rfl,rfl,trivial⟩ ⟨rfl,⟨_,rfl,congrArg (Ob.row 24 4) (by simp [List.map_append,List.map_take,List.map_drop,irow,brow,zAQ,List.map_cons,List.map_nil,zAJ,Nd.encs_eq,Nd.enc,zAq,zAo,zAp,zAv,zAw,zAs,zAy,zAi,zAN,zAD,zAz])⟩,trivial⟩) ?_;refine zAb [] [] rfl ?_
     refine ⟨(k,IntKind.i64.wrap (x4 + 1),l5 ++ [Nd.mk y9A y9C y9D y9B]),h,(Le.rnm [(0,0)] _ _ _ ⟨rfl,rfl,rfl,rfl,trivial⟩ ⟨rfl,⟨_,rfl,rfl⟩,trivial⟩),Nat.lt_succ_self k⟩
    ·replace h:=zAm hb h;refine zAM ?_;cases h;exact (Le.rnm [(0,0)] _ _ _ ⟨rfl,trivial⟩ ⟨rfl,⟨_,rfl,rfl⟩,trivial⟩)
 ·show Tri ..;refine zAj hle ?_;refine zAa ?_;refine zAb [] [] rfl ?_;show Tri ..;refine zAh ?_;have hy:=Option.some.inj h;subst hy;unfold zAA;exact ⟨_,Le.refl _ _,0,rfl,rfl⟩
def zTe (n : Nat) (xs : List AV) (r : Ret) : Prop:=∃ (a0 : zO8) (y0 : zO8),zDo n a0 = some y0 ∧ xs = [.agg ((zAi a0).map .s)] ∧ r = .val (.agg ((zAi y0).map .s))
def zJh : zAt:=zAG fun xs r=>∃ n,zTe n xs r
theorem zKa : PSound Tryz.prog 24 zJh:=by
 have gok : ∀ f s,look? f [(43,zII),(44,zKp)] = some s → PSound Tryz.prog f s:=zAu (by
  simp only [List.forall_mem_cons]
  exact ⟨zKI,zOB,by simp⟩)
 refine zAK tokW Tryz.call24 Tryz.func24 rfl (fun xs r h=>by obtain ⟨n,_,_,_,rfl,_⟩:=h; show 1 ≤ 12; decide) 12 rfl ?_;rintro xs r w0 G0 ⟨n,⟨op1A,op1W,op1Y,op1U,op1E,op1V,op1T,op1C⟩,y0,h,rfl,rfl⟩ _;rw [zDo] at h;refine zAa ?_;refine zAb [1,2] [] rfl ?_;show Tri ..;refine zAa ?_;refine zAb [] [] rfl ?_;obtain ⟨y2,hy2,h⟩:=zAc h;refine ⟨_,⟨_,_,hy2,rfl,rfl⟩,?_⟩
 show Tri ..;refine zAa ?_;refine zAb [] [] rfl ?_;obtain ⟨y3,hy3,h⟩:=zAc h;refine ⟨_,⟨_,_,_,hy3,rfl,rfl⟩,?_⟩
 show Tri ..;refine zAa ?_;refine zAb [] [] rfl ?_;show Tri ..;refine zAh ?_;have hy:=Option.some.inj h;subst hy;unfold zAA;exact ⟨_,Le.refl _ _,rfl,rfl⟩
end Go.Proofs.YtjdhkpdjecegnaaGreatDoor
namespace Go.Proofs.YtjdhkpdjecegnaaGreatDoor
open Go.Abs
theorem zUj {P : Program} {f : Nat} {A B : List AV → Ret → Prop} (hA : PSound P f (zAG A)) (hB : PSound P f (zAG B)) : PSound P f (zAG fun xs r=>A xs r ∨ B xs r) :=
 ⟨hA.1,fun G w xs vs r hl hg hp hv hs=>hs.elim (hA.2.1 G w xs vs r hl hg hp hv) (hB.2.1 G w xs vs r hl hg hp hv),fun R hR=>(by cases hR),fun R hR=>(by cases hR)⟩
theorem zRK {P : Program} {f : Nat} {A B : List AV → Ret → Prop} (hA : PSound P f (zAG A)) (h : ∀ xs r,B xs r → A xs r) : PSound P f (zAG B) :=
 ⟨hA.1,fun G w xs vs r hl hg hp hv hs=>hA.2.1 G w xs vs r hl hg hp hv (h xs r hs),fun R hR=>(by cases hR),fun R hR=>(by cases hR)⟩
def zIb (n : Nat) (xs : List AV) (r : Ret) : Prop:=∃ (a0 : (zO8 × List Nd)) (y0 : List Nd) (y1 : Int),zBm n a0 = some (y0,y1) ∧ xs = [.agg ((zAz a0).map .s)] ∧ r = .val (.tup [.s (.sl 4 (Nd.encs y0)),.s (.int .i64 y1)])
def zE8 : zAt:=zAG fun xs r=>∃ n,zIb n xs r
theorem zHK : PSound Tryz.prog 94 zE8 :=
 zRK (zUj zFV zFU) fun xs r ⟨n,a,y,z,hm,hx,hr⟩=>by
  unfold zBm at hm;split at hm
  ·rename_i q hq
   obtain rfl:=Option.some.inj hm;exact .inl ⟨a,y,z,hq,hx,hr⟩
  ·exact .inr ⟨n,a,y,z,hm,hx,hr⟩
end Go.Proofs.YtjdhkpdjecegnaaGreatDoor
namespace Go.Proofs.YtjdhkpdjecegnaaGreatDoor
open Go.Abs
def zID (n : Nat) (xs : List AV) (r : Ret) : Prop:=∃ (a0 : (zO8 × List Nd)) (y0 : List Nd) (y1 : Int),zCc n a0 = some (y0,y1) ∧ xs = [.agg ((zAz a0).map .s)] ∧ r = .val (.tup [.s (.sl 4 (Nd.encs y0)),.s (.int .i64 y1)])
def zFz : zAt:=zAG fun xs r=>∃ n,zID n xs r
theorem zIf : PSound Tryz.prog 57 zFz:=by
 have gok : ∀ f s,look? f [(90,zE5),(91,zE6),(92,zE7),(93,zFX),(94,zE8),(95,zGq)] = some s → PSound Tryz.prog f s:=zAu (by
  simp only [List.forall_mem_cons]
  exact ⟨zHH,zHI,zHJ,zIW,zHK,zJG,by simp⟩)
 refine zAK tokW Tryz.call57 Tryz.func57 rfl (fun xs r h=>by obtain ⟨n,_,_,_,_,rfl,_⟩:=h; show 1 ≤ 41; decide) 41 rfl ?_;rintro xs r w0 G0 ⟨n,⟨⟨c1Aa,c1Ag,c1F,c1Ab,c1X,c1Z,c1Af,c1Ae⟩,c1J⟩,y0,y1,h,rfl,rfl⟩ _;rw [zCc] at h;refine zAa ?_;refine zAb [] [] rfl ?_;show Tri ..;refine zAa ?_;refine zAa ?_;refine zAb [] [] rfl ?_;obtain ⟨y2,hy2,h⟩:=zAc h;refine ⟨_,⟨_,_,hy2,rfl,rfl⟩,?_⟩
 show Tri ..;refine zAa ?_;refine zAb [] [] rfl ?_;show Tri ..;refine zAd rfl (fun hb=>?_) (fun hb=>?_)
 ·replace h:=zAn hb h;refine zAa ?_;refine zAb [] [] rfl ?_;show Tri ..;refine zAh ?_;obtain ⟨hj1,hk1⟩:=Prod.mk.inj (Option.some.inj h)
  subst hj1;subst hk1;unfold zAA;exact ⟨_,Le.refl _ _,rfl,rfl⟩
 ·replace h:=zAm hb h;refine zAg ?_;show Tri ..;refine zAa ?_;refine zAa ?_;refine zAb [] [] rfl ?_;show Tri ..;refine zAl ?_;refine zAa ?_;refine zAb [] [] rfl ?_;show Tri ..;refine zAd rfl (fun hb=>?_) (fun hb=>?_)
  ·replace h:=zAn hb h;refine zAa ?_;refine zAb [] [] rfl ?_;obtain ⟨⟨y3,y4⟩,hy3,h⟩:=zAc h;refine ⟨_,⟨_,_,_,_,hy3,rfl,rfl⟩,?_⟩
   show Tri ..;refine zAh ?_;obtain ⟨hj1,hk1⟩:=Prod.mk.inj (Option.some.inj h)
   subst hj1;subst hk1;unfold zAA;exact ⟨_,Le.refl _ _,rfl,rfl⟩
  ·replace h:=zAm hb h;refine zAa ?_;refine zAb [] [] rfl ?_;show Tri ..;refine zAd rfl (fun hb=>?_) (fun hb=>?_)
   ·replace h:=zAn hb h;refine zAa ?_;refine zAb [] [] rfl ?_;obtain ⟨⟨y5,y6⟩,hy5,h⟩:=zAc h;refine ⟨_,⟨_,_,_,_,hy5,rfl,rfl⟩,?_⟩
    show Tri ..;refine zAh ?_;obtain ⟨hj1,hk1⟩:=Prod.mk.inj (Option.some.inj h)
    subst hj1;subst hk1;unfold zAA;exact ⟨_,Le.refl _ _,rfl,rfl⟩
   ·replace h:=zAm hb h;refine zAa ?_;refine zAb [] [] rfl ?_;show Tri ..;refine zAd rfl (fun hb=>?_) (fun hb=>?_)
    ·replace h:=zAn hb h;refine zAa ?_;refine zAb [] [] rfl ?_;obtain ⟨⟨y7,y8⟩,hy7,h⟩:=zAc h;refine ⟨_,⟨_,_,_,_,hy7,rfl,rfl⟩,?_⟩
     show Tri ..;refine zAh ?_;obtain ⟨hj1,hk1⟩:=Prod.mk.inj (Option.some.inj h)
     subst hj1;subst hk1;unfold zAA;exact ⟨_,Le.refl _ _,rfl,rfl⟩
    ·replace h:=zAm hb h;refine zAa ?_;refine zAb [] [] rfl ?_;show Tri ..;refine zAd rfl (fun hb=>?_) (fun hb=>?_)
     ·replace h:=zAn hb h;refine zAa ?_;refine zAb [] [] rfl ?_;obtain ⟨⟨y9,y10⟩,hy9,h⟩:=zAc h;refine ⟨_,⟨_,_,_,_,hy9,rfl,rfl⟩,?_⟩
      show Tri ..;refine zAh ?_;obtain ⟨hj1,hk1⟩:=Prod.mk.inj (Option.some.inj h)
      subst hj1;subst hk1;unfold zAA;exact ⟨_,Le.refl _ _,rfl,rfl⟩
     ·replace h:=zAm hb h;refine zAg ?_;show Tri ..;refine zAa ?_;refine zAb [] [] rfl ?_;obtain ⟨⟨y11,y12⟩,hy11,h⟩:=zAc h;refine ⟨_,⟨_,_,_,_,hy11,rfl,rfl⟩,?_⟩
      show Tri ..;refine zAh ?_;obtain ⟨hj1,hk1⟩:=Prod.mk.inj (Option.some.inj h)
      subst hj1;subst hk1;unfold zAA;exact ⟨_,Le.refl _ _,rfl,rfl⟩
def zPf (n : Nat) (xs : List AV) (r : Ret) : Prop:=∃ (a0 : Nd) (a1 : zO8) (y0 : Nd) (y1 : Int),zEW n a0 a1 = some (y0,y1) ∧ xs = [.agg ((Nd.enc a0).map .s),.agg ((zAi a1).map .s)] ∧ r = .val (.tup [.agg ((Nd.enc y0).map .s),.s (.int .i64 y1)])
def zKr : zAt:=zAG fun xs r=>∃ n,zPf n xs r
theorem zOD : PSound Tryz.prog 35 zKr:=by
 have gok : ∀ f s,look? f [(33,zCL),(55,zJj),(56,zNb),(57,zFz),(58,zLw)] = some s → PSound Tryz.prog f s:=zAu (by
  simp only [List.forall_mem_cons]
  exact ⟨zC0,zMS,zRC,zIf,zQp,by simp⟩)
 refine zAK tokW Tryz.call35 Tryz.func35 rfl (fun xs r h=>by obtain ⟨n,_,_,_,_,_,rfl,_⟩:=h; show 2 ≤ 53; decide) 53 rfl ?_;rintro xs r w0 G0 ⟨n,⟨n1A,n1C,n1D,n1B⟩,⟨op2A,op2W,op2Y,op2U,op2E,op2V,op2T,op2C⟩,y0,y1,h,rfl,rfl⟩ _;rw [zEW] at h;refine zAa ?_;refine zAb [4] [] rfl ?_;show Tri ..;refine zAa ?_;refine zAa ?_;refine zAb [] [] rfl ?_;obtain ⟨y3,hy3,h⟩:=zAc h;refine ⟨_,⟨_,_,_,hy3,rfl,rfl⟩,?_⟩
 show Tri ..;refine zAd rfl (fun hb=>?_) (fun hb=>?_)
 ·replace h:=zAn hb h;refine zAa ?_;refine zAb [] [] rfl ?_;show Tri ..;refine zAh ?_;obtain ⟨hj1,hk1⟩:=Prod.mk.inj (Option.some.inj h)
  subst hj1;subst hk1;unfold zAA;exact ⟨_,Le.refl _ _,rfl,rfl⟩
 ·replace h:=zAm hb h;refine zAg ?_;show Tri ..;refine zAa ?_;refine zAa ?_;refine zAb [] [] rfl ?_;obtain ⟨y4,hy4,h⟩:=zAc h;refine ⟨_,⟨_,_,_,hy4,rfl,rfl⟩,?_⟩
  show Tri ..;refine zAd rfl (fun hb=>?_) (fun hb=>?_)
  ·replace h:=zAn hb h;refine zAa ?_;refine zAb [] [] rfl ?_;show Tri ..;refine zAh ?_;obtain ⟨hj1,hk1⟩:=Prod.mk.inj (Option.some.inj h)
   subst hj1;subst hk1;unfold zAA;exact ⟨_,Le.refl _ _,rfl,rfl⟩
  ·replace h:=zAm hb h;refine zAg ?_;show Tri ..;refine zAa ?_;refine zAb [6] [] rfl ?_;obtain ⟨⟨⟨y5A,y5C,y5D,y5B⟩,y6⟩,hy5,h⟩:=zAc h;refine ⟨_,⟨_,_,_,_,_,hy5,rfl,rfl⟩,?_⟩
   show Tri ..;refine zAa ?_;refine zAa ?_;refine zAb [] [] rfl ?_;show Tri ..;refine zAd rfl (fun hb=>?_) (fun hb=>?_)
   ·replace h:=zAn hb h;refine zAa ?_;refine zAb [] [] rfl ?_;show Tri ..;refine zAh ?_;obtain ⟨hj1,hk1⟩:=Prod.mk.inj (Option.some.inj h)
    subst hj1;subst hk1;unfold zAA;exact ⟨_,Le.refl _ _,rfl,rfl⟩
   ·replace h:=zAm hb h;refine zAg ?_;show Tri ..;refine zAa ?_;refine zAb [] [] rfl ?_;obtain ⟨⟨y7,y8⟩,hy7,h⟩:=zAc h;refine ⟨_,⟨_,_,_,_,hy7,rfl,rfl⟩,?_⟩
    show Tri ..;refine zAa ?_;refine zAa ?_;refine zAb [] [] rfl ?_;show Tri ..;refine zAd rfl (fun hb=>?_) (fun hb=>?_)
    ·replace h:=zAn hb h;refine zAa ?_;refine zAb [] [] rfl ?_;show Tri ..;refine zAh ?_;obtain ⟨hj1,hk1⟩:=Prod.mk.inj (Option.some.inj h)
     subst hj1;subst hk1;unfold zAA;exact ⟨_,Le.refl _ _,rfl,rfl⟩
    ·replace h:=zAm hb h;refine zAg ?_;show Tri ..;refine zAa ?_;refine zAb [8] [] rfl ?_;obtain ⟨⟨⟨y9A,y9C,y9D,y9B⟩,y10⟩,hy9,h⟩:=zAc h;refine ⟨_,⟨_,_,_,_,_,_,hy9,rfl,rfl⟩,?_⟩
     show Tri ..;refine zAj (Le.giveBox 2 [.int .i64 y9A,.str y9C,.int .i64 y9D,.sl 4 (Nd.encs y9B)] rfl rfl) ?_;refine zAa ?_;refine zAa ?_;refine zAb [] [] rfl ?_;show Tri ..;refine zAd rfl (fun hb=>?_) (fun hb=>?_)
     ·replace h:=zAn hb h;refine zAa ?_;refine zAb [] [] rfl ?_;show Tri ..;refine zAh ?_;obtain ⟨hj1,hk1⟩:=Prod.mk.inj (Option.some.inj h)
      subst hj1;subst hk1;unfold zAA;exact ⟨_,Le.refl _ _,rfl,rfl⟩
     ·replace h:=zAm hb h;refine zAg ?_;show Tri ..;refine zAa ?_;refine zAb [] [] rfl ?_;show Tri ..;refine zAh ?_;obtain ⟨hj1,hk1⟩:=Prod.mk.inj (Option.some.inj h)
      subst hj1;subst hk1;unfold zAA;exact ⟨_,Le.refl _ _,rfl,rfl⟩
def zLq (n : Nat) (xs : List AV) (r : Ret) : Prop:=∃ (a0 : Nd) (a1 : List zO8) (y0 : Nd) (y1 : Int) (y2 : Int),zBs n a0 a1 = some (y0,y1,y2) ∧ xs = [.agg ((Nd.enc a0).map .s),.s (.sl 8 ((List.map zAi) a1))] ∧ r = .val (.tup [.agg ((Nd.enc y0).map .s),.s (.int .i64 y1),.s (.int .i64 y2)])
def zFy : zAt:=zAG fun xs r=>∃ n,zLq n xs r
theorem zHg : PSound Tryz.prog 12 zFy:=by
 have gok : ∀ f s,look? f [(33,zCL),(34,zDV),(35,zKr)] = some s → PSound Tryz.prog f s:=zAu (by
  simp only [List.forall_mem_cons]
  exact ⟨zC0,zEc,zOD,by simp⟩)
 refine zAK tokW Tryz.call12 Tryz.func12 rfl (fun xs r h=>by obtain ⟨n,_,_,_,_,_,_,rfl,_⟩:=h; show 2 ≤ 39; decide) 39 rfl ?_;rintro xs r w0 G0 ⟨n,⟨n1A,n1C,n1D,n1B⟩,ops2,y0,y1,y2,h,rfl,rfl⟩ _;rw [zBs] at h;refine zAa ?_;refine zAb [4] [] rfl ?_;show Tri ..;refine zAa ?_;refine zAa ?_;refine zAb [] [] rfl ?_;obtain ⟨y3,hy3,h⟩:=zAc h;refine ⟨_,⟨_,_,_,hy3,rfl,rfl⟩,?_⟩
 show Tri ..;refine zAd rfl (fun hb=>?_) (fun hb=>?_)
 ·replace h:=zAn hb h;refine zAa ?_;refine zAb [] [] rfl ?_;show Tri ..;refine zAh ?_;obtain ⟨hj1,hk1⟩:=Prod.mk.inj (Option.some.inj h)
  subst hj1;obtain ⟨hj2,hk2⟩:=Prod.mk.inj hk1;subst hj2;subst hk2;unfold zAA;exact ⟨_,Le.refl _ _,rfl,rfl⟩
 ·replace h:=zAm hb h;refine zAg ?_;show Tri ..;refine zAa ?_;refine zAb [7] [] rfl ?_;obtain ⟨⟨y4A,y4C,y4D,y4B⟩,hy4,h⟩:=zAc h;refine ⟨_,⟨_,_,hy4,rfl,rfl⟩,?_⟩
  show Tri ..;refine zAa ?_;refine zAa ?_;refine zAb [] [19] rfl ?_;intro n5 hn5;obtain rfl : (ops2.length : Int) = n5:=(hn5.trans (congrArg (fun m : Nat=>(m : Int)) (rlen (fun _=>rfl) ops2))).symm;show Tri ..;obtain ⟨fl,hl,ho1⟩:=zAc h;refine zEs (fl:=fl) (fun z=>match z with | ⟨x12,x13,x14,x15⟩=>⟨ofL [(4,.op 0 0),(7,.op 1 0)],ofH [(0,.box 24 [.s (.int .i64 0),.s (.str []),.s (.int .i64 0),.nl 4]),(1,.box 24 [.s (.int .i64 x12),.s (.str x13),.s (.int .i64 x14),.s (.sl 4 (Nd.encs x15))])],2⟩) ?_ (fun z σ' hz hle=>?_)
  ·refine zAl (zAI (X:=Nat × Int × (List UInt8) × Int × (List Nd) × Int) (fun y=>match y with | (k,x7,x8,x9,x10,x11)=>⟨ofL [(4,.op 0 0),(7,.op 1 0),(18,.s (.sl 8 ((List.map zAi) ops2))),(19,.s (.int .i64 (ops2.length : Int))),(20,.s (.int .i64 x11))],ofH [(0,.box 24 [.s (.int .i64 0),.s (.str []),.s (.int .i64 0),.nl 4]),(1,.box 24 [.s (.int .i64 x7),.s (.str x8),.s (.int .i64 x9),.s (.sl 4 (Nd.encs x10))])],2⟩) (fun y=>zBD n ops2 y.1 y.2.1 y.2.2.1 y.2.2.2.1 y.2.2.2.2.1 y.2.2.2.2.2 = some fl) (fun y=>y.1) (n,y4A,y4C,y4D,y4B,0) hl ?_ ?_)
   ·exact (Le.rnm [(0,0),(1,1)] _ _ _ ⟨rfl,rfl,rfl,rfl,rfl,trivial⟩ ⟨rfl,⟨_,rfl,rfl⟩,rfl,⟨_,rfl,rfl⟩,trivial⟩)
   ·rintro ⟨k,x7,x8,x9,x10,x11⟩ h;cases k with
    | zero=>cases h
    | succ k =>
     replace h : zBD n ops2 (k+1) x7 x8 x9 x10 x11 = some fl:=h;rw [zBD] at h;refine zAa ?_;refine zAb [] [] rfl ?_;show Tri ..;refine zAa ?_;refine zAd rfl (fun hb=>?_) (fun hb=>?_)
     ·replace h:=zAn hb h;refine zAg ?_;show Tri ..;refine zAa ?_;refine zAl ?_;refine zAa ?_;refine zAb [9] [23] rfl ?_;obtain ⟨⟨e16A,e16W,e16Y,e16U,e16E,e16V,e16T,e16C⟩,he16,h⟩:=zAc h;refine And.intro (zAC (fun _=>rfl) he16).1 ?_;intro r17 hr17;obtain rfl : [.int .i64 e16A,.sl 1 ((List.map (irow .i64)) e16W),.int .i64 e16Y,.int .i64 e16U,.sl 4 (Nd.encs e16E),.int .i64 e16V,.str e16T,.str e16C] = r17:=(hr17.trans (zAC (fun _=>rfl) he16).2.1).symm;show Tri ..
      refine zAj (Le.giveBox 2 [.int .i64 e16A,.sl 1 ((List.map (irow .i64)) e16W),.int .i64 e16Y,.int .i64 e16U,.sl 4 (Nd.encs e16E),.int .i64 e16V,.str e16T,.str e16C] rfl rfl) ?_;refine zAa ?_;refine zAb [10] [] rfl ?_;obtain ⟨⟨⟨y18A,y18C,y18D,y18B⟩,y19⟩,hy18,h⟩:=zAc h;refine ⟨_,⟨_,_,_,_,_,hy18,rfl,rfl⟩,?_⟩
      show Tri ..;refine zAj (Le.giveBox 3 [.int .i64 y18A,.str y18C,.int .i64 y18D,.sl 4 (Nd.encs y18B)] rfl rfl) ?_;refine zAa ?_;refine zAa ?_;refine zAb [] [] rfl ?_;show Tri ..;refine zAd rfl (fun hb=>?_) (fun hb=>?_)
      ·replace h:=zAn hb h;refine zAa ?_;refine zAb [] [] rfl ?_;show Tri ..;refine zAh ?_;cases h;replace h : some _ = some _:=ho1;obtain ⟨hj1,hk1⟩:=Prod.mk.inj (Option.some.inj h)
       subst hj1;obtain ⟨hj2,hk2⟩:=Prod.mk.inj hk1;subst hj2;subst hk2;unfold zAA;exact ⟨_,Le.refl _ _,rfl,rfl⟩
      ·replace h:=zAm hb h;refine zAg ?_;show Tri ..;refine zAb [] [] rfl ?_;show Tri ..;refine zAb [] [] rfl ?_;refine ⟨(k,y18A,y18C,y18D,y18B,IntKind.i64.wrap (x11 + 1)),h,(Le.rnm [(0,0),(1,1)] _ _ _ ⟨rfl,rfl,rfl,rfl,rfl,trivial⟩ ⟨rfl,⟨_,rfl,rfl⟩,rfl,⟨_,rfl,rfl⟩,trivial⟩),Nat.lt_succ_self k⟩
     ·replace h:=zAm hb h;refine zAM ?_;cases h;exact ⟨_,rfl,(Le.rnm [(0,0),(1,1)] _ _ _ ⟨rfl,rfl,trivial⟩ ⟨rfl,⟨_,rfl,rfl⟩,rfl,⟨_,rfl,rfl⟩,trivial⟩)⟩
  ·subst hz;obtain ⟨x12,x13,x14,x15⟩:=z;replace h:=ho1;show Tri ..;refine zAj hle ?_;refine zAa ?_;refine zAb [] [] rfl ?_;show Tri ..;refine zAh ?_;obtain ⟨hj1,hk1⟩:=Prod.mk.inj (Option.some.inj h)
   subst hj1;obtain ⟨hj2,hk2⟩:=Prod.mk.inj hk1;subst hj2;subst hk2;unfold zAA;exact ⟨_,Le.refl _ _,rfl,rfl⟩
def zN1 (n : Nat) (xs : List AV) (r : Ret) : Prop:=∃ (a0 : zO8) (y0 : zO8),zBY n a0 = some y0 ∧ xs = [.agg ((zAi a0).map .s)] ∧ r = .val (.agg ((zAi y0).map .s))
def zJk : zAt:=zAG fun xs r=>∃ n,zN1 n xs r
theorem zMT : PSound Tryz.prog 65 zJk:=by
 have gok : ∀ f s,look? f [(24,zJh)] = some s → PSound Tryz.prog f s:=zAu (by
  simp only [List.forall_mem_cons]
  exact ⟨zKa,by simp⟩)
 refine zAK tokW Tryz.call65 Tryz.func65 rfl (fun xs r h=>by obtain ⟨n,_,_,_,rfl,_⟩:=h; show 1 ≤ 29; decide) 29 rfl ?_;rintro xs r w0 G0 ⟨n,⟨op1A,op1W,op1Y,op1U,op1E,op1V,op1T,op1C⟩,y0,h,rfl,rfl⟩ _;rw [zBY] at h;refine zAa ?_;refine zAb [2] [] rfl ?_;show Tri ..;refine zAa ?_;refine zAb [3] [] rfl ?_;obtain ⟨⟨y2A,y2W,y2Y,y2U,y2E,y2V,y2T,y2C⟩,hy2,h⟩:=zAc h;refine ⟨_,⟨_,_,_,hy2,rfl,rfl⟩,?_⟩
 show Tri ..;refine zAa ?_;refine zAa ?_;refine zAb [] [] rfl ?_;show Tri ..;obtain ⟨⟨x3,x4,x5⟩,hj,h⟩:=zAc h;refine zAr ⟨ofL [(2,.op 0 0),(3,.op 1 0)],ofH [(0,.box 54 [.s (.int .i64 0),.nl 1,.s (.int .i64 0),.s (.int .i64 0),.nl 4,.s (.int .i64 0),.s (.str []),.s (.str [])]),(1,.box 54 [.s (.int .i64 x3),.s (.sl 1 ((List.map (irow .i64)) y2W)),.s (.int .i64 y2Y),.s (.int .i64 y2U),.s (.sl 4 (Nd.encs y2E)),.s (.int .i64 y2V),.s (.str x4),.s (.str x5)])],2⟩ ?_ (fun σ' hle=>?_)
 ·replace h:=hj;refine zAl ?_;refine zAa ?_;refine zAb [] [] rfl ?_;show Tri ..;refine zAd rfl (fun hb=>?_) (fun hb=>?_)
  ·replace h:=zAn hb h;refine zAb [] [] rfl ?_;cases h;exact (Le.rnm [(0,0),(1,1)] _ _ _ ⟨rfl,rfl,trivial⟩ ⟨rfl,⟨_,rfl,rfl⟩,rfl,⟨_,rfl,rfl⟩,trivial⟩)
  ·replace h:=zAm hb h;refine zAa ?_;refine zAb [] [] rfl ?_;show Tri ..;refine zAd rfl (fun hb=>?_) (fun hb=>?_)
   ·replace h:=zAn hb h;refine zAb [] [] rfl ?_;cases h;exact (Le.rnm [(0,0),(1,1)] _ _ _ ⟨rfl,rfl,trivial⟩ ⟨rfl,⟨_,rfl,rfl⟩,rfl,⟨_,rfl,rfl⟩,trivial⟩)
   ·replace h:=zAm hb h;refine zAa ?_;refine zAb [] [] rfl ?_;show Tri ..;refine zAd rfl (fun hb=>?_) (fun hb=>?_)
    ·replace h:=zAn hb h;refine zAb [] [] rfl ?_;cases h;exact (Le.rnm [(0,0),(1,1)] _ _ _ ⟨rfl,rfl,trivial⟩ ⟨rfl,⟨_,rfl,rfl⟩,rfl,⟨_,rfl,rfl⟩,trivial⟩)
    ·replace h:=zAm hb h;refine zAa ?_;refine zAb [] [] rfl ?_;show Tri ..;refine zAd rfl (fun hb=>?_) (fun hb=>?_)
     ·replace h:=zAn hb h;refine zAb [] [] rfl ?_;cases h;exact (Le.rnm [(0,0),(1,1)] _ _ _ ⟨rfl,rfl,trivial⟩ ⟨rfl,⟨_,rfl,rfl⟩,rfl,⟨_,rfl,rfl⟩,trivial⟩)
     ·replace h:=zAm hb h;refine zAa ?_;refine zAb [] [] rfl ?_;show Tri ..;refine zAd rfl (fun hb=>?_) (fun hb=>?_)
      ·replace h:=zAn hb h;refine zAB (by exact tokW) (by exact gok) (by exact mixed) [] [] [5,7] rfl (by decide +kernel) ?_;cases h;exact (Le.rnm [(0,0),(1,1)] _ _ _ ⟨rfl,rfl,trivial⟩ ⟨rfl,⟨_,rfl,rfl⟩,rfl,⟨_,rfl,rfl⟩,trivial⟩)
      ·replace h:=zAm hb h;refine zAg ?_;cases h;exact (Le.rnm [(0,0),(1,1)] _ _ _ ⟨rfl,rfl,trivial⟩ ⟨rfl,⟨_,rfl,rfl⟩,rfl,⟨_,rfl,rfl⟩,trivial⟩)
 ·show Tri ..;refine zAj hle ?_;refine zAa ?_;refine zAb [] [] rfl ?_;show Tri ..;refine zAh ?_;have hy:=Option.some.inj h;subst hy;unfold zAA;exact ⟨_,Le.refl _ _,rfl,rfl⟩
end Go.Proofs.YtjdhkpdjecegnaaGreatDoor
namespace Go.Abs
def ownB (β : Nat → Value) (hp : Nat → Option Ob) : Nat → Prop:=fun b=>∃ k ob,hp k = some ob ∧ blk (β k) = some b
def rcx (P : Program) (N m l : Nat) (w : World) (X G : Nat → Prop) (B : Nat → Value) : Cx:={ P:=P,w0:=w,X:=X,G0:=G,N:=N,n0:=m,B0:=B,ro:=some l }
def lcx (P : Program) (N m : Nat) (w : World) (X G : Nat → Prop) (B : Nat → Value) (D : Nat) : Cx:={ P:=P,w0:=w,X:=X,G0:=G,N:=N,n0:=m,B0:=B,ds:=[{ target:=.collected D,args:=#[] }] }
theorem ObAt.turn {c1 c2 : Cx} {G : Nat → Prop} {w w2 : World} {β : Nat → Value} {v : Value} {o : Ob} (hk : Keep G G w w2) (hb : ∀ b,blk v = some b → w2.heap[b]? = w.heap[b]?) (hm : ∀ b,blk v = some b → c2.mine b) (h : ObAt c1 G w β v o) : ObAt c2 G w2 β v o:=by
 cases o with
 | box xs =>
  obtain ⟨b,e,cur,q1,q2,q3,q4,q5,q6⟩:=h;exact ⟨b,e,cur,q1,(hb b (by rw [q1]; rfl)).trans q2,q3,hm b (by rw [q1]; rfl),q5.keep hk,q6⟩
 | row e sz rows =>
  obtain ⟨q1,q2,q3⟩:=h;refine ⟨q1,q2,q3.imp id ?_⟩
  rintro ⟨b,cap,cur,g1,g2,g3,g4,g5,g6,g7⟩
  exact ⟨b,cap,cur,g1,g2,g3,(hb b (by rw [g1]; rfl)).trans g4,g5,hm b (by rw [g1]; rfl),fun i s hi=>let ⟨u,hu,hr⟩:=g7 i s hi; ⟨u,hu,hr.keep hk⟩⟩
 | arow e sz rows =>
  obtain ⟨q1,q2,q3⟩:=h;refine ⟨q1,q2,q3.imp id ?_⟩
  rintro ⟨b,cap,cur,g1,g2,g3,g4,g5,g6,g7⟩
  exact ⟨b,cap,cur,g1,g2,g3,(hb b (by rw [g1]; rfl)).trans g4,g5,hm b (by rw [g1]; rfl),fun i s hi=>let ⟨u,hu,hr,h1⟩:=g7 i s hi; ⟨u,hu,hr.keep hk,h1⟩⟩
theorem ObAt.cells {c : Cx} {G : Nat → Prop} {w : World} {β : Nat → Value} {v : Value} {o : Ob} (h : ObAt c G w β v o) : ∀ b,blk v = some b → ∃ cur e f,w.heap[b]? = some (.cells cur e f):=fun b hb=>by
 cases o with
 | box xs =>
  obtain ⟨b',e,cur,rfl,q2,_⟩:=h;cases hb; exact ⟨_,_,_,q2⟩
 | row e sz rows =>
  obtain ⟨_,_,h | ⟨b',cap,cur,rfl,_,_,q2,_⟩⟩:=h
  ·rw [h.1] at hb; cases hb
  ·cases hb; exact ⟨_,_,_,q2⟩
 | arow e sz rows =>
  obtain ⟨_,_,h | ⟨b',cap,cur,rfl,_,_,q2,_⟩⟩:=h
  ·rw [h.1] at hb; cases hb
  ·cases hb; exact ⟨_,_,_,q2⟩
section
variable {c : Cx} {G : Nat → Prop} {β : Nat → Value} {σ : St} {a : Act} {w : World}
theorem Conc.not_own (hc : Conc c G β σ a w) {l : Nat} {o : Obj} (hl : w.heap[l]? = some o) (ho : o.isCells = false) : ¬ ownB β σ.hp l:=fun ⟨k,ob,h1,h2⟩=>by
 obtain ⟨cur,e,f,h3⟩:=(hc.hp k ob h1).cells l h2;rw [hl] at h3;cases h3;cases ho
theorem Conc.re (hc : Conc c G β σ a w) {c2 : Cx} {w2 : World} {a2 : Act} {env2 : Nat → AV} (hk : ∀ b,G b → w2.heap[b]? = w.heap[b]?) (ho : ∀ b,ownB β σ.hp b → w2.heap[b]? = w.heap[b]?) (hs : w.heap.size ≤ w2.heap.size)
  (hd : a2.defers = c2.ds) (hN : a2.tmps.size = c2.N) (he : ∀ t,AVal G w β (env2 t) (a2.tmps.getD t undef)) (hel : ∀ t,(env2 t).lt σ.nx = true) (hm : ∀ b,ownB β σ.hp b → c2.mine b)
  (hsub : ∀ b,c2.G0 b → G b) (hnew : ∀ b,G b → c2.G0 b ∨ c2.mine b) (hfr : Fr c2.X c2.w0 w2) (hst : c2.n0 ≤ σ.nx ∧ ∀ k,k < c2.n0 → β k = c2.B0 k) : Conc c2 G β ⟨env2,σ.hp,σ.nx⟩ a2 w2:=by
 have hkp : Keep G G w w2:=⟨fun _ h=>h,hk⟩
 exact {
  defers:=hd
  size:=hN
  env:=fun t=>(he t).keep hkp
  envlt:=hel
  hp:=fun k ob h=>(hc.hp k ob h).turn hkp (fun b hb=>ho b ⟨k,ob,h,hb⟩) (fun b hb=>hm b ⟨k,ob,h,hb⟩)
  hplt:=hc.hplt
  inj:=hc.inj
  lt:=fun b hb=>Nat.lt_of_lt_of_le (hc.lt b hb) hs
  sub:=hsub
  new:=hnew
  fr:=hfr
  stay:=hst
  glob:=hc.glob.keep hkp }
theorem Ext.alloc0 (h : ∀ b,G b → b < w.heap.size) (o : Obj) : Ext G G w (w.alloc o) :=
 ⟨rfl,rfl,rfl,by rw [World.size_alloc]; omega,fun b hb=>zBK w o hb,fun _ h=>h,fun _ h=>.inl h,fun b hb=>by rw [World.size_alloc]; have:=h b hb; omega⟩
end
structure Grown (A B : World) : Prop where
 os : B.os = A.os
 tape : B.tape = A.tape
 output : B.output = A.output
 size : A.heap.size ≤ B.heap.size
 old : ∀ b,b < A.heap.size → B.heap[b]? = A.heap[b]?
theorem Grown.ext {A B : World} {G : Nat → Prop} (h : Grown A B) (hl : ∀ b,G b → b < A.heap.size) : Ext G G A B:=⟨h.os,h.tape,h.output,h.size,h.old,fun _ h=>h,fun _ h=>.inl h,fun b hb=>Nat.lt_of_lt_of_le (hl b hb) h.size⟩
def zHX (P : Program) (fid sz : Nat) : Prop :=
 ∀ (G : Nat → Prop) (w0 : World) (v : Value) (rows : List (List S)),(∀ b,G b → b < w0.heap.size) → GlobOk G w0 → Rep G w0 (.pt [.sl sz rows]) v → (∀ r ∈ rows,r.length = sz) → rows.length ≤ 4611686018427387904 →
  ∀ (l : Nat) (J : Nat → World → Prop) (W : World),w0.heap.size ≤ W.heap.size → (∀ b,G b → W.heap[b]? = w0.heap[b]?) → (∀ i A B,J i A → Grown A B → J i B) →
   (∀ i j row u W1,i + j + 1 = rows.length → rows[j]? = some row → J i W1 → w0.heap.size ≤ W1.heap.size → (∀ b,G b → W1.heap[b]? = w0.heap[b]?) → (∀ β,AVal G W1 β (.agg (row.map .s)) u) →
    YieldAt Fence.wide 0 P l #[.int .i64 (j : Int),u] W1 fun e W2=>e = .returned (.bool true) ∧ J (i + 1) W2 ∧ w0.heap.size ≤ W2.heap.size ∧ ∀ b,G b → W2.heap[b]? = w0.heap[b]?) →
   J 0 W → CallsIn Fence.wide 1 P fid #[.func (.yield l) #[] #[],v] W fun e W'=>(∃ u,e = .returned u) ∧ J rows.length W'
structure Sw (c c2 : Cx) (D : Nat) : Prop where
 fr : Fr c.X c.w0 c2.w0
 mine : ∀ b,c2.X b → c.mine b
 sub : ∀ b,c.G0 b → c2.G0 b
 new : ∀ b,c2.G0 b → c.G0 b ∨ c.mine b
 blk : c2.w0.heap[D]? = some (.deferred (some []))
 nX : ¬ c2.X D
 nG : ¬ c2.G0 D
 ge : c.w0.heap.size ≤ D
def zKj (σ : St) (p1 p2 : Nat) (j : Nat) (row : List S) (e : (Nat → Option Ob) × Nat) : St :=
 ⟨fun t=>bif Nat.beq t p2 then .agg (row.map .s) else bif Nat.beq t p1 then .s (.int .i64 (j : Int)) else σ.env t,e.1,e.2⟩
def Rl (w : World) (X : Nat → Prop) (l : Nat) : Prop:=(∃ r,w.heap[l]? = some (.loop r)) ∧ ¬ X l
theorem zF5 {tm : Array Value} {p t : Nat} {v : Value} (hp : p < tm.size) : (tm.setIfInBounds p v).getD t undef = if t = p then v else tm.getD t undef:=by
 rw [Array.getD_eq_getD_getElem?,Array.getD_eq_getD_getElem?]
 by_cases h : t = p
 ·subst h;rw [if_pos rfl,Array.getElem?_setIfInBounds_self_of_lt hp]
  rfl
 ·rw [if_neg h,Array.getElem?_setIfInBounds_ne (Ne.symm h)]
theorem zip2 {α β : Type} (a b : α) (x y : β) : #[a,b].zip #[x,y] = #[(a,x),(b,y)]:=by
 apply Array.ext'
 simp [Array.toList_zip]
theorem nbeq {a b : Nat} (h : a ≠ b) : Nat.beq a b = false:=by
 cases e : Nat.beq a b with
 | false=>rfl
 | true=>exact absurd (Nat.eq_of_beq_eq_true e) h
theorem zL0 {n : Nat} : ∀ (row : List S),AV.ltAll n (row.map .s) = true
 | []=>rfl
 | s :: r=>by simp only [List.map_cons,AV.ltAll,Bool.and_eq_true]; exact ⟨rfl,zL0 r⟩
theorem zVJ {c : Cx} {G : Nat → Prop} {β : Nat → Value} {σ : St} {a : Act} {w : World} (hc : Conc c G β σ a w) (hro : c.ro = none) (hds : c.ds = []) {tg p1 p2 fid sz : Nat} {rows : List (List S)} {assign body : Code}
  (hit : zHX c.P fid sz) (hcall : ∀ args w,(callFunc fid args).run c.P w = .ok (.enter fid args) w) (he : σ.env tg = .clo fid [.s (.pt [.sl sz rows])]) (hrl : ∀ r ∈ rows,r.length = sz) (hlen : rows.length ≤ 4611686018427387904)
  (E : Nat → (Nat → Option Ob) × Nat) (hE : E 0 = (σ.hp,σ.nx)) (m : Nat) (hm : ∀ t,(σ.env t).lt m = true) (hm0 : c.n0 ≤ m) (hmE : ∀ i,m ≤ (E i).2) (hp1 : p1 < c.N) (hp2 : p2 < c.N)
  (hround : ∀ i j row,i + j + 1 = rows.length → rows[j]? = some row → ∀ l w X G B,Rl w X l → Tri (rcx c.P c.N m l w X G B) assign (zKj σ p1 p2 j row (E i)) (fun e σ1=>e = .normal ∧ ∀ w X G B,Rl w X l →
   Tri (rcx c.P c.N m l w X G B) body σ1 (fun e σ2=>e = .normal ∧ ∃ σ3,Le (rcx c.P c.N m l w X G B) σ2 σ3 ∧ σ3.hp = (E (i + 1)).1 ∧ σ3.nx = (E (i + 1)).2)))
  {Φ : Exit → Act → World → Prop} (hdone : ∀ D w2 X G2 G' β' a2,Sw c (lcx c.P c.N c.n0 w2 X G2 c.B0 D) D → Conc (lcx c.P c.N c.n0 w2 X G2 c.B0 D) G' β' ⟨σ.env,(E rows.length).1,(E rows.length).2⟩ a2 w2 → Φ .normal a2 w2) :
  (Code.rangeFunc (.tmp tg) #[p1,p2] assign body).wpIn (rF none) 2 c.P Φ a w:=by
 have hg:=hc.env tg;rw [he] at hg;simp only [AVal,AVals] at hg;obtain ⟨vs,hg,v,vs',rfl,hv,rfl⟩:=hg;have hg : a.eval (.tmp tg) = .func (.func fid) #[] #[v]:=hg;have hiter:=hit G w v rows hc.lt hc.glob hv hrl hlen;refine wpIn_rangeFunc fun fn _=>?_
 obtain ⟨rec,hrec⟩ : ∃ rec : LoopState → Loop,rec = fun st=>{ state:=st,pending:=none,fn:=fn,tmps:=a.tmps,params:=#[p1,p2],assign:=assign,body:=body,defers:=w.heap.size }:=⟨_,rfl⟩
 obtain ⟨l,hl0⟩ : ∃ l,l = w.heap.size + 1:=⟨_,rfl⟩
 obtain ⟨D,hD0⟩ : ∃ D,D = w.heap.size:=⟨_,rfl⟩
 obtain ⟨W1,hW1⟩ : ∃ W1,(w.alloc (.deferred (some []))).alloc (.loop (rec .ready)) = W1:=⟨_,rfl⟩
 have hL1 : W1.heap[l]? = some (.loop (rec .ready)):=by
  have:=World.alloc_heap_new (w.alloc (.deferred (some []))) (.loop (rec .ready))
  rw [World.size_alloc] at this;rw [← hW1,hl0]; exact this
 have hDD : W1.heap[D]? = some (.deferred (some [])):=by
  have:=zBK (w.alloc (.deferred (some []))) (.loop (rec .ready)) (b:=w.heap.size) (by rw [World.size_alloc]; omega)
  rw [← hW1,hD0,this]
  exact World.alloc_heap_new w _
 have hc1 : Conc c G β σ a W1:=by
  rw [← hW1]
  have h1:=hc.ext (Ext.alloc0 hc.lt (.deferred (some [])))
  exact h1.ext (Ext.alloc0 h1.lt (.loop (rec .ready)))
 have hlD : l ≠ D :=(by omega);have hcl : c.w0.heap.size ≤ D :=(by rw [hD0]; exact hc.fr.size);refine ⟨l,[{ target:=.collected D,args:=#[] }],W1,{ target:=.fn (.func fid) #[v],args:=#[.func (.yield l) #[] #[]] },W1,fid,#[.func (.yield l) #[] #[]] ++ #[v],W1,?_,?_,?_,?_,fun h=>(by cases h),?_⟩
 ·rw [← hW1,hrec,hl0,hD0]; exact run_enterLoop_outer _ _ _ _ _
 ·simp only [resolve,hg]
  simp [go_sem]
 ·intro f' hf'; trivial
 ·simp [invoke,go_sem,hcall]
 have key:=hiter l (fun i W=>W.heap[l]? = some (.loop (rec .ready)) ∧ W.heap[D]? = some (.deferred (some [])) ∧ ∃ G' β',Conc c G' β' ⟨σ.env,(E i).1,(E i).2⟩ a W ∧ (∀ b,G b → G' b) ∧ ¬ G' l ∧ ¬ G' D) W1 (by rw [← hW1,World.size_alloc,World.size_alloc]; omega)
  (fun b hb=>by
   have hb':=hc.lt b hb;rw [← hW1,zBK _ _ (by rw [World.size_alloc]; omega),zBK _ _ hb'])
  (fun i A B ⟨h1,h2,G',β',h3,h4⟩ hg=>⟨(hg.old l (Array.getElem?_eq_some_iff.1 h1).1).trans h1,(hg.old D (Array.getElem?_eq_some_iff.1 h2).1).trans h2,G',β',h3.ext (hg.ext h3.lt),h4⟩)
  ?_ ⟨hL1,hDD,G,β,by rw [hE]; exact hc1,fun _ h=>h,fun h=>by have:=hc.lt _ h; omega,fun h=>by have:=hc.lt _ h; omega⟩
 ·refine key.mono ?_;rintro e W3 ⟨⟨u,rfl⟩,h1,h2,G3,β3,hc3,hG3,hnl,hnD⟩
  have hend:=run_endLoop (P:=c.P) h1 (by rw [hrec]; simp)
  rw [hrec] at hend;refine ⟨none,_,hend,?_⟩
  dsimp only;have hnol : ¬ ownB β3 (E rows.length).1 l:=hc3.not_own h1 rfl;have hnoD : ¬ ownB β3 (E rows.length).1 D:=hc3.not_own h2 rfl;have hl3 : l < W3.heap.size:=(Array.getElem?_eq_some_iff.1 h1).1;generalize hW4 : W3.putObj l _ = W4;have hoth : ∀ b,b ≠ l → W4.heap[b]? = W3.heap[b]?:=fun b hb=>by rw [← hW4]; exact World.putObj_heap_other hb
  have hsz : W4.heap.size = W3.heap.size :=(by rw [← hW4]; exact World.putObj_size);have hfr4 : Fr c.X c.w0 W4:=⟨by rw [← hW4]; exact hc3.fr.os,by rw [← hW4]; exact hc3.fr.tape,by rw [← hW4]; exact hc3.fr.output,by rw [hsz]; exact hc3.fr.size,fun b hb hx=>(hoth b (by omega)).trans (hc3.fr.old b hb hx)⟩
  refine hdone D W4 (ownB β3 (E rows.length).1) G3 G3 β3 _ ⟨hfr4,fun b ⟨k,ob,q1,q2⟩=>(row_block (hc3.hp k ob q1) b q2).2,hc3.sub,hc3.new,(hoth D (Ne.symm hlD)).trans h2,hnoD,hnD,hcl⟩ ?_;exact hc3.re (c2:=lcx c.P c.N c.n0 W4 (ownB β3 (E rows.length).1) G3 c.B0 D) (fun b hb=>hoth b fun h=>hnl (h ▸ hb)) (fun b hb=>hoth b fun h=>hnol (h ▸ hb)) (by rw [hsz]; exact Nat.le_refl _)
   (by show _ :: a.defers = _; rw [hc.defers,hds]; rfl) hc.size hc3.env hc3.envlt (fun b hb=>.inl hb) (fun b hb=>hb) (fun b hb=>.inl hb) (Fr.refl _ _) hc3.stay
 ·rintro i j row u W hiN hrow ⟨h1,h2,G',β',hcW,hGG,hnl,hnD⟩ hszW hGk hval;have hy:=run_yield (P:=c.P) (args:=#[.int .i64 (j : Int),u]) h1 (by rw [hrec]; rfl)
  rw [hrec] at hy;have hnol : ¬ ownB β' (E i).1 l:=hcW.not_own h1 rfl;have hnoD : ¬ ownB β' (E i).1 D:=hcW.not_own h2 rfl;have hlW : l < W.heap.size:=(Array.getElem?_eq_some_iff.1 h1).1;have hDW : D < W.heap.size:=(Array.getElem?_eq_some_iff.1 h2).1;have hkW : Keep G G' w W:=⟨hGG,fun b hb=>(hGk b hb)⟩
  have htm : ((#[p1,p2].zip #[Value.int .i64 (j : Int),u]).foldl (fun tmps (x : Nat × Value)=>tmps.setIfInBounds x.1 x.2) a.tmps) = (a.tmps.setIfInBounds p1 (.int .i64 (j : Int))).setIfInBounds p2 (u) :=(by rw [zip2]; rfl);have hy : (Instr.yield l #[.int .i64 (j : Int),u]).run c.P W = .ok (.round l fn ((a.tmps.setIfInBounds p1 (.int .i64 (j : Int))).setIfInBounds p2 (u)) assign body) W :=(by rw [← htm]; exact hy);refine ⟨fn,_,assign,body,hy,roundIn_of_wpIn trivial ?_⟩
  have hs1 : p1 < a.tmps.size :=(by rw [hcW.size]; exact hp1);have hs2 : p2 < (a.tmps.setIfInBounds p1 (.int .i64 (j : Int))).size :=(by rw [Array.size_setIfInBounds,hcW.size]; exact hp2);have hA : Conc (rcx c.P c.N m l W (ownB β' (E i).1) G' β') G' β' (zKj σ p1 p2 j row (E i)) { tmps:=(a.tmps.setIfInBounds p1 (.int .i64 (j : Int))).setIfInBounds p2 (u),defers:=[] } W:=by
   refine hcW.re (c2:=rcx c.P c.N m l W (ownB β' (E i).1) G' β') (fun _ _=>rfl) (fun _ _=>rfl) (Nat.le_refl _) rfl (by show _ = c.N; rw [Array.size_setIfInBounds,Array.size_setIfInBounds]; exact hcW.size) (fun t=>?_) (fun t=>?_) (fun b hb=>.inl hb) (fun _ h=>h) (fun _ h=>.inl h) (Fr.refl _ _) ⟨hmE i,fun _ _=>rfl⟩
   ·dsimp only;rw [zF5 hs2,zF5 hs1]
    by_cases e2 : t = p2
    ·subst e2;rw [if_pos rfl,Nat.beq_refl,cond_true]
     exact (hval β').keep ⟨hGG,fun _ _=>rfl⟩
    ·rw [if_neg e2,nbeq e2,cond_false]
     by_cases e1 : t = p1
     ·subst e1;rw [if_pos rfl,Nat.beq_refl,cond_true]
      simp [AVal,Rep]
     ·rw [if_neg e1,nbeq e1,cond_false]
      exact hcW.env t
   ·dsimp only
    by_cases e2 : t = p2
    ·subst e2; rw [Nat.beq_refl,cond_true]; simp only [AV.lt]; exact zL0 row
    ·rw [nbeq e2,cond_false]
     by_cases e1 : t = p1
     ·subst e1; rw [Nat.beq_refl,cond_true]; rfl
     ·rw [nbeq e1,cond_false]; exact hcW.envlt t
  have hTri:=hround i j row hiN hrow l W (ownB β' (E i).1) G' β' ⟨⟨_,h1⟩,hnol⟩
  unfold Tri at hTri;refine wpIn_mono (zSC (m:=0) (hTri _ _ _ _ hA)) ?_;rintro e a1 Wb ⟨e',G2,β2,σ1,rfl,⟨rfl,hbody⟩,hB⟩
  have bl : Wb.heap[l]? = W.heap[l]?:=hB.fr.old l hlW hnol;have bD : Wb.heap[D]? = W.heap[D]?:=hB.fr.old D hDW hnoD;have hlb : l < Wb.heap.size:=Nat.lt_of_lt_of_le hlW hB.fr.size;have hn2l : ¬ G2 l:=fun h=>(hB.new l h).elim hnl (fun h=>h.elim hnol (fun h=>by have : W.heap.size ≤ l:=h; omega))
  have hn2D : ¬ G2 D:=fun h=>(hB.new D h).elim hnD (fun h=>h.elim hnoD (fun h=>by have : W.heap.size ≤ D:=h; omega))
  refine ⟨_,run_beginRound (bl.trans h1) (by rw [hrec]),?_⟩
  generalize hW2 : Wb.putObj l _ = W2;have oth2 : ∀ b,b ≠ l → W2.heap[b]? = Wb.heap[b]?:=fun b hb=>by rw [← hW2]; exact World.putObj_heap_other hb
  have sz2 : W2.heap.size = Wb.heap.size :=(by rw [← hW2]; exact World.putObj_size);have l2 : W2.heap[l]? = some (.loop { rec .ready with state:=.busy }) :=(by rw [← hW2]; exact World.putObj_heap_same hlb);have hno1l : ¬ ownB β2 σ1.hp l:=hB.not_own (bl.trans h1) rfl;have hno1D : ¬ ownB β2 σ1.hp D:=hB.not_own (bD.trans h2) rfl;have hB2 : Conc (rcx c.P c.N m l W2 (ownB β2 σ1.hp) G2 β') G2 β2 σ1 a1 W2 :=
   hB.re (c2:=rcx c.P c.N m l W2 (ownB β2 σ1.hp) G2 β') (fun b hb=>oth2 b fun h=>hn2l (h ▸ hb)) (fun b hb=>oth2 b fun h=>hno1l (h ▸ hb)) (by rw [sz2]; exact Nat.le_refl _) hB.defers hB.size hB.env hB.envlt (fun b hb=>.inl hb) (fun _ h=>h) (fun _ h=>.inl h) (Fr.refl _ _) hB.stay
  have hTri2:=hbody W2 (ownB β2 σ1.hp) G2 β' ⟨⟨_,l2⟩,hno1l⟩
  unfold Tri at hTri2;refine wpIn_mono (zSC (m:=0) (hTri2 _ _ _ _ hB2)) ?_;rintro e a2 Wc ⟨e',G3,β3,σ2,rfl,⟨rfl,σ3,hle,hhp,hnx⟩,hC0⟩
  unfold Le at hle;obtain ⟨G4,β4,hC⟩:=hle _ _ _ _ hC0;have hl2 : l < W2.heap.size :=(by omega);have hD2 : D < W2.heap.size :=(by have:=hB.fr.size; simp only [rcx] at this; omega);have cl : Wc.heap[l]? = W2.heap[l]?:=hC.fr.old l hl2 hno1l;have cD : Wc.heap[D]? = W2.heap[D]?:=hC.fr.old D hD2 hno1D;have hlc : l < Wc.heap.size:=Nat.lt_of_lt_of_le hl2 hC.fr.size;have hend:=run_endRound (P:=c.P) none (cl.trans l2)
  refine ⟨_,_,hend,rfl,?_⟩
  generalize hW5 : Wc.putObj l _ = W5;have oth5 : ∀ b,b ≠ l → W5.heap[b]? = Wc.heap[b]?:=fun b hb=>by rw [← hW5]; exact World.putObj_heap_other hb
  have sz5 : W5.heap.size = Wc.heap.size :=(by rw [← hW5]; exact World.putObj_size);have l5 : W5.heap[l]? = some (.loop (rec .ready)) :=(by rw [← hW5,World.putObj_heap_same hlc,hrec]; rfl);have hnol3 : ¬ ownB β4 σ3.hp l:=hC.not_own (cl.trans l2) rfl;have hn4l : ¬ G4 l:=fun h=>(hC.new l h).elim hn2l (fun h=>h.elim hno1l (fun h=>by have : W2.heap.size ≤ l:=h; omega))
  have hn4D : ¬ G4 D:=fun h=>(hC.new D h).elim hn2D (fun h=>h.elim hno1D (fun h=>by have : W2.heap.size ≤ D:=h; omega))
  have hsub4 : ∀ b,G' b → G4 b:=fun b h=>hC.sub b (hB.sub b h)
  have hgl : ∀ b,G' b → b ≠ l:=fun b h e=>hnl (e ▸ h)
  have hkeep : ∀ b,G' b → Wc.heap[b]? = W.heap[b]?:=fun b h=>by
   have hno : ¬ ownB β' (E i).1 b:=fun ⟨k,ob,q1,q2⟩=>(row_block (hcW.hp k ob q1) b q2).1 h
   have hno2 : ¬ ownB β2 σ1.hp b:=fun ⟨k,ob,q1,q2⟩=>(row_block (hB.hp k ob q1) b q2).1 (hB.sub b h)
   have hb1:=hcW.lt b h;have hb2 : b < W2.heap.size :=(by have:=hB.lt b (hB.sub b h); omega);exact (hC.fr.old b hb2 hno2).trans ((oth2 b (hgl b h)).trans (hB.fr.old b hb1 hno))
  have hbeta : ∀ k,k < m → β4 k = β' k:=fun k hk=>hC.stay.2 k hk
  have hnxle : m ≤ σ3.nx:=hC.stay.1;have hmine1 : ∀ b,ownB β2 σ1.hp b → c.mine b:=fun b ⟨k,ob,q1,q2⟩=>by
   rcases (row_block (hB.hp k ob q1) b q2).2 with ⟨k',ob',r1,r2⟩ | h
   ·exact (row_block (hcW.hp k' ob' r1) b r2).2
   ·exact .inr (Nat.le_trans hcW.fr.size h)
  have hmine3 : ∀ b,ownB β4 σ3.hp b → c.mine b:=fun b ⟨k,ob,q1,q2⟩=>by
   rcases (row_block (hC.hp k ob q1) b q2).2 with h | h
   ·exact hmine1 b h
   ·have h : W2.heap.size ≤ b:=h;have:=hB.fr.size;simp only [rcx] at this;exact .inr (by have:=hcW.fr.size; omega)
  have hfr5 : Fr c.X c.w0 W5:=by
   refine ⟨?_,?_,?_,?_,fun b hb hx=>?_⟩
   ·rw [← hW5]; show Wc.os = _; rw [hC.fr.os]; show W2.os = _; rw [← hW2]; show Wb.os = _; rw [hB.fr.os]; exact hcW.fr.os
   ·rw [← hW5]; show Wc.tape = _; rw [hC.fr.tape]; show W2.tape = _; rw [← hW2]; show Wb.tape = _; rw [hB.fr.tape]; exact hcW.fr.tape
   ·rw [← hW5]; show Wc.output = _; rw [hC.fr.output]; show W2.output = _; rw [← hW2]; show Wb.output = _; rw [hB.fr.output]; exact hcW.fr.output
   ·have h1:=hC.fr.size;have h2:=hB.fr.size;have h3:=hcW.fr.size;simp only [rcx] at h1 h2
    omega
   ·have hno : ¬ ownB β' (E i).1 b:=fun ⟨k,ob,q1,q2⟩=>(row_block (hcW.hp k ob q1) b q2).2.elim hx (fun h=>by omega)
    have hno2 : ¬ ownB β2 σ1.hp b:=fun h=>(hmine1 b h).elim hx (fun h=>by omega)
    have hb1 : b < W.heap.size :=(by have:=hcW.fr.size; omega);have hb2 : b < W2.heap.size :=(by have:=hB.fr.size; simp only [rcx] at this; omega);have hbl : b ≠ l :=(by omega);exact (oth5 b hbl).trans ((hC.fr.old b hb2 hno2).trans ((oth2 b hbl).trans ((hB.fr.old b hb1 hno).trans (hcW.fr.old b hb hx))))
  refine ⟨⟨l5,(oth5 D (Ne.symm hlD)).trans (cD.trans ((oth2 D (Ne.symm hlD)).trans (bD.trans h2))),G4,β4,?_,fun b h=>hsub4 b (hGG b h),hn4l,hn4D⟩,by have h1:=hC.fr.size; have h2:=hB.fr.size; simp only [rcx] at h1 h2; omega,fun b hb=>(oth5 b (hgl b (hGG b hb))).trans ((hkeep b (hGG b hb)).trans (hGk b hb))⟩
  rw [← hhp,← hnx]
  refine hC.re (c2:=c) (fun b hb=>oth5 b fun h=>hn4l (h ▸ hb)) (fun b hb=>oth5 b fun h=>hnol3 (h ▸ hb)) (by rw [sz5]; exact Nat.le_refl _) hc.defers hc.size (fun t=>((hcW.env t).keep ⟨hsub4,hkeep⟩).beta hbeta (hm t)) (fun t=>AV.lt_mono hnxle (hm t)) hmine3
   (fun b hb=>hsub4 b (hcW.sub b hb)) (fun b hb=>?_) hfr5 ⟨Nat.le_trans hm0 hnxle,fun k hk=>(hbeta k (Nat.lt_of_lt_of_le hk hm0)).trans (hcW.stay.2 k hk)⟩
  rcases hC.new b hb with h | h
  ·rcases hB.new b h with h | h
   ·exact hcW.new b h
   ·rcases h with ⟨k',ob',r1,r2⟩ | h
    ·exact .inr (row_block (hcW.hp k' ob' r1) b r2).2
    ·exact .inr (.inr (Nat.le_trans hcW.fr.size h))
  ·rcases h with h | h
   ·exact .inr (hmine1 b h)
   ·have h : W2.heap.size ≤ b:=h;have h2:=hB.fr.size;have h3:=hcW.fr.size;simp only [rcx] at h2;exact .inr (.inr (by omega))
end Go.Abs
namespace Go.Abs
def TriX (c : Cx) (code : Code) (σ : St) (Φ : Exit → Act → World → Prop) : Prop:=∀ G β a w,Conc c G β σ a w → code.wpIn (rF none) 2 c.P Φ a w
section
variable {c : Cx} {σ : St} {Φ : Exit → Act → World → Prop}
theorem zVH {x y : Code} (h : TriX c x σ (Exit.then (y.wpIn (rF none) 2 c.P Φ) Φ)) : TriX c (.seq x y) σ Φ:=fun G β a w hc=>wpIn_seq (h G β a w hc)
theorem zNU {x : Code} {id : Nat} (h : TriX c x σ (Exit.inBlock id Φ)) : TriX c (.block id x) σ Φ:=fun G β a w hc=>wpIn_block (h G β a w hc)
theorem zH7 {x y : Code} (hro : c.ro = none) (h : Tri c x σ (fun e σ'=>e = .normal ∧ TriX c y σ' Φ)) : TriX c (.seq x y) σ Φ:=fun G β a w hc=>by
 unfold Tri at h;rw [hro] at h;refine wpIn_seq (wpIn_mono (h G β a w hc) ?_)
 rintro e a' w' ⟨e',G',β',σ',rfl,⟨rfl,hq⟩,hc'⟩
 exact hq G' β' a' w' hc'
theorem zNV (hro : c.ro = none) (hds : c.ds = []) {tg p1 p2 fid sz : Nat} {rows : List (List S)} {assign body : Code}
  (hit : zHX c.P fid sz) (hcall : ∀ args w,(callFunc fid args).run c.P w = .ok (.enter fid args) w) (he : σ.env tg = .clo fid [.s (.pt [.sl sz rows])]) (hrl : ∀ r ∈ rows,r.length = sz) (hlen : rows.length ≤ 4611686018427387904)
  (E : Nat → (Nat → Option Ob) × Nat) (hE : E 0 = (σ.hp,σ.nx)) (m : Nat) (hm : ∀ t,(σ.env t).lt m = true) (hm0 : c.n0 ≤ m) (hmE : ∀ i,m ≤ (E i).2) (hp1 : p1 < c.N) (hp2 : p2 < c.N)
  (hround : ∀ i j row,i + j + 1 = rows.length → rows[j]? = some row → ∀ l w X G B,Rl w X l → Tri (rcx c.P c.N m l w X G B) assign (zKj σ p1 p2 j row (E i)) (fun e σ1=>e = .normal ∧ ∀ w X G B,Rl w X l →
   Tri (rcx c.P c.N m l w X G B) body σ1 (fun e σ2=>e = .normal ∧ ∃ σ3,Le (rcx c.P c.N m l w X G B) σ2 σ3 ∧ σ3.hp = (E (i + 1)).1 ∧ σ3.nx = (E (i + 1)).2)))
  (hdone : ∀ D w2 X G2 G' β' a2,Sw c (lcx c.P c.N c.n0 w2 X G2 c.B0 D) D → Conc (lcx c.P c.N c.n0 w2 X G2 c.B0 D) G' β' ⟨σ.env,(E rows.length).1,(E rows.length).2⟩ a2 w2 → Φ .normal a2 w2) :
  TriX c (.rangeFunc (.tmp tg) #[p1,p2] assign body) σ Φ:=fun G β a w hc=>zVJ hc hro hds hit hcall he hrl hlen E hE m hm hm0 hmE hp1 hp2 hround hdone
end
theorem zTQ {c c2 : Cx} {D : Nat} {T : Nat → Option TI} (hT : TOk c2.P T) {fn : Func} {r : Ret} {code : Code} {σ : St} (hsw : Sw c c2 D) (hX : ∀ b,¬ c.X b) (hro : c2.ro = none) (hds : c2.ds = [{ target:=.collected D,args:=#[] }])
  (h : Tri c2 code σ (fun e σ'=>match e with | .exit _=>False | _=>zAA c2 T fn.results.toList r σ')) :
  TriX c2 code σ (bodyPostM (rF none) 2 c2.P fn fun e W'=>∃ v G',e = .returned v ∧ Ext c.G0 G' c.w0 W' ∧ RetAt G' c.w0 W' r v):=fun G β a w hc=>by
 unfold Tri at h;rw [hro] at h;refine wpIn_mono (h G β a w hc) ?_;rintro e a' w' ⟨e',G',β',σ',rfl,hq,hc'⟩
 have fin : zAA c2 T fn.results.toList r σ' → LeavesInM (rF none) 2 c2.P fn a'.tmps (fun e W'=>∃ v G',e = .returned v ∧ Ext c.G0 G' c.w0 W' ∧ RetAt G' c.w0 W' r v) a'.defers .returning w':=fun hq=>by
  unfold zAA at hq;obtain ⟨σ2,hle,hr⟩:=hq;unfold Le at hle;obtain ⟨G2,β2,hc2⟩:=hle G' β' a' w' hc';have hDl : D < c2.w0.heap.size:=(Array.getElem?_eq_some_iff.1 hsw.blk).1;have hD : w'.heap[D]? = some (.deferred (some [])):=(hc2.fr.old D hDl hsw.nX).trans hsw.blk;have hnG : ¬ G2 D:=fun h=>(hc2.new D h).elim hsw.nG (fun h=>h.elim hsw.nX (fun h=>by omega))
  have hnO : ¬ ownB β2 σ2.hp D:=hc2.not_own hD rfl;rw [hc'.defers,hds]
  refine ⟨by simp,.inl ⟨_,_,rfl,run_takeDeferred hD,?_⟩⟩
  generalize hW : w'.putObj D (.deferred none) = W;have oth : ∀ b,b ≠ D → W.heap[b]? = w'.heap[b]?:=fun b hb=>by rw [← hW]; exact World.putObj_heap_other hb
  have sz : W.heap.size = w'.heap.size :=(by rw [← hW]; exact World.putObj_size);have hge:=hsw.ge;have hmine : ∀ b,c2.mine b → c.w0.heap.size ≤ b:=fun b hb=>by
   rcases hb with hb | hb
   ·exact (hsw.mine b hb).elim (fun h=>absurd h (hX b)) id
   ·exact Nat.le_trans hsw.fr.size hb
  have hc3 : Conc { P:=c2.P,w0:=W,X:=fun b=>c.w0.heap.size ≤ b,G0:=G2,N:=c2.N } G2 β2 ⟨σ2.env,σ2.hp,σ2.nx⟩ { a' with defers:=[] } W :=
   hc2.re (c2:={ P:=c2.P,w0:=W,X:=fun b=>c.w0.heap.size ≤ b,G0:=G2,N:=c2.N }) (fun b hb=>oth b fun h=>hnG (h ▸ hb)) (fun b hb=>oth b fun h=>hnO (h ▸ hb)) (by rw [sz]; exact Nat.le_refl _) rfl hc2.size hc2.env hc2.envlt
    (fun b ⟨k,ob,q1,q2⟩=>.inl (hmine b (row_block (hc2.hp k ob q1) b q2).2)) (fun b h=>h) (fun b h=>.inl h) (Fr.refl _ _) ⟨Nat.zero_le _,fun k hk=>by cases hk⟩
  have hext : Ext c.G0 G2 c.w0 W:=by
   refine ⟨?_,?_,?_,?_,fun b hb=>?_,fun b hb=>hc2.sub b (hsw.sub b hb),fun b hb=>?_,fun b hb=>by rw [sz]; exact hc2.lt b hb⟩
   ·rw [← hW]; show w'.os = _; rw [hc2.fr.os]; exact hsw.fr.os
   ·rw [← hW]; show w'.tape = _; rw [hc2.fr.tape]; exact hsw.fr.tape
   ·rw [← hW]; show w'.output = _; rw [hc2.fr.output]; exact hsw.fr.output
   ·have h1:=hc2.fr.size; have h2:=hsw.fr.size; omega
   ·have h2:=hsw.fr.size;exact (oth b (by omega)).trans ((hc2.fr.old b (by omega) (fun h=>(hsw.mine b h).elim (hX b) (fun h=>by omega))).trans (hsw.fr.old b hb (hX b)))
   ·rcases hc2.new b hb with h | h
    ·exact (hsw.new b h).imp id (fun h=>h.elim (fun h=>absurd h (hX b)) id)
    ·exact .inr (hmine b h)
  unfold RetAt;split at hr
  ·rename_i x
   obtain ⟨v,h1,h2⟩:=zFP (c:={ P:=c2.P,w0:=W,X:=fun b=>c.w0.heap.size ≤ b,G0:=G2,N:=c2.N }) hT hc3 hr.1;exact ⟨v,h1,v,G2,rfl,hext,hr.2,AVal.pers hr.2 h2⟩
  ·rename_i e sz' rows
   obtain ⟨k,hk1,hk2⟩:=hr;obtain ⟨v,h1,h2⟩:=zFP (c:={ P:=c2.P,w0:=W,X:=fun b=>c.w0.heap.size ≤ b,G0:=G2,N:=c2.N }) hT hc3 hk1;refine ⟨v,h1,v,G2,rfl,hext,?_⟩
   simp only [AVal] at h2;obtain ⟨rfl,_⟩:=h2;obtain ⟨q1,q2,q3⟩:=hc3.hp k _ hk2;refine ⟨q1,q2,q3.imp id ?_⟩
   rintro ⟨b,cap,cur,g1,g2,g3,g4,g5,g6,g7⟩
   refine ⟨b,cap,cur,g1,g2,g3,g4,g5,g6.elim id (fun h=>?_),g7⟩
   have h : W.heap.size ≤ b:=h;have:=(Array.getElem?_eq_some_iff.1 g4).1
   omega
 cases e' with
 | normal=>exact fin hq
 | ret=>exact fin hq
 | exit id=>exact hq.elim
theorem zWp {P : Program} {f : Nat} {fn : Func} {code : Code} {s : zAt} (hcall : ∀ args w,(callFunc f args).run P w = .ok (.enter f args) w)
  (hf : P.funcs[f]? = some fn) (hb : fn.body = some code) (hn : ∀ xs r,s.spec xs r → xs.length ≤ fn.ntmps)
  (N : Nat) (hN : fn.ntmps = N)
  (h : ∀ xs r w0 G0,s.spec xs r → AV.persAll xs = true → TriX (zEw P w0 G0 N) code (start xs) (bodyPostM (rF none) 2 P fn fun e W'=>∃ v G',e = .returned v ∧ Ext G0 G' w0 W' ∧ RetAt G' w0 W' r v)) (hown : s.own = none:=by rfl) (hheap : s.heap = none:=by rfl) : PSound P f s:=by
 subst hN;refine ⟨hcall,fun G w xs vs r hlt hgl hp hv hpre=>?_,fun R hR=>(by rw [hown] at hR; cases hR),fun R hR=>(by rw [hheap] at hR; cases hR)⟩
 have hlen:=hv.length;have hxn:=hn xs r hpre;have hc : Conc (zEw P w G fn.ntmps) G (fun _=>.tuple #[]) (start xs) { tmps:=vs.toArray ++ Array.replicate (fn.ntmps - vs.toArray.size) undef,defers:=[] } w:={
  defers:=rfl
  size:=by simp only [Array.size_append,List.size_toArray,Array.size_replicate]; show _ = fn.ntmps; omega
  env:=fun t=>by
   simp only [start]
   by_cases ht : t < xs.length
   ·obtain ⟨v,h1,h2⟩:=hv.get (i:=t) (x:=xs[t]) (List.getElem?_eq_getElem ht)
    have e1 : xs.getD t .junk = xs[t] :=(by simp [List.getElem?_eq_getElem ht]);have e2 : (vs.toArray ++ Array.replicate (fn.ntmps - vs.toArray.size) undef).getD t undef = v:=by
     rw [Array.getD_eq_getD_getElem?,Array.getElem?_append_left (by simpa [hlen] using ht)]
     simp [h1]
    rw [e1,e2]; exact h2
   ·have : xs.getD t .junk = .junk :=(by simp [List.getElem?_eq_none (by omega : xs.length ≤ t)]);rw [this]; simp only [AVal]
  envlt:=fun t=>by
   simp only [start]
   by_cases ht : t < xs.length
   ·have e1 : xs.getD t .junk = xs[t] :=(by simp [List.getElem?_eq_getElem ht]);rw [e1]; exact zBr (AV.persAll_lt hp) (List.getElem?_eq_getElem ht)
   ·have : xs.getD t .junk = .junk :=(by simp [List.getElem?_eq_none (by omega : xs.length ≤ t)]);rw [this]; rfl
  hp:=fun k ob hk=>by simp [start] at hk
  hplt:=fun k ob hk=>by simp [start] at hk
  inj:=fun k k' ob ob' hk=>by simp [start] at hk
  lt:=hlt
  sub:=fun b hb=>hb
  new:=fun b hb=>.inl hb
  fr:=Fr.refl _ _
  stay:=⟨Nat.le_refl _,fun k hk=>by cases hk⟩
  glob:=hgl }
 exact callsIn_wide.1 (callsIn_of_wp_marks hf hb trivial (h xs r w G hpre hp G _ _ w hc))
theorem zGM {a : Act} {d : Option Nat} {v : Value} {t : Nat} (h : d ≠ some t) : (a.put d v).tmps.getD t undef = a.tmps.getD t undef:=by
 cases d with
 | none=>rfl
 | some d =>
  have hdt : d ≠ t:=fun e=>h (by rw [e])
  simp only [Act.put,Array.getD_eq_getD_getElem?]
  rw [Array.getElem?_setIfInBounds_ne hdt]
theorem zW9 {P : Program} {W : World} {G : Nat → Prop} {β : Nat → Value} {N : Nat} {a : Act} {env : Nat → AV} (hd : a.defers = []) (hs : a.tmps.size = N) (hl : ∀ b,G b → b < W.heap.size) (hg : GlobOk G W) (he : ∀ t,AVal G W β (env t) (a.tmps.getD t undef)) (hlt : ∀ t,(env t).lt 0 = true) :
  Conc (zEw P W G N) G β ⟨env,fun _=>none,0⟩ a W:={
 defers:=hd
 size:=hs
 env:=he
 envlt:=hlt
 hp:=fun k ob hk=>by cases hk
 hplt:=fun k ob hk=>by cases hk
 inj:=fun k k' ob ob' hk=>by cases hk
 lt:=hl
 sub:=fun b hb=>hb
 new:=fun b hb=>.inl hb
 fr:=Fr.refl _ _
 stay:=⟨Nat.le_refl _,fun k hk=>by cases hk⟩
 glob:=hg }
def evP (T : Nat → Option TI) (N : Nat) (ts : List Nat) : List Oper → St → (St → Prop) → Prop
 | [],σ,K=>K σ
 | o :: os,σ,K =>
  match o.dst,o.guard,zOv o && zOw o with
  | some d,none,true=>match Nat.blt d N && zQk d ts with
   | true=>match zCB T false o σ.env with
    | some (φ,x)=>andO φ (evP T N ts os (σ.put (some d) x) K)
    | none=>False
   | false=>False
  | _,_,_=>False
theorem zLS {P : Program} {W0 : World} {G0 : Nat → Prop} {T : Nat → Option TI} (hT : TOk P T) {N n : Nat} {ops rest : List Oper} {K : St → Prop} {Q : Exit → Act → World → Prop} {ts : List Nat} {v0 : Nat → Value}
  (hr : ∀ σ G β a w,K σ → Conc (zEw P W0 G0 N) G β σ a w → w.heap.size = W0.heap.size → (∀ t ∈ ts,a.tmps.getD t undef = v0 t) → wpListIn Fence.wide n P ops.toArray Q rest a w) :
  ∀ (l : List Oper) (σ : St) (G : Nat → Prop) (β : Nat → Value) (a : Act) (w : World),evP T N ts l σ K → Conc (zEw P W0 G0 N) G β σ a w → w.heap.size = W0.heap.size → (∀ t ∈ ts,a.tmps.getD t undef = v0 t) → wpListIn Fence.wide n P ops.toArray Q (l ++ rest) a w
 | [],σ,G,β,a,w,h,hc,hs,ht=>hr σ G β a w h hc hs ht
 | o :: os,σ,G,β,a,w,h,hc,hs,ht=>by
  unfold evP at h;split at h
  ·rename_i d hd hg hnn
   simp only [Bool.and_eq_true] at hnn;split at h
   ·rename_i hdN
    simp only [Bool.and_eq_true] at hdN;have hdN1 : d < N:=Nat.le_of_ble_eq_true hdN.1;have hdts:=zFK hdN.2;split at h
    ·rename_i φ x hp
     obtain ⟨hφ,h⟩:=zK7 h;rw [List.cons_append]
     unfold wpListIn;rw [if_pos (by simp [Region.wanted,hg])]
     refine zUa (ro:=none) (K:=fun a' w'=>wpListIn Fence.wide n P ops.toArray Q (os ++ rest) a' w') (fun c e=>?_) (fun _ _ h=>h) ?_
     ·have:=hnn.2;unfold zOw at this;rw [e] at this;cases this
     ·refine zUi (c:=zEw P W0 G0 N) hT hc hp hφ fun G' w' v he hna hv=>?_
      have hww:=hna hnn.1;subst hww;rw [hd]
      have hput:=(hc.ext he).put (d:=some d) (fun t e=>by cases e; exact hdN1) hv (zSp hc.envlt hp)
      refine zLS hT hr os _ G' β _ _ h hput hs fun t htt=>?_
      rw [zGM (fun e=>hdts (by cases e; exact htt))]
      exact ht t htt
    ·exact h.elim
   ·exact h.elim
  ·exact h.elim
theorem zLa {P : Program} {W0 : World} {G0 : Nat → Prop} {T : Nat → Option TI} (hT : TOk P T) {N n : Nat} {ops l : List Oper} (m : Nat) {K : St → Prop} {Q : Exit → Act → World → Prop} (ts : List Nat) {σ : St} {G : Nat → Prop} {β : Nat → Value} {a : Act} {w : World}
  (h : evP T N ts (l.take m) σ K) (hc : Conc (zEw P W0 G0 N) G β σ a w) (hs : w.heap.size = W0.heap.size)
  (hr : ∀ σ G β a' w,K σ → Conc (zEw P W0 G0 N) G β σ a' w → w.heap.size = W0.heap.size → (∀ t ∈ ts,a'.tmps.getD t undef = a.tmps.getD t undef) → wpListIn Fence.wide n P ops.toArray Q (l.drop m) a' w) : wpListIn Fence.wide n P ops.toArray Q l a w:=by
 have:=zLS (v0:=fun t=>a.tmps.getD t undef) hT hr (l.take m) σ G β a w h hc hs (fun _ _=>rfl)
 rwa [List.take_append_drop] at this
theorem zHB {P : Program} {W0 : World} {G0 : Nat → Prop} {T : Nat → Option TI} (hT : TOk P T) {N n : Nat} {ops l : List Oper} {K : St → Prop} {Q : Exit → Act → World → Prop} (ts : List Nat) {σ : St} {G : Nat → Prop} {β : Nat → Value} {a : Act} {w : World}
  (h : evP T N ts l σ K) (hc : Conc (zEw P W0 G0 N) G β σ a w) (hs : w.heap.size = W0.heap.size)
  (hr : ∀ σ G β a' w,K σ → Conc (zEw P W0 G0 N) G β σ a' w → w.heap.size = W0.heap.size → (∀ t ∈ ts,a'.tmps.getD t undef = a.tmps.getD t undef) → Q .normal a' w) : wpListIn Fence.wide n P ops.toArray Q l a w:=by
 have:=zLS (rest:=[]) (v0:=fun t=>a.tmps.getD t undef) (ops:=ops) (n:=n) (Q:=Q) hT hr l σ G β a w h hc hs (fun _ _=>rfl)
 rwa [List.append_nil] at this
theorem zT8 {G : Nat → Prop} {w : World} {β : Nat → Value} {a : Act} : ∀ {L : List (Nat × AV)},(∀ p ∈ L,AVal G w β p.2 (a.tmps.getD p.1 undef)) → ∀ t,AVal G w β (ofL L t) (a.tmps.getD t undef)
 | [],_,t=>by simp only [ofL,AVal]
 | (s,x) :: r,h,t=>by
  simp only [ofL]
  cases e : Nat.beq t s with
  | true=>obtain rfl:=Nat.eq_of_beq_eq_true e; exact h _ List.mem_cons_self
  | false=>exact zT8 (fun p hp=>h p (List.mem_cons_of_mem _ hp)) t
theorem zKY {P : Program} {W : World} {G : Nat → Prop} {N : Nat} {a : Act} (L : List (Nat × AV)) (hd : a.defers = []) (hs : a.tmps.size = N) (hl : ∀ b,G b → b < W.heap.size) (hg : GlobOk G W) (hL : ltL 0 L = true) (he : ∀ p ∈ L,AVal G W (fun _=>.tuple #[]) p.2 (a.tmps.getD p.1 undef)) :
  Conc (zEw P W G N) G (fun _=>.tuple #[]) ⟨ofL L,fun _=>none,0⟩ a W:=zW9 hd hs hl hg (zT8 he) (zH4 hL)
theorem zF9 {n : Nat} {P : Program} {ops : Array Oper} {Q : Exit → Act → World → Prop} {o : Oper} {rest : List Oper} {a : Act} {w : World} (hg : o.guard = none) (h : o.wpIn Fence.wide n P a w (wpListIn Fence.wide n P ops Q rest) Q) : wpListIn Fence.wide n P ops Q (o :: rest) a w:=by
 unfold wpListIn;rw [if_pos (by simp [Region.wanted,hg])]
 exact h
theorem zSD {P : Program} {o : Oper} {f x y : Operand} {ts : Array TypeId} {l : Nat} {a : Act} {w : World} {K : Act → World → Prop} {Q : Exit → Act → World → Prop} {R : Ending → World → Prop} {u : Value} (ho : o.op = .call { callee:=.value f,args:=#[x,y],argTypes:=ts })
  (hf : a.eval f = .func (.yield l) #[] #[]) (hY : YieldAt Fence.wide 0 P l #[a.eval x,a.eval y] w R) (hR : ∀ e w',R e w' → e = .returned u ∧ K (a.put o.dst u) w') : o.wpIn Fence.wide 1 P a w K Q:=by
 obtain ⟨fn,tmps,assign,body,hy,hr⟩:=hY;refine ⟨fun _ _=>trivial,?_⟩
 rw [Oper.semAt_eq _ _ _ (by rw [ho]; intro c e; cases e)]
 have : (execOp a.eval o).run P w = .ok (.round l fn tmps assign body) w:=by
  simp [execOp,ho,resolve,hf,Deferred.ofValue,invoke,hy]
 rw [this]
 refine ⟨fun h=>(by cases h),hr.mono fun e w' he=>?_⟩
 obtain ⟨rfl,h⟩:=hR e w' he;exact h
theorem Conc.back {P : Program} {W : World} {G G' : Nat → Prop} {N : Nat} {β : Nat → Value} {σ : St} {a : Act} {w : World} (hc : Conc (zEw P W G N) G' β σ a w) (hs : w.heap.size = W.heap.size) : (∀ b,G' b → G b) ∧ ∀ b,b < W.heap.size → w.heap[b]? = W.heap[b]? :=
 ⟨fun b hb=>(hc.new b hb).elim id (fun h=>h.elim False.elim (fun h=>by have:=hc.lt b hb; have h : W.heap.size ≤ b:=h; omega)),fun b hb=>hc.fr.old b hb (fun h=>h)⟩
end Go.Abs
namespace Go.Proofs.YtjdhkpdjecegnaaGreatDoor
open Go.Abs
def zJa (xs : List AV) (r : Ret) : Prop:=∃ rows,xs = [.s (.sl 8 rows)] ∧ r = .val (.clo 96 [.s (.pt [.sl 8 rows])])
set_option maxHeartbeats 600000 in
theorem zMQ : PSound Tryz.prog 64 (zAG zJa):=by
 have gok : ∀ f s,look? f [] = some s → PSound Tryz.prog f s:=zAu (by simp)
 refine zAK tokW Tryz.call64 Tryz.func64 rfl (fun xs r h=>by obtain ⟨_,rfl,_⟩:=h; show 1 ≤ 4; decide) 4 rfl ?_;rintro xs r w0 G0 ⟨rows,rfl,rfl⟩ _;refine zAa ?_;refine zAb [] [] rfl ?_;show Tri ..;refine zAa ?_;refine zAb [] [] rfl ?_;show Tri ..;refine zAh ?_;unfold zAA;exact ⟨_,Le.refl _ _,rfl,rfl⟩
theorem zOn (a : Act) (t : Nat) : a.eval (.tmp t) = a.tmps.getD t undef:=rfl
theorem zXb {α : Type} : ∀ {l : List α},l.length = 8 → ∃ a b c d e f g h,l = [a,b,c,d,e,f,g,h]
 | [a,b,c,d,e,f,g,h],_=>⟨a,b,c,d,e,f,g,h,rfl⟩
theorem zV5 : zHX Tryz.prog 96 8:=by
 intro G w0 v rows hlt hgl hv hrl hlen l J W hsz hk hJ hY h0;have hrep : ∀ w : World,(∀ b,G b → w.heap[b]? = w0.heap[b]?) → Rep G w (.pt [.sl 8 rows]) v:=fun w hw=>hv.keep ⟨fun _ h=>h,hw⟩
 have hlt' : ∀ w : World,w0.heap.size ≤ w.heap.size → ∀ b,G b → b < w.heap.size:=fun w hw b hb=>Nat.lt_of_lt_of_le (hlt b hb) hw
 have hgl' : ∀ w : World,(∀ b,G b → w.heap[b]? = w0.heap[b]?) → GlobOk G w:=fun w hw=>hgl.keep ⟨fun _ h=>h,hw⟩
 have step : ∀ {N : Nat} {G' : Nat → Prop} {β : Nat → Value} {σ : St} {a : Act} {wa wb : World} (i : Nat),Conc (zEw Tryz.prog wa G N) G' β σ a wb → wb.heap.size = wa.heap.size → J i wa → w0.heap.size ≤ wa.heap.size → (∀ b,G b → wa.heap[b]? = w0.heap[b]?) →
   J i wb ∧ w0.heap.size ≤ wb.heap.size ∧ (∀ b,G b → wb.heap[b]? = w0.heap[b]?):=fun {N G' β σ a wa wb} i hc hs hj h1 h2=>by
  obtain ⟨g1,g2⟩:=hc.back hs;exact ⟨hJ i wa wb hj ⟨hc.fr.os,hc.fr.tape,hc.fr.output,hc.fr.size,g2⟩,by rw [hs]; exact h1,fun b hb=>(g2 b (hlt' wa h1 b hb)).trans (h2 b hb)⟩
 let St : Nat → Act → World → Prop:=fun i a w=>a.defers = [] ∧ a.tmps.size = 19 ∧ a.tmps.getD 0 undef = .func (.yield l) #[] #[] ∧ a.tmps.getD 1 undef = v ∧ a.tmps.getD 3 undef = .int .i64 ((rows.length : Int) - 1 - i) ∧ J i w ∧ w0.heap.size ≤ w.heap.size ∧ (∀ b,G b → w.heap[b]? = w0.heap[b]?)
 refine callsIn_of_wp Tryz.func96 rfl trivial ?_;generalize ha : ({ tmps:=#[Value.func (.yield l) #[] #[],v] ++ Array.replicate _ undef,defers:=[] } : Act) = a;have a0 : a.tmps.getD 0 undef = .func (.yield l) #[] #[] :=(by rw [← ha]; rfl);have a1 : a.tmps.getD 1 undef = v :=(by rw [← ha]; rfl);have az : a.tmps.size = 19 :=(by rw [← ha]; rfl);have ad : a.defers = []:=by rw [← ha]
 clear ha
 refine wpIn_seq ?_;refine wpIn_region_lit ?_;refine zHB tokW (N:=19) (K:=fun σ=>σ.env 3 = .s (.int .i64 (IntKind.i64.wrap ((rows.length : Int) - 1)))) [0,1] ?_ (zKY (G:=G) [(1,.s (.pt [.sl 8 rows]))] ad az (hlt' W hsz) (hgl' W hk) rfl (fun p hp=>by
  obtain rfl:=List.mem_singleton.1 hp;dsimp only;rw [a1]
  simp only [AVal]
  exact hrep W hk)) rfl ?_
 ·show _ = _
  rfl
 intro σ1 G1 β1 b w1 hK hc hs hfr;have b0:=(hfr 0 (by simp)).trans a0;have b1:=(hfr 1 (by simp)).trans a1;have b3:=hc.env 3;rw [hK] at b3;simp only [AVal,Rep] at b3;rw [wrap64_in (n:=(rows.length : Int) - 1) (by omega) (by omega)] at b3;have hst:=step 0 hc hs h0 hsz hk;have hS : St 0 b w1:=⟨hc.defers,hc.size,b0,b1,by rw [b3]; congr 1; omega,hst⟩
 clear hst b0 b1 b3 hK hfr hc hs a0 a1 az ad
 refine wpIn_block ?_;refine wpIn_loop (fun a w=>∃ i,i ≤ rows.length ∧ St i a w) (fun a _=>match a.tmps.getD 3 undef with | .int _ z=>(z + 1).toNat | _=>0) ⟨0,Nat.zero_le _,hS⟩ ?_;rintro a w ⟨i,hi,ad,az,a0,a1,a3,hj,hw1,hw2⟩
 refine wpIn_seq ?_;refine wpIn_seq ?_;refine wpIn_region_lit ?_;refine zHB tokW (N:=19) (K:=fun σ=>σ.env 8 = .s (.bool (decide (0 ≤ (rows.length : Int) - 1 - i)))) [0,1,3] ?_ (zKY (G:=G) [(3,.s (.int .i64 ((rows.length : Int) - 1 - i)))] ad az (hlt' w hw1) (hgl' w hw2) rfl (fun p hp=>by
  obtain rfl:=List.mem_singleton.1 hp;dsimp only;rw [a3]
  simp [AVal,Rep])) rfl ?_
 ·show _ = _
  rfl
 intro σ1 G1 β1 b w1 hK hc hs hfr;have b0:=(hfr 0 (by simp)).trans a0;have b1:=(hfr 1 (by simp)).trans a1;have b3:=(hfr 3 (by simp)).trans a3;have b8:=hc.env 8;rw [hK] at b8;simp only [AVal,Rep] at b8;obtain ⟨hj1,hw3,hw4⟩:=step i hc hs hj hw1 hw2;have bd : b.defers = []:=hc.defers;have bs : b.tmps.size = 19:=hc.size
 clear hc hK hfr hs a0 a1 ad az hj hw1 hw2
 refine wpIn_cond_split (t:=decide (0 ≤ (rows.length : Int) - 1 - i)) b8 (fun hb=>?_) (fun hb=>?_)
 ·have hb:=of_decide_eq_true hb;refine wpIn_skip ?_;obtain ⟨j,hij⟩ : ∃ j,i + j + 1 = rows.length:=⟨rows.length - 1 - i,by omega⟩
  have hz : (rows.length : Int) - 1 - i = (j : Int) :=(by omega);rw [hz] at b3;have hjl : j < rows.length :=(by omega);have hrow : rows[j]? = some rows[j]:=List.getElem?_eq_getElem hjl;have hr8:=hrl _ (List.getElem_mem hjl)
  have hgd : rows.getD ((j : Int).toNat) [] = rows[j] :=(by rw [Int.toNat_natCast,List.getD_eq_getElem?_getD,hrow]; rfl);generalize rows[j] = row at hrow hr8 hgd;refine wpIn_seq ?_;refine wpIn_block ?_;refine wpIn_seq ?_;refine wpIn_region_lit ?_;refine zF9 rfl ?_;refine zUa (ro:=none) (K:=fun a' w'=>a' = b.put (some 11) (.func (.yield l) #[] #[]) ∧ w' = w1) (by intro c e; cases e) ?_ (zBb (v:=.func (.yield l) #[] #[]) (w':=w1) (by simp [execOp,zOn,b0]) ⟨rfl,rfl⟩)
  rintro a' w' ⟨ha',hw'⟩
  rw [ha',hw']
  clear ha' hw' a' w'
  have c0 : (b.put (some 11) (.func (.yield l) #[] #[])).tmps.getD 0 undef = .func (.yield l) #[] #[]:=(zGM (by decide)).trans b0;have c1 : (b.put (some 11) (.func (.yield l) #[] #[])).tmps.getD 1 undef = v:=(zGM (by decide)).trans b1;have c3 : (b.put (some 11) (.func (.yield l) #[] #[])).tmps.getD 3 undef = .int .i64 (j : Int):=(zGM (by decide)).trans b3;have c11 : (b.put (some 11) (.func (.yield l) #[] #[])).tmps.getD 11 undef = .func (.yield l) #[] #[]:=by
   simp only [Act.put]
   rw [zF5 (by rw [bs]; decide),if_pos rfl]
  have cd : (b.put (some 11) (.func (.yield l) #[] #[])).defers = []:=(put_defers ..).trans bd;have cs : (b.put (some 11) (.func (.yield l) #[] #[])).tmps.size = 19:=(zJO ..).trans bs;generalize b.put (some 11) (.func (.yield l) #[] #[]) = c at c0 c1 c3 c11 cd cs
  clear b0 b1 b3 b8 bd bs
  refine zLa tokW (N:=19) 4 (K:=fun σ=>σ.env 12 = .s (.int .i64 (j : Int)) ∧ σ.env 15 = .s (.pt (rows.getD ((j : Int).toNat) []))) [0,1,3,11] ?_ (zKY (G:=G) [(1,.s (.pt [.sl 8 rows])),(3,.s (.int .i64 (j : Int)))] cd cs (hlt' w1 hw3) (hgl' w1 hw4) rfl (fun p hp=>by
   rcases List.mem_cons.1 hp with rfl | hp
   ·dsimp only;rw [c1]
    simp only [AVal]
    exact hrep w1 hw4
   ·obtain rfl:=List.mem_singleton.1 hp;dsimp only;rw [c3]
    simp [AVal,Rep])) rfl ?_
  ·exact ⟨⟨by omega,by omega⟩,rfl,rfl⟩
  intro σ2 G2 β2 d w2 hK hc hs hfr;have d0:=(hfr 0 (by simp)).trans c0;have d1:=(hfr 1 (by simp)).trans c1;have d3:=(hfr 3 (by simp)).trans c3;have d11:=(hfr 11 (by simp)).trans c11;have d12:=hc.env 12;have d15:=hc.env 15;obtain ⟨hgb,_⟩:=hc.back hs;rw [hK.1] at d12;rw [hK.2,hgd] at d15;simp only [AVal,Rep] at d12;have d15:=d15.keep (⟨hgb,fun _ _=>rfl⟩ : Keep G2 G w2 w2)
  simp only [AVal] at d15;obtain ⟨hj2,hw5,hw6⟩:=step i hc hs hj1 hw3 hw4;have dd : d.defers = []:=hc.defers;have ds : d.tmps.size = 19:=hc.size
  clear hc hK hfr hs c0 c1 c3 c11 cd cs hj1 hw3 hw4 hgb
  obtain ⟨r1,r2,r3,r4,r5,r6,r7,r8,rfl⟩:=zXb hr8;refine zLa tokW (N:=19) 1 (K:=fun σ=>σ.env 16 = .agg ([r1,r2,r3,r4,r5,r6,r7,r8].map .s)) [0,1,3,11,12] ?_ (zKY (G:=G) [(15,.s (.pt [r1,r2,r3,r4,r5,r6,r7,r8]))] dd ds (hlt' w2 hw5) (hgl' w2 hw6) rfl (fun p hp=>by
   obtain rfl:=List.mem_singleton.1 hp;dsimp only;simp only [AVal]
   exact d15)) rfl ?_
  ·show _ = _
   rfl
  intro σ3 G3 β3 e w3 hK hc hs hfr;have e0:=(hfr 0 (by simp)).trans d0;have e1:=(hfr 1 (by simp)).trans d1;have e3:=(hfr 3 (by simp)).trans d3;have e11:=(hfr 11 (by simp)).trans d11;have e12:=(hfr 12 (by simp)).trans d12;have e16:=hc.env 16;obtain ⟨hgb,_⟩:=hc.back hs;rw [hK] at e16;have e16:=e16.keep (⟨hgb,fun _ _=>rfl⟩ : Keep G3 G w3 w3)
  obtain ⟨hj3,hw7,hw8⟩:=step i hc hs hj2 hw5 hw6;have ed : e.defers = []:=hc.defers;have es : e.tmps.size = 19:=hc.size
  clear hc hK hfr hs d0 d1 d3 d11 d12 d15 dd ds hj2 hw5 hw6 hgb
  refine zF9 rfl ?_;have hYY:=hY i j _ (e.tmps.getD 16 undef) w3 hij hrow hj3 hw7 hw8 (fun β=>e16.beta (n:=0) (fun k hk=>by cases hk) (zL0 _))
  refine zSD (u:=.bool true) (f:=.tmp 11) (x:=.tmp 12) (y:=.tmp 16) (l:=l) rfl e11 (by rw [zOn,zOn,e12]; exact hYY) ?_;rintro ee w4 ⟨rfl,hj4,hw9,hw10⟩
  refine ⟨rfl,?_⟩
  have f0 : (e.put (some 17) (.bool true)).tmps.getD 0 undef = .func (.yield l) #[] #[]:=(zGM (by decide)).trans e0;have f1 : (e.put (some 17) (.bool true)).tmps.getD 1 undef = v:=(zGM (by decide)).trans e1;have f3 : (e.put (some 17) (.bool true)).tmps.getD 3 undef = .int .i64 (j : Int):=(zGM (by decide)).trans e3;have f17 : (e.put (some 17) (.bool true)).tmps.getD 17 undef = .bool true:=by
   simp only [Act.put]
   rw [zF5 (by rw [es]; decide),if_pos rfl]
  have fd : (e.put (some 17) (.bool true)).defers = []:=(put_defers ..).trans ed;have fs : (e.put (some 17) (.bool true)).tmps.size = 19:=(zJO ..).trans es;show wpListIn _ _ _ _ _ _ (e.put (some 17) (.bool true)) _;generalize e.put (some 17) (.bool true) = f at f0 f1 f3 f17 fd fs
  clear e0 e1 e3 e11 e12 e16 ed es hj3 hw7 hw8 hYY
  refine zHB tokW (N:=19) (K:=fun σ=>σ.env 18 = .s (.bool false)) [0,1,3] ?_ (zKY (G:=G) [(17,.s (.bool true))] fd fs (hlt' w4 hw9) (hgl' w4 hw10) rfl (fun p hp=>by
   obtain rfl:=List.mem_singleton.1 hp;dsimp only;rw [f17]
   simp [AVal,Rep])) rfl ?_
  ·show _ = _
   rfl
  intro σ5 G5 β5 g w5 hK hc hs hfr;have g0:=(hfr 0 (by simp)).trans f0;have g1:=(hfr 1 (by simp)).trans f1;have g3:=(hfr 3 (by simp)).trans f3;have g18:=hc.env 18;rw [hK] at g18;simp only [AVal,Rep] at g18;obtain ⟨hj5,hw11,hw12⟩:=step (i + 1) hc hs hj4 hw9 hw10;have gd : g.defers = []:=hc.defers;have gs : g.tmps.size = 19:=hc.size
  clear hc hK hfr hs f0 f1 f3 f17 fd fs hj4 hw9 hw10
  refine wpIn_cond_false g18 ?_;refine wpIn_skip ?_;refine wpIn_region_lit ?_;refine zHB tokW (N:=19) (K:=fun σ=>σ.env 3 = .s (.int .i64 (IntKind.i64.wrap ((j : Int) - 1)))) [0,1] ?_ (zKY (G:=G) [(3,.s (.int .i64 (j : Int)))] gd gs (hlt' w5 hw11) (hgl' w5 hw12) rfl (fun p hp=>by
   obtain rfl:=List.mem_singleton.1 hp;dsimp only;rw [g3]
   simp [AVal,Rep])) rfl ?_
  ·show _ = _
   rfl
  intro σ6 G6 β6 h w6 hK hc hs hfr;have h0':=(hfr 0 (by simp)).trans g0;have h1':=(hfr 1 (by simp)).trans g1;have h3':=hc.env 3;rw [hK] at h3';simp only [AVal,Rep] at h3';rw [wrap64_in (n:=(j : Int) - 1) (by omega) (by omega)] at h3';have hst:=step (i + 1) hc hs hj5 hw11 hw12;refine ⟨⟨i + 1,by omega,hc.defers,hc.size,h0',h1',by rw [h3']; congr 1; omega,hst⟩,?_⟩
  rw [h3',a3]
  show ((j : Int) - 1 + 1).toNat < ((rows.length : Int) - 1 - i + 1).toNat
  omega
 ·have hb:=of_decide_eq_false hb;refine wpIn_exit ?_;obtain rfl : i = rows.length :=(by omega);simp only [Exit.then,Exit.inBlock,if_true]
  exact ⟨bd,_,results_none rfl _ _ _,⟨_,rfl⟩,hj1⟩
end Go.Proofs.YtjdhkpdjecegnaaGreatDoor
namespace Go.Proofs.YtjdhkpdjecegnaaGreatDoor
open Go.Abs
theorem zWA {c : Cx} {σ σ' : Go.Abs.St} {x : Code} {Φ : Exit → Act → World → Prop} (hle : Le c σ σ') (h : TriX c x σ' Φ) : TriX c x σ Φ:=fun G β a w hc=>by
 unfold Le at hle;obtain ⟨G',β',h'⟩:=hle G β a w hc;exact h G' β' a w h'
theorem zIo {n : Nat} {ops : List zO8} : ∀ {N : Nat} {y0 : List zO8},zBd n ops N = some y0 → ∀ i,i < N →
  ∃ acc o y,zBd n ops i = some acc ∧ ops[ops.length - 1 - i]? = some o ∧ zBY n o = some y ∧ acc.length + 1 ≤ 4294967296 ∧ zBd n ops (i + 1) = some (acc ++ [y])
 | 0,_,_,i,hi=>by omega
 | N + 1,y0,h,i,hi=>by
  have h':=h;unfold zBd at h;obtain ⟨acc,h1,h⟩:=zAc h;obtain ⟨o,h2,h⟩:=zAc h;obtain ⟨y,h3,h⟩:=zAc h;obtain ⟨h4,h5⟩:=zAR h
  by_cases e : i = N
  ·subst e;exact ⟨acc,o,y,h1,h2,h3,h4,h'.trans h5.symm⟩
  ·exact zIo h1 i (by omega)
def zKU (n : Nat) (xs : List AV) (r : Ret) : Prop:=∃ (a0 : List zO8) (y0 : List zO8),zBU n a0 = some y0 ∧ xs = [.s (.sl 8 ((List.map zAi) a0))] ∧ r = .val (.s (.sl 8 ((List.map zAi) y0)))
def zHb : zAt:=zAG fun xs r=>∃ n,zKU n xs r
theorem zKc : PSound Tryz.prog 40 zHb:=by
 have gok : ∀ f s,look? f [(64,zAG zJa),(65,zJk)] = some s → PSound Tryz.prog f s:=zAu (by
  simp only [List.forall_mem_cons]
  exact ⟨zMQ,zMT,by simp⟩)
 refine zWp Tryz.call40 Tryz.func40 rfl (fun xs r h=>by obtain ⟨n,_,_,_,rfl,_⟩:=h; show 1 ≤ 16; decide) 16 rfl ?_;rintro xs r w0 G0 ⟨n,ops,y0,h,rfl,rfl⟩ _;rw [zBU] at h;obtain ⟨hl,h⟩:=zAR h;obtain ⟨acc,hacc⟩ : ∃ acc : Nat → List zO8,acc = fun i=>(zBd n ops i).getD []:=⟨_,rfl⟩
 have hfin : acc ops.length = y0 :=(by rw [hacc]; dsimp only; rw [h]; rfl);have h0 : acc 0 = [] :=(by rw [hacc]; rfl);have hst : ∀ i,i < ops.length → ∃ o y,ops[ops.length - 1 - i]? = some o ∧ zBY n o = some y ∧ (acc i).length + 1 ≤ 4294967296 ∧ acc (i + 1) = acc i ++ [y]:=fun i hi=>by
  obtain ⟨a,o,y,h1,h2,h3,h4,h5⟩:=zIo h i hi;rw [hacc]
  exact ⟨o,y,h2,h3,by dsimp only; rw [h1]; exact h4,by dsimp only; rw [h1,h5]; rfl⟩
 clear hacc
 refine zH7 rfl ?_;refine zAb [] [] rfl ?_;refine ⟨rfl,?_⟩
 refine zH7 rfl ?_;refine zAb [3] [] rfl ?_;refine ⟨rfl,?_⟩
 refine zVH ?_;refine zH7 rfl ?_;refine zAb [] [] rfl ?_;refine ⟨_,⟨_,rfl,rfl⟩,?_⟩
 refine ⟨rfl,?_⟩
 refine zWA (Le.trans (Le.takeNil 0 0 54 rfl rfl (by decide)) (Le.rnm [(0,0),(1,1)] [(3,.op 0 0),(7,.clo 96 [.s (.pt [.sl 8 ((List.map zAi) ops)])])] [(0,.box 27 [.orow 1]),(1,.row 54 8 [])] 2 ⟨rfl,rfl,trivial⟩ ⟨rfl,⟨_,rfl,rfl⟩,rfl,⟨_,rfl,rfl⟩,trivial⟩)) ?_;refine zNU ?_;refine zNV rfl rfl (sz:=8) (rows:=(List.map zAi) ops) zV5 Tryz.call96 rfl (fun r hr=>by obtain ⟨o,_,rfl⟩:=List.mem_map.1 hr; rfl) (by rw [List.length_map]; omega)
  (fun i=>(ofH [(0,.box 27 [.orow 1]),(1,.row 54 8 ((List.map zAi) (acc i)))],2)) (by dsimp only; rw [h0]; rfl) 1 (zH4 rfl) (Nat.zero_le _) (fun _=>by show 1 ≤ 2; decide) (by show 8 < 16; decide) (by show 9 < 16; decide) ?_ ?_
 ·intro i j row hij hrow l w X G B _;rw [List.length_map] at hij;obtain ⟨o,y,h1,h2,h3,h4⟩:=hst i (by omega)
  rw [show ops.length - 1 - i = j by omega] at h1;rw [List.getElem?_map,h1] at hrow;obtain rfl:=Option.some.inj hrow;obtain ⟨op_kind,op_row,op_at,op_n,op_nodes,op_slot,op_old,op_text⟩:=o;refine zAb [5] [] rfl ?_;refine ⟨rfl,fun w X G B _=>?_⟩
  refine zAl ?_;refine zAB (by exact tokW) (by exact gok) (by exact mixed) [] [] [0,1,4,5] rfl (by decide +kernel) ?_;refine ⟨_,⟨n,_,_,h2,rfl,rfl⟩,?_⟩
  obtain ⟨z_kind,z_row,z_at,z_n,z_nodes,z_slot,z_old,z_text⟩:=y;refine And.intro (by simp only [List.length_map,List.length_cons,List.length_nil]; omega) ?_;refine ⟨rfl,_,Le.rename [(0,0),(3,1)] [] [(0,.box 27 [.orow 1]),(1,.row 54 8 ((List.map zAi) (acc (i + 1))))] 2 trivial ⟨rfl,⟨_,rfl,rfl⟩,rfl,⟨_,rfl,by rw [h4,List.map_append]; rfl⟩,trivial⟩ rfl rfl rfl rfl rfl,rfl,rfl⟩
 ·intro D w2 X G2 G' β' a2 hsw hc;rw [List.length_map,hfin] at hc;show (Code.seq _ _).wpIn _ _ _ _ a2 w2;refine zTQ (c:=zEw Tryz.prog w0 G0 16) tokW hsw (fun _ h=>h) rfl rfl ?_ G' β' a2 w2 hc;refine zAa ?_;refine zAb [] [] rfl ?_;show Tri ..;refine zAh ?_;unfold zAA;exact ⟨_,Le.giveRow 1 (e:=54) (sz:=8) (rows:=(List.map zAi) y0) rfl,rfl,rfl⟩
end Go.Proofs.YtjdhkpdjecegnaaGreatDoor
namespace Go.Abs
theorem zUI {c : Cx} {G : Nat → Prop} {β : Nat → Value} {σ : St} {a : Act} {w : World} (hc : Conc c G β σ a w) {l0 : Nat} (hro : c.ro = some l0) (hl0 : ∃ r,w.heap[l0]? = some (.loop r)) {tg p1 p2 fid sz : Nat} {rows : List (List S)} {assign body : Code}
  (hit : zHX c.P fid sz) (hcall : ∀ args w,(callFunc fid args).run c.P w = .ok (.enter fid args) w) (he : σ.env tg = .clo fid [.s (.pt [.sl sz rows])]) (hrl : ∀ r ∈ rows,r.length = sz) (hlen : rows.length ≤ 4611686018427387904)
  (E : Nat → (Nat → Option Ob) × Nat) (hE : E 0 = (σ.hp,σ.nx)) (m : Nat) (hm : ∀ t,(σ.env t).lt m = true) (hm0 : c.n0 ≤ m) (hmE : ∀ i,m ≤ (E i).2) (hp1 : p1 < c.N) (hp2 : p2 < c.N)
  (hround : ∀ i j row,i + j + 1 = rows.length → rows[j]? = some row → ∀ l w X G B,Rl w X l → Tri (rcx c.P c.N m l w X G B) assign (zKj σ p1 p2 j row (E i)) (fun e σ1=>e = .normal ∧ ∀ w X G B,Rl w X l →
   Tri (rcx c.P c.N m l w X G B) body σ1 (fun e σ2=>e = .normal ∧ ∃ σ3,Le (rcx c.P c.N m l w X G B) σ2 σ3 ∧ σ3.hp = (E (i + 1)).1 ∧ σ3.nx = (E (i + 1)).2)))
  {Q : End → St → Prop} (hQ : Q .normal ⟨σ.env,(E rows.length).1,(E rows.length).2⟩) :
  (Code.rangeFunc (.tmp tg) #[p1,p2] assign body).wpIn (rF c.ro) 2 c.P (fun e a' w'=>∃ e' G' β' σ',e = zKR e' ∧ Q e' σ' ∧ Conc c G' β' σ' a' w') a w:=by
 have hg:=hc.env tg;rw [he] at hg;simp only [AVal,AVals] at hg;obtain ⟨vs,hg,v,vs',rfl,hv,rfl⟩:=hg;have hg : a.eval (.tmp tg) = .func (.func fid) #[] #[v]:=hg;have hiter:=hit G w v rows hc.lt hc.glob hv hrl hlen;rw [hro]
 obtain ⟨r0,hr0⟩:=hl0;refine wpIn_rangeFunc fun fn _=>?_
 obtain ⟨rec,hrec⟩ : ∃ rec : LoopState → Loop,rec = fun st=>{ state:=st,pending:=none,fn:=fn,tmps:=a.tmps,params:=#[p1,p2],assign:=assign,body:=body,defers:=r0.defers }:=⟨_,rfl⟩
 obtain ⟨l,hl0⟩ : ∃ l,l = w.heap.size:=⟨_,rfl⟩
 obtain ⟨W1,hW1⟩ : ∃ W1,w.alloc (.loop (rec .ready)) = W1:=⟨_,rfl⟩
 have hL1 : W1.heap[l]? = some (.loop (rec .ready)) :=(by rw [← hW1,hl0]; exact World.alloc_heap_new w _);have hc1 : Conc c G β σ a W1 :=(by rw [← hW1]; exact hc.ext (Ext.alloc0 hc.lt (.loop (rec .ready))));have hcl : c.w0.heap.size ≤ l :=(by rw [hl0]; exact hc.fr.size);refine ⟨l,[],W1,{ target:=.fn (.func fid) #[v],args:=#[.func (.yield l) #[] #[]] },W1,fid,#[.func (.yield l) #[] #[]] ++ #[v],W1,?_,?_,?_,?_,fun h=>(by cases h),?_⟩
 ·rw [← hW1,hrec,hl0]; exact run_enterLoop_inner hr0 _ _ _ _ _
 ·simp only [resolve,hg]
  simp [go_sem]
 ·intro f' hf'; trivial
 ·simp [invoke,go_sem,hcall]
 have key:=hiter l (fun i W=>W.heap[l]? = some (.loop (rec .ready)) ∧ ∃ G' β',Conc c G' β' ⟨σ.env,(E i).1,(E i).2⟩ a W ∧ (∀ b,G b → G' b) ∧ ¬ G' l) W1 (by rw [← hW1,World.size_alloc]; omega)
  (fun b hb=>by
   have hb':=hc.lt b hb;rw [← hW1,zBK _ _ hb'])
  (fun i A B ⟨h1,G',β',h3,h4⟩ hg=>⟨(hg.old l (Array.getElem?_eq_some_iff.1 h1).1).trans h1,G',β',h3.ext (hg.ext h3.lt),h4⟩)
  ?_ ⟨hL1,G,β,by rw [hE]; exact hc1,fun _ h=>h,fun h=>by have:=hc.lt _ h; omega⟩
 ·refine key.mono ?_;rintro e W3 ⟨⟨u,rfl⟩,h1,G3,β3,hc3,hG3,hnl⟩
  have hend:=run_endLoop (P:=c.P) h1 (by rw [hrec]; simp)
  rw [hrec] at hend;refine ⟨none,_,hend,?_⟩
  dsimp only;have hnol : ¬ ownB β3 (E rows.length).1 l:=hc3.not_own h1 rfl;generalize hW4 : W3.putObj l _ = W4;have hoth : ∀ b,b ≠ l → W4.heap[b]? = W3.heap[b]?:=fun b hb=>by rw [← hW4]; exact World.putObj_heap_other hb
  have hsz : W4.heap.size = W3.heap.size :=(by rw [← hW4]; exact World.putObj_size);have hfr4 : Fr c.X c.w0 W4:=⟨by rw [← hW4]; exact hc3.fr.os,by rw [← hW4]; exact hc3.fr.tape,by rw [← hW4]; exact hc3.fr.output,by rw [hsz]; exact hc3.fr.size,fun b hb hx=>(hoth b (by omega)).trans (hc3.fr.old b hb hx)⟩
  refine ⟨.normal,G3,β3,_,rfl,hQ,?_⟩
  exact hc3.re (c2:=c) (fun b hb=>hoth b fun h=>hnl (h ▸ hb)) (fun b hb=>hoth b fun h=>hnol (h ▸ hb)) (by rw [hsz]; exact Nat.le_refl _)
   hc.defers hc.size hc3.env hc3.envlt (fun b ⟨k,ob,q1,q2⟩=>(row_block (hc3.hp k ob q1) b q2).2) hc3.sub hc3.new hfr4 hc3.stay
 ·rintro i j row u W hiN hrow ⟨h1,G',β',hcW,hGG,hnl⟩ hszW hGk hval;have hy:=run_yield (P:=c.P) (args:=#[.int .i64 (j : Int),u]) h1 (by rw [hrec]; rfl)
  rw [hrec] at hy;have hnol : ¬ ownB β' (E i).1 l:=hcW.not_own h1 rfl;have hlW : l < W.heap.size:=(Array.getElem?_eq_some_iff.1 h1).1;have hkW : Keep G G' w W:=⟨hGG,fun b hb=>(hGk b hb)⟩
  have htm : ((#[p1,p2].zip #[Value.int .i64 (j : Int),u]).foldl (fun tmps (x : Nat × Value)=>tmps.setIfInBounds x.1 x.2) a.tmps) = (a.tmps.setIfInBounds p1 (.int .i64 (j : Int))).setIfInBounds p2 (u) :=(by rw [zip2]; rfl);have hy : (Instr.yield l #[.int .i64 (j : Int),u]).run c.P W = .ok (.round l fn ((a.tmps.setIfInBounds p1 (.int .i64 (j : Int))).setIfInBounds p2 (u)) assign body) W :=(by rw [← htm]; exact hy);refine ⟨fn,_,assign,body,hy,roundIn_of_wpIn trivial ?_⟩
  have hs1 : p1 < a.tmps.size :=(by rw [hcW.size]; exact hp1);have hs2 : p2 < (a.tmps.setIfInBounds p1 (.int .i64 (j : Int))).size :=(by rw [Array.size_setIfInBounds,hcW.size]; exact hp2);have hA : Conc (rcx c.P c.N m l W (ownB β' (E i).1) G' β') G' β' (zKj σ p1 p2 j row (E i)) { tmps:=(a.tmps.setIfInBounds p1 (.int .i64 (j : Int))).setIfInBounds p2 (u),defers:=[] } W:=by
   refine hcW.re (c2:=rcx c.P c.N m l W (ownB β' (E i).1) G' β') (fun _ _=>rfl) (fun _ _=>rfl) (Nat.le_refl _) rfl (by show _ = c.N; rw [Array.size_setIfInBounds,Array.size_setIfInBounds]; exact hcW.size) (fun t=>?_) (fun t=>?_) (fun b hb=>.inl hb) (fun _ h=>h) (fun _ h=>.inl h) (Fr.refl _ _) ⟨hmE i,fun _ _=>rfl⟩
   ·dsimp only;rw [zF5 hs2,zF5 hs1]
    by_cases e2 : t = p2
    ·subst e2;rw [if_pos rfl,Nat.beq_refl,cond_true]
     exact (hval β').keep ⟨hGG,fun _ _=>rfl⟩
    ·rw [if_neg e2,nbeq e2,cond_false]
     by_cases e1 : t = p1
     ·subst e1;rw [if_pos rfl,Nat.beq_refl,cond_true]
      simp [AVal,Rep]
     ·rw [if_neg e1,nbeq e1,cond_false]
      exact hcW.env t
   ·dsimp only
    by_cases e2 : t = p2
    ·subst e2; rw [Nat.beq_refl,cond_true]; simp only [AV.lt]; exact zL0 row
    ·rw [nbeq e2,cond_false]
     by_cases e1 : t = p1
     ·subst e1; rw [Nat.beq_refl,cond_true]; rfl
     ·rw [nbeq e1,cond_false]; exact hcW.envlt t
  have hTri:=hround i j row hiN hrow l W (ownB β' (E i).1) G' β' ⟨⟨_,h1⟩,hnol⟩
  unfold Tri at hTri;refine wpIn_mono (zSC (m:=0) (hTri _ _ _ _ hA)) ?_;rintro e a1 Wb ⟨e',G2,β2,σ1,rfl,⟨rfl,hbody⟩,hB⟩
  have bl : Wb.heap[l]? = W.heap[l]?:=hB.fr.old l hlW hnol;have hlb : l < Wb.heap.size:=Nat.lt_of_lt_of_le hlW hB.fr.size;have hn2l : ¬ G2 l:=fun h=>(hB.new l h).elim hnl (fun h=>h.elim hnol (fun h=>by have : W.heap.size ≤ l:=h; omega))
  refine ⟨_,run_beginRound (bl.trans h1) (by rw [hrec]),?_⟩
  generalize hW2 : Wb.putObj l _ = W2;have oth2 : ∀ b,b ≠ l → W2.heap[b]? = Wb.heap[b]?:=fun b hb=>by rw [← hW2]; exact World.putObj_heap_other hb
  have sz2 : W2.heap.size = Wb.heap.size :=(by rw [← hW2]; exact World.putObj_size);have l2 : W2.heap[l]? = some (.loop { rec .ready with state:=.busy }) :=(by rw [← hW2]; exact World.putObj_heap_same hlb);have hno1l : ¬ ownB β2 σ1.hp l:=hB.not_own (bl.trans h1) rfl;have hB2 : Conc (rcx c.P c.N m l W2 (ownB β2 σ1.hp) G2 β') G2 β2 σ1 a1 W2 :=
   hB.re (c2:=rcx c.P c.N m l W2 (ownB β2 σ1.hp) G2 β') (fun b hb=>oth2 b fun h=>hn2l (h ▸ hb)) (fun b hb=>oth2 b fun h=>hno1l (h ▸ hb)) (by rw [sz2]; exact Nat.le_refl _) hB.defers hB.size hB.env hB.envlt (fun b hb=>.inl hb) (fun _ h=>h) (fun _ h=>.inl h) (Fr.refl _ _) hB.stay
  have hTri2:=hbody W2 (ownB β2 σ1.hp) G2 β' ⟨⟨_,l2⟩,hno1l⟩
  unfold Tri at hTri2;refine wpIn_mono (zSC (m:=0) (hTri2 _ _ _ _ hB2)) ?_;rintro e a2 Wc ⟨e',G3,β3,σ2,rfl,⟨rfl,σ3,hle,hhp,hnx⟩,hC0⟩
  unfold Le at hle;obtain ⟨G4,β4,hC⟩:=hle _ _ _ _ hC0;have hl2 : l < W2.heap.size :=(by omega);have cl : Wc.heap[l]? = W2.heap[l]?:=hC.fr.old l hl2 hno1l;have hlc : l < Wc.heap.size:=Nat.lt_of_lt_of_le hl2 hC.fr.size;have hend:=run_endRound (P:=c.P) none (cl.trans l2)
  refine ⟨_,_,hend,rfl,?_⟩
  generalize hW5 : Wc.putObj l _ = W5;have oth5 : ∀ b,b ≠ l → W5.heap[b]? = Wc.heap[b]?:=fun b hb=>by rw [← hW5]; exact World.putObj_heap_other hb
  have sz5 : W5.heap.size = Wc.heap.size :=(by rw [← hW5]; exact World.putObj_size);have l5 : W5.heap[l]? = some (.loop (rec .ready)) :=(by rw [← hW5,World.putObj_heap_same hlc,hrec]; rfl);have hnol3 : ¬ ownB β4 σ3.hp l:=hC.not_own (cl.trans l2) rfl;have hn4l : ¬ G4 l:=fun h=>(hC.new l h).elim hn2l (fun h=>h.elim hno1l (fun h=>by have : W2.heap.size ≤ l:=h; omega))
  have hsub4 : ∀ b,G' b → G4 b:=fun b h=>hC.sub b (hB.sub b h)
  have hgl : ∀ b,G' b → b ≠ l:=fun b h e=>hnl (e ▸ h)
  have hkeep : ∀ b,G' b → Wc.heap[b]? = W.heap[b]?:=fun b h=>by
   have hno : ¬ ownB β' (E i).1 b:=fun ⟨k,ob,q1,q2⟩=>(row_block (hcW.hp k ob q1) b q2).1 h
   have hno2 : ¬ ownB β2 σ1.hp b:=fun ⟨k,ob,q1,q2⟩=>(row_block (hB.hp k ob q1) b q2).1 (hB.sub b h)
   have hb1:=hcW.lt b h;have hb2 : b < W2.heap.size :=(by have:=hB.lt b (hB.sub b h); omega);exact (hC.fr.old b hb2 hno2).trans ((oth2 b (hgl b h)).trans (hB.fr.old b hb1 hno))
  have hbeta : ∀ k,k < m → β4 k = β' k:=fun k hk=>hC.stay.2 k hk
  have hnxle : m ≤ σ3.nx:=hC.stay.1;have hmine1 : ∀ b,ownB β2 σ1.hp b → c.mine b:=fun b ⟨k,ob,q1,q2⟩=>by
   rcases (row_block (hB.hp k ob q1) b q2).2 with ⟨k',ob',r1,r2⟩ | h
   ·exact (row_block (hcW.hp k' ob' r1) b r2).2
   ·exact .inr (Nat.le_trans hcW.fr.size h)
  have hmine3 : ∀ b,ownB β4 σ3.hp b → c.mine b:=fun b ⟨k,ob,q1,q2⟩=>by
   rcases (row_block (hC.hp k ob q1) b q2).2 with h | h
   ·exact hmine1 b h
   ·have h : W2.heap.size ≤ b:=h;have:=hB.fr.size;simp only [rcx] at this;exact .inr (by have:=hcW.fr.size; omega)
  have hfr5 : Fr c.X c.w0 W5:=by
   refine ⟨?_,?_,?_,?_,fun b hb hx=>?_⟩
   ·rw [← hW5]; show Wc.os = _; rw [hC.fr.os]; show W2.os = _; rw [← hW2]; show Wb.os = _; rw [hB.fr.os]; exact hcW.fr.os
   ·rw [← hW5]; show Wc.tape = _; rw [hC.fr.tape]; show W2.tape = _; rw [← hW2]; show Wb.tape = _; rw [hB.fr.tape]; exact hcW.fr.tape
   ·rw [← hW5]; show Wc.output = _; rw [hC.fr.output]; show W2.output = _; rw [← hW2]; show Wb.output = _; rw [hB.fr.output]; exact hcW.fr.output
   ·have h1:=hC.fr.size;have h2:=hB.fr.size;have h3:=hcW.fr.size;simp only [rcx] at h1 h2
    omega
   ·have hno : ¬ ownB β' (E i).1 b:=fun ⟨k,ob,q1,q2⟩=>(row_block (hcW.hp k ob q1) b q2).2.elim hx (fun h=>by omega)
    have hno2 : ¬ ownB β2 σ1.hp b:=fun h=>(hmine1 b h).elim hx (fun h=>by omega)
    have hb1 : b < W.heap.size :=(by have:=hcW.fr.size; omega);have hb2 : b < W2.heap.size :=(by have:=hB.fr.size; simp only [rcx] at this; omega);have hbl : b ≠ l :=(by omega);exact (oth5 b hbl).trans ((hC.fr.old b hb2 hno2).trans ((oth2 b hbl).trans ((hB.fr.old b hb1 hno).trans (hcW.fr.old b hb hx))))
  refine ⟨⟨l5,G4,β4,?_,fun b h=>hsub4 b (hGG b h),hn4l⟩,by have h1:=hC.fr.size; have h2:=hB.fr.size; simp only [rcx] at h1 h2; omega,fun b hb=>(oth5 b (hgl b (hGG b hb))).trans ((hkeep b (hGG b hb)).trans (hGk b hb))⟩
  rw [← hhp,← hnx]
  refine hC.re (c2:=c) (fun b hb=>oth5 b fun h=>hn4l (h ▸ hb)) (fun b hb=>oth5 b fun h=>hnol3 (h ▸ hb)) (by rw [sz5]; exact Nat.le_refl _) hc.defers hc.size (fun t=>((hcW.env t).keep ⟨hsub4,hkeep⟩).beta hbeta (hm t)) (fun t=>AV.lt_mono hnxle (hm t)) hmine3
   (fun b hb=>hsub4 b (hcW.sub b hb)) (fun b hb=>?_) hfr5 ⟨Nat.le_trans hm0 hnxle,fun k hk=>(hbeta k (Nat.lt_of_lt_of_le hk hm0)).trans (hcW.stay.2 k hk)⟩
  rcases hC.new b hb with h | h
  ·rcases hB.new b h with h | h
   ·exact hcW.new b h
   ·rcases h with ⟨k',ob',r1,r2⟩ | h
    ·exact .inr (row_block (hcW.hp k' ob' r1) b r2).2
    ·exact .inr (.inr (Nat.le_trans hcW.fr.size h))
  ·rcases h with h | h
   ·exact .inr (hmine1 b h)
   ·have h : W2.heap.size ≤ b:=h;have h2:=hB.fr.size;have h3:=hcW.fr.size;simp only [rcx] at h2;exact .inr (.inr (by omega))
theorem zS8 {c : Cx} {σ : St} {Q : End → St → Prop} {l0 : Nat} (hro : c.ro = some l0) (hl0 : Rl c.w0 c.X l0) {tg p1 p2 fid sz : Nat} {rows : List (List S)} {assign body : Code}
  (hit : zHX c.P fid sz) (hcall : ∀ args w,(callFunc fid args).run c.P w = .ok (.enter fid args) w) (he : σ.env tg = .clo fid [.s (.pt [.sl sz rows])]) (hrl : ∀ r ∈ rows,r.length = sz) (hlen : rows.length ≤ 4611686018427387904)
  (E : Nat → (Nat → Option Ob) × Nat) (hE : E 0 = (σ.hp,σ.nx)) (m : Nat) (hm : ∀ t,(σ.env t).lt m = true) (hm0 : c.n0 ≤ m) (hmE : ∀ i,m ≤ (E i).2) (hp1 : p1 < c.N) (hp2 : p2 < c.N)
  (hround : ∀ i j row,i + j + 1 = rows.length → rows[j]? = some row → ∀ l w X G B,Rl w X l → Tri (rcx c.P c.N m l w X G B) assign (zKj σ p1 p2 j row (E i)) (fun e σ1=>e = .normal ∧ ∀ w X G B,Rl w X l →
   Tri (rcx c.P c.N m l w X G B) body σ1 (fun e σ2=>e = .normal ∧ ∃ σ3,Le (rcx c.P c.N m l w X G B) σ2 σ3 ∧ σ3.hp = (E (i + 1)).1 ∧ σ3.nx = (E (i + 1)).2)))
  (hQ : Q .normal ⟨σ.env,(E rows.length).1,(E rows.length).2⟩) : Tri c (.rangeFunc (.tmp tg) #[p1,p2] assign body) σ Q:=by
 unfold Tri;intro G β a w hc;obtain ⟨⟨r,hr⟩,hx⟩:=hl0;exact zUI hc hro ⟨r,(hc.fr.old l0 (Array.getElem?_eq_some_iff.1 hr).1 hx).trans hr⟩ hit hcall he hrl hlen E hE m hm hm0 hmE hp1 hp2 hround hQ
def zV1 (c : Cx) (Φ : AV → (Nat → Option Ob) → Nat → Prop) : Ending → World → Prop:=fun e w'=>∃ v G' β' x hp' n',e = .returned v ∧ Φ x hp' n' ∧ c.n0 ≤ n' ∧ Fr c.X c.w0 w' ∧ (∀ b,c.G0 b → G' b) ∧ (∀ b,G' b → c.G0 b ∨ c.mine b) ∧ (∀ b,G' b → b < w'.heap.size) ∧
 AVal G' w' β' x v ∧ x.lt n' = true ∧ HpAt c G' w' β' hp' n' ∧ ∀ k,k < c.n0 → β' k = c.B0 k
end Go.Abs
namespace Go.Abs
theorem zVG {c : Cx} {σ σ' : St} {x : Code} {Φ : Exit → Act → World → Prop} (hle : Le c σ σ') (h : TriX c x σ' Φ) : TriX c x σ Φ:=fun G β a w hc=>by
 unfold Le at hle;obtain ⟨G',β',h'⟩:=hle G β a w hc;exact h G' β' a w h'
def ΦO (x : AV) (os' : List (Option Ob)) : AV → (Nat → Option Ob) → Nat → Prop:=fun y hp' n'=>y = x ∧ x.lt os'.length = true ∧ zPV hp' os'.length 0 os'
theorem zRp {c : Cx} {T : Nat → Option TI} {rs : List ResultVar} {x : AV} {os' : List (Option Ob)} {σ : St} (h : zBV c T rs x os' σ) : zFW c T rs (ΦO x os') σ:=by
 unfold zBV at h;unfold zFW;obtain ⟨σ',h1,h2,h3,h4⟩:=h;exact ⟨σ',h1,x,h2,rfl,h3,h4⟩
theorem zU4 {c c2 : Cx} {D : Nat} {T : Nat → Option TI} (hT : TOk c2.P T) {fn : Func} {Φ : AV → (Nat → Option Ob) → Nat → Prop} {σ' : St} {G' : Nat → Prop} {β' : Nat → Value} {a' : Act} {w' : World} (hsw : Sw c c2 D) (hn : c2.n0 = c.n0) (hB : c2.B0 = c.B0) (hds : c2.ds = [{ target:=.collected D,args:=#[] }])
  (hc' : Conc c2 G' β' σ' a' w') (hq : zFW c2 T fn.results.toList Φ σ') : bodyPostM (rF none) 2 c2.P fn (zV1 c Φ) .normal a' w':=by
 show LeavesInM (rF none) 2 c2.P fn a'.tmps (zV1 c Φ) a'.defers .returning w';unfold zFW at hq;obtain ⟨σ2,hle,x,hr,hΦ⟩:=hq;unfold Le at hle;obtain ⟨G2,β2,hc2⟩:=hle G' β' a' w' hc';have hDl : D < c2.w0.heap.size:=(Array.getElem?_eq_some_iff.1 hsw.blk).1;have hD : w'.heap[D]? = some (.deferred (some [])):=(hc2.fr.old D hDl hsw.nX).trans hsw.blk;have hnG : ¬ G2 D:=fun h=>(hc2.new D h).elim hsw.nG (fun h=>h.elim hsw.nX (fun h=>by omega))
 have hnO : ¬ ownB β2 σ2.hp D:=hc2.not_own hD rfl;rw [hc'.defers,hds]
 refine ⟨by simp,.inl ⟨_,_,rfl,run_takeDeferred hD,?_⟩⟩
 generalize hW : w'.putObj D (.deferred none) = W;have oth : ∀ b,b ≠ D → W.heap[b]? = w'.heap[b]?:=fun b hb=>by rw [← hW]; exact World.putObj_heap_other hb
 have sz : W.heap.size = w'.heap.size :=(by rw [← hW]; exact World.putObj_size);have hge:=hsw.ge;have hmine : ∀ b,c2.mine b → c.mine b:=fun b hb=>by
  rcases hb with hb | hb
  ·exact hsw.mine b hb
  ·exact .inr (Nat.le_trans hsw.fr.size hb)
 have hfr : Fr c.X c.w0 W:=by
  refine ⟨?_,?_,?_,?_,fun b hb hx=>?_⟩
  ·rw [← hW]; show w'.os = _; rw [hc2.fr.os]; exact hsw.fr.os
  ·rw [← hW]; show w'.tape = _; rw [hc2.fr.tape]; exact hsw.fr.tape
  ·rw [← hW]; show w'.output = _; rw [hc2.fr.output]; exact hsw.fr.output
  ·have h1:=hc2.fr.size; have h2:=hsw.fr.size; omega
  ·have h2:=hsw.fr.size;exact (oth b (by omega)).trans ((hc2.fr.old b (by omega) (fun h=>(hsw.mine b h).elim hx (fun h=>by omega))).trans (hsw.fr.old b hb hx))
 have hc3 : Conc { c with P:=c2.P,N:=c2.N,ds:=[] } G2 β2 ⟨σ2.env,σ2.hp,σ2.nx⟩ { a' with defers:=[] } W :=
  hc2.re (c2:={ c with P:=c2.P,N:=c2.N,ds:=[] }) (fun b hb=>oth b fun h=>hnG (h ▸ hb)) (fun b hb=>oth b fun h=>hnO (h ▸ hb)) (by rw [sz]; exact Nat.le_refl _) rfl hc2.size hc2.env hc2.envlt
   (fun b ⟨k,ob,q1,q2⟩=>hmine b (row_block (hc2.hp k ob q1) b q2).2) (fun b h=>hc2.sub b (hsw.sub b h)) (fun b h=>(hc2.new b h).elim (hsw.new b) (fun h=>.inr (hmine b h))) hfr (by rw [← hn,← hB]; exact hc2.stay)
 obtain ⟨v,h1,h2⟩:=zFP (c:={ c with P:=c2.P,N:=c2.N,ds:=[] }) hT hc3 hr;exact ⟨v,h1,v,G2,β2,x,σ2.hp,σ2.nx,rfl,hΦ,hc3.stay.1,hfr,hc3.sub,hc3.new,hc3.lt,h2,zSs hc3 hr,⟨fun k ob hk=>ObAt.cx (fun _ h=>h) (hc3.hp k ob hk),hc3.hplt,hc3.inj⟩,hc3.stay.2⟩
theorem zWo {P : Program} {f : Nat} {fn : Func} {code : Code} {R : List AV → List Ob → AV → List (Option Ob) → Prop} (hcall : ∀ args w,(callFunc f args).run P w = .ok (.enter f args) w)
  (hf : P.funcs[f]? = some fn) (hb : fn.body = some code) (hn : ∀ xs os x os',R xs os x os' → xs.length ≤ fn.ntmps ∧ os.length ≤ os'.length)
  (N : Nat) (hN : fn.ntmps = N)
  (h : ∀ xs os x os' w0 G0 B0,R xs os x os' → AV.ltAll os.length xs = true → TriX (zEJ P w0 B0 os.length G0 N) code (zHh xs os) (bodyPostM (rF none) 2 P fn (zV1 (zEJ P w0 B0 os.length G0 N) (ΦO x os')))) : PSound P f (zB6 R):=by
 subst hN;refine ⟨hcall,fun G w xs vs r _ _ _ _ hpre=>hpre.elim,fun R' hR'=>?_,fun R hR=>(by cases hR)⟩
 obtain rfl : R = R' :=(by simpa [zB6] using hR');intro G w β xs vs os x os' hlt hgl hv hxl hobs hR;have hlen:=hv.length;obtain ⟨hxn,hol⟩:=hn xs os x os' hR;have hget : ∀ (k : Nat) ob,(zHh xs os).hp k = some ob → (os.map some)[k]? = some (some ob):=fun k ob hk=>by
  simp only [zHh] at hk;rw [List.getElem?_map,hk]; rfl
 have hc : Conc (zEJ P w β os.length G fn.ntmps) G β (zHh xs os) { tmps:=vs.toArray ++ Array.replicate (fn.ntmps - vs.toArray.size) undef,defers:=[] } w:={
  defers:=rfl
  size:=by simp only [Array.size_append,List.size_toArray,Array.size_replicate]; show _ = fn.ntmps; omega
  env:=fun t=>by
   simp only [zHh]
   by_cases ht : t < xs.length
   ·obtain ⟨v,h1,h2⟩:=hv.get (i:=t) (x:=xs[t]) (List.getElem?_eq_getElem ht)
    have e1 : xs.getD t .junk = xs[t] :=(by simp [List.getElem?_eq_getElem ht]);have e2 : (vs.toArray ++ Array.replicate (fn.ntmps - vs.toArray.size) undef).getD t undef = v:=by
     rw [Array.getD_eq_getD_getElem?,Array.getElem?_append_left (by simpa [hlen] using ht)]
     simp [h1]
    rw [e1,e2]; exact h2
   ·have : xs.getD t .junk = .junk :=(by simp [List.getElem?_eq_none (by omega : xs.length ≤ t)]);rw [this]; simp only [AVal]
  envlt:=fun t=>by
   simp only [zHh]
   by_cases ht : t < xs.length
   ·have e1 : xs.getD t .junk = xs[t] :=(by simp [List.getElem?_eq_getElem ht]);rw [e1]; exact zBr hxl (List.getElem?_eq_getElem ht)
   ·have : xs.getD t .junk = .junk :=(by simp [List.getElem?_eq_none (by omega : xs.length ≤ t)]);rw [this]; rfl
  hp:=fun k ob hk=>ObAt.cx (fun _ h=>h) (hobs.1 k ob (hget k ob hk)).1
  hplt:=fun k ob hk=>⟨(List.getElem?_eq_some_iff.1 hk).1,by have:=(hobs.1 k ob (hget k ob hk)).2; rwa [List.length_map] at this⟩
  inj:=fun k k' ob ob' hk hk' hne b=>hobs.2 k k' ob ob' (hget k ob hk) (hget k' ob' hk') hne b
  lt:=hlt
  sub:=fun b hb=>hb
  new:=fun b hb=>.inl hb
  fr:=Fr.refl _ _
  stay:=⟨Nat.le_refl _,fun _ _=>rfl⟩
  glob:=hgl }
 refine (callsIn_wide.1 (callsIn_of_wp_marks hf hb trivial (h xs os x os' w G β hR hxl G β _ w hc))).mono fun e w' he=>?_
 obtain ⟨v,G',β',y,hp',n',h1,⟨rfl,hxl',hh⟩,h3,h4,h5,h6,h7,h8,h9,h10,h11⟩:=he;have hg : ∀ (i : Nat) ob,os'[i]? = some (some ob) → hp' i = some ob ∧ ob.lt os'.length = true:=fun i ob hi=>by simpa using zH1 hh hi
 exact ⟨v,G',β',h1,h4,h5,h6,h7,h8,hxl',hol,
  ⟨fun i ob hi=>⟨ObAt.cx (fun _ h=>h) (h10.obs i ob (hg i ob hi).1),(hg i ob hi).2⟩,fun i j ob ob' hi hj hne b=>h10.inj i j ob ob' (hg i ob hi).1 (hg j ob' hj).1 hne b⟩,
  fun i ob hi ho=>h11 i hi⟩
end Go.Abs
