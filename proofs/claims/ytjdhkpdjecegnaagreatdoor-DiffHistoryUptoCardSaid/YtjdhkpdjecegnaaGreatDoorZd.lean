/-
  Joined out of: DzVA, DzVB, DzVC.
-/
import Derived.Test.YtjdhkpdjecegnaaGreatDoorZc
set_option linter.unusedVariables false
set_option linter.unusedSimpArgs false
set_option maxHeartbeats 2000000
set_option maxRecDepth 100000
namespace Go.Proofs.YtjdhkpdjecegnaaGreatDoor
open Go.Abs
def zPj (xs : List AV) (r : Ret) : Prop:=∃ (a0 : List UInt8) (y0 : Bool),zB3 a0 = some y0 ∧ xs = [.s (.str a0)] ∧ r = .val (.s (.bool y0))
def zKu : zAt:=zAG fun xs r=>zPj xs r
theorem zOG : PSound Tryz.prog 80 zKu:=by
 have gok : ∀ (f : Nat) (s : zAt),(fun _=>none : Nat → Option zAt) f = some s → PSound Tryz.prog f s:=fun _ _ h=>by cases h
 refine zAK tokW Tryz.call80 Tryz.func80 rfl (fun xs r h=>by obtain ⟨_,_,_,rfl,_⟩:=h; show 1 ≤ 5; decide) 5 rfl ?_;rintro xs r w0 G0 ⟨s1,y0,h,rfl,rfl⟩ _;rw [zB3] at h;refine zAa ?_;refine zAb [] [] rfl ?_;show Tri ..;refine zAa ?_;refine zAb [] [] rfl ?_;show Tri ..;refine zAh ?_;have hy:=Option.some.inj h;subst hy;unfold zAA;exact ⟨_,Le.refl _ _,rfl,rfl⟩
def zMF (n : Nat) (xs : List AV) (r : Ret) : Prop:=∃ (a0 : List UInt8) (y0 : Bool),zDb n a0 = some y0 ∧ xs = [.s (.str a0)] ∧ r = .val (.s (.bool y0))
def zIr : zAt:=zAG fun xs r=>∃ n,zMF n xs r
theorem zL9 : PSound Tryz.prog 106 zIr:=by
 have gok : ∀ (f : Nat) (s : zAt),(fun _=>none : Nat → Option zAt) f = some s → PSound Tryz.prog f s:=fun _ _ h=>by cases h
 refine zAK tokW Tryz.call106 Tryz.func106 rfl (fun xs r h=>by obtain ⟨n,_,_,_,rfl,_⟩:=h; show 1 ≤ 21; decide) 21 rfl ?_;rintro xs r w0 G0 ⟨n,s1,y0,h,rfl,rfl⟩ _;rw [zDb] at h;refine zAa ?_;refine zAb [] [] rfl ?_;show Tri ..;refine zAa ?_;refine zAa ?_;refine zAb [] [] rfl ?_;show Tri ..;obtain ⟨fl,hl,ho1⟩:=zAc h;refine zEs (fl:=fl) (fun z=>match z with | _=>⟨ofL [],fun _=>none,0⟩) ?_ (fun z σ' hz hle=>?_)
 ·refine zAl (zAI (X:=Nat × Int) (fun y=>match y with | (k,i2)=>⟨ofL [(0,.s (.str s1)),(3,.s (.int .i64 i2))],fun _=>none,0⟩) (fun y=>zBw s1 y.1 y.2 = some fl) (fun y=>y.1) (n,0) hl ?_ ?_)
  ·exact (Le.forget _ ⟨rfl,rfl,trivial⟩)
  ·rintro ⟨k,i2⟩ h;cases k with
   | zero=>cases h
   | succ k =>
    replace h : zBw s1 (k+1) i2 = some fl:=h;rw [zBw] at h;refine zAa ?_;refine zAa ?_;refine zAb [] [] rfl ?_;show Tri ..;refine zAd rfl (fun hb=>?_) (fun hb=>?_)
    ·replace h:=zAn hb h;refine zAg ?_;show Tri ..;refine zAa ?_;refine zAl ?_;refine zAa ?_;refine zAb [] [13] rfl ?_;obtain ⟨c3,hc3,h⟩:=zAc h;refine And.intro (zBh hc3).1 ?_;intro v4 hv4;obtain rfl : (c3.toNat : Int) = v4:=(hv4.trans (zBh hc3).2).symm;show Tri ..;refine zAa ?_;obtain ⟨x5,hj,h⟩:=zAc h;refine zAr ⟨ofL [(0,.s (.str s1)),(3,.s (.int .i64 i2)),(20,.s (.bool x5))],fun _=>none,0⟩ ?_ (fun σ' hle=>?_)
     ·replace h:=hj;refine zAb [] [17] rfl ?_;intro b hb;cases b with
      | true =>
       replace h:=zAn hb.symm h;cases h;exact (Le.forget _ ⟨rfl,rfl,rfl,trivial⟩)
      | false =>
       replace h:=zAm hb.symm h;cases h;exact (Le.forget _ ⟨rfl,rfl,rfl,trivial⟩)
     ·show Tri ..;refine zAj hle ?_;refine zAd rfl (fun hb=>?_) (fun hb=>?_)
      ·replace h:=zAn hb h;refine zAa ?_;refine zAb [] [] rfl ?_;show Tri ..;refine zAh ?_;cases h;replace h : some _ = some _:=ho1;have hy:=Option.some.inj h;subst hy;unfold zAA;exact ⟨_,Le.refl _ _,rfl,rfl⟩
      ·replace h:=zAm hb h;refine zAg ?_;show Tri ..;refine zAb [] [] rfl ?_;refine ⟨(k,IntKind.i64.wrap (i2 + 1)),h,(Le.forget _ ⟨rfl,rfl,trivial⟩),Nat.lt_succ_self k⟩
    ·replace h:=zAm hb h;refine zAM ?_;cases h;exact ⟨_,rfl,(Le.forget _ trivial)⟩
 ·subst hz;obtain _:=z;replace h:=ho1;show Tri ..;refine zAj hle ?_;refine zAa ?_;refine zAb [] [] rfl ?_;show Tri ..;refine zAh ?_;have hy:=Option.some.inj h;subst hy;unfold zAA;exact ⟨_,Le.refl _ _,rfl,rfl⟩
def zME (xs : List AV) (r : Ret) : Prop:=∃ (a0 : List UInt8) (y0 : Bool),zDS a0 = some y0 ∧ xs = [.s (.str a0)] ∧ r = .val (.s (.bool y0))
def zIq : zAt:=zAG fun xs r=>zME xs r
theorem zL8 : PSound Tryz.prog 108 zIq:=by
 have gok : ∀ (f : Nat) (s : zAt),(fun _=>none : Nat → Option zAt) f = some s → PSound Tryz.prog f s:=fun _ _ h=>by cases h
 refine zAK tokW Tryz.call108 Tryz.func108 rfl (fun xs r h=>by obtain ⟨_,_,_,rfl,_⟩:=h; show 1 ≤ 9; decide) 9 rfl ?_;rintro xs r w0 G0 ⟨s1,y0,h,rfl,rfl⟩ _;rw [zDS] at h;refine zAa ?_;refine zAb [] [] rfl ?_;show Tri ..;refine zAa ?_;refine zAa ?_;refine zAb [] [] rfl ?_;show Tri ..;obtain ⟨fl,hj,ho1⟩:=zAc h;refine zEs (fl:=fl) (fun z=>match z with | _=>⟨ofL [],fun _=>none,0⟩) ?_ (fun z σ' hz hle=>?_)
 ·replace h:=hj;refine zAl ?_;refine zAa ?_;refine zAa ?_;refine zAb [] [] rfl ?_;show Tri ..;obtain ⟨x2,hj,h⟩:=zAc h;refine zAr ⟨ofL [(4,.s (.bool x2))],fun _=>none,0⟩ ?_ (fun σ' hle=>?_)
  ·replace h:=hj;refine zAd rfl (fun hb=>?_) (fun hb=>?_)
   ·replace h:=zAn hb h;refine zAg ?_;cases h;exact (Le.forget _ ⟨rfl,trivial⟩)
   ·replace h:=zAm hb h;refine zAa ?_;refine zAb [] [] rfl ?_;show Tri ..;refine zAd rfl (fun hb=>?_) (fun hb=>?_)
    ·replace h:=zAn hb h;refine zAg ?_;cases h;exact (Le.forget _ ⟨rfl,trivial⟩)
    ·replace h:=zAm hb h;refine zAa ?_;refine zAb [] [] rfl ?_;show Tri ..;refine zAd rfl (fun hb=>?_) (fun hb=>?_)
     ·replace h:=zAn hb h;refine zAg ?_;cases h;exact (Le.forget _ ⟨rfl,trivial⟩)
     ·replace h:=zAm hb h;refine zAb [] [] rfl ?_;cases h;exact (Le.forget _ ⟨rfl,trivial⟩)
  ·show Tri ..;refine zAj hle ?_;refine zAd rfl (fun hb=>?_) (fun hb=>?_)
   ·replace h:=zAn hb h;refine zAa ?_;refine zAb [] [] rfl ?_;show Tri ..;refine zAh ?_;cases h;replace h : some _ = some _:=ho1;have hy:=Option.some.inj h;subst hy;unfold zAA;exact ⟨_,Le.refl _ _,rfl,rfl⟩
   ·replace h:=zAm hb h;refine zAg ?_;cases h;exact ⟨_,rfl,(Le.forget _ trivial)⟩
 ·subst hz;obtain _:=z;replace h:=ho1;show Tri ..;refine zAj hle ?_;refine zAa ?_;refine zAb [] [] rfl ?_;show Tri ..;refine zAh ?_;have hy:=Option.some.inj h;subst hy;unfold zAA;exact ⟨_,Le.refl _ _,rfl,rfl⟩
def zN6 (xs : List AV) (r : Ret) : Prop:=∃ (a0 : List UInt8) (y0 : Bool),zDA a0 = some y0 ∧ xs = [.s (.str a0)] ∧ r = .val (.s (.bool y0))
def zGO : zAt:=zAG fun xs r=>zN6 xs r
theorem zIy : PSound Tryz.prog 84 zGO:=by
 have gok : ∀ (f : Nat) (s : zAt),(fun _=>none : Nat → Option zAt) f = some s → PSound Tryz.prog f s:=fun _ _ h=>by cases h
 refine zAK tokW Tryz.call84 Tryz.func84 rfl (fun xs r h=>by obtain ⟨_,_,_,rfl,_⟩:=h; show 1 ≤ 11; decide) 11 rfl ?_;rintro xs r w0 G0 ⟨s1,y0,h,rfl,rfl⟩ _;rw [zDA] at h;refine zAa ?_;refine zAb [] [] rfl ?_;show Tri ..;refine zAa ?_;refine zAa ?_;refine zAb [] [] rfl ?_;show Tri ..;obtain ⟨fl,hj,ho1⟩:=zAc h;refine zEs (fl:=fl) (fun z=>match z with | _=>⟨ofL [],fun _=>none,0⟩) ?_ (fun z σ' hz hle=>?_)
 ·replace h:=hj;refine zAl ?_;refine zAa ?_;refine zAa ?_;refine zAb [] [] rfl ?_;show Tri ..;obtain ⟨x2,hj,h⟩:=zAc h;refine zAr ⟨ofL [(4,.s (.bool x2))],fun _=>none,0⟩ ?_ (fun σ' hle=>?_)
  ·replace h:=hj;refine zAd rfl (fun hb=>?_) (fun hb=>?_)
   ·replace h:=zAn hb h;refine zAg ?_;cases h;exact (Le.forget _ ⟨rfl,trivial⟩)
   ·replace h:=zAm hb h;refine zAa ?_;refine zAb [] [] rfl ?_;show Tri ..;refine zAd rfl (fun hb=>?_) (fun hb=>?_)
    ·replace h:=zAn hb h;refine zAg ?_;cases h;exact (Le.forget _ ⟨rfl,trivial⟩)
    ·replace h:=zAm hb h;refine zAa ?_;refine zAb [] [] rfl ?_;show Tri ..;refine zAd rfl (fun hb=>?_) (fun hb=>?_)
     ·replace h:=zAn hb h;refine zAg ?_;cases h;exact (Le.forget _ ⟨rfl,trivial⟩)
     ·replace h:=zAm hb h;refine zAa ?_;refine zAb [] [] rfl ?_;show Tri ..;refine zAd rfl (fun hb=>?_) (fun hb=>?_)
      ·replace h:=zAn hb h;refine zAg ?_;cases h;exact (Le.forget _ ⟨rfl,trivial⟩)
      ·replace h:=zAm hb h;refine zAa ?_;refine zAb [] [] rfl ?_;show Tri ..;refine zAd rfl (fun hb=>?_) (fun hb=>?_)
       ·replace h:=zAn hb h;refine zAg ?_;cases h;exact (Le.forget _ ⟨rfl,trivial⟩)
       ·replace h:=zAm hb h;refine zAb [] [] rfl ?_;cases h;exact (Le.forget _ ⟨rfl,trivial⟩)
  ·show Tri ..;refine zAj hle ?_;refine zAd rfl (fun hb=>?_) (fun hb=>?_)
   ·replace h:=zAn hb h;refine zAa ?_;refine zAb [] [] rfl ?_;show Tri ..;refine zAh ?_;cases h;replace h : some _ = some _:=ho1;have hy:=Option.some.inj h;subst hy;unfold zAA;exact ⟨_,Le.refl _ _,rfl,rfl⟩
   ·replace h:=zAm hb h;refine zAg ?_;cases h;exact ⟨_,rfl,(Le.forget _ trivial)⟩
 ·subst hz;obtain _:=z;replace h:=ho1;show Tri ..;refine zAj hle ?_;refine zAa ?_;refine zAb [] [] rfl ?_;show Tri ..;refine zAh ?_;have hy:=Option.some.inj h;subst hy;unfold zAA;exact ⟨_,Le.refl _ _,rfl,rfl⟩
def zN5 (n : Nat) (xs : List AV) (r : Ret) : Prop:=∃ (a0 : List UInt8) (y0 : Bool),zEm n a0 = some y0 ∧ xs = [.s (.str a0)] ∧ r = .val (.s (.bool y0))
def zJo : zAt:=zAG fun xs r=>∃ n,zN5 n xs r
theorem zMX : PSound Tryz.prog 81 zJo:=by
 have gok : ∀ f s,look? f [(106,zIr),(107,zF2),(108,zIq),(84,zGO)] = some s → PSound Tryz.prog f s:=zAu (by
  simp only [List.forall_mem_cons]
  exact ⟨zL9,zI0,zL8,zIy,by simp⟩)
 refine zAK tokW Tryz.call81 Tryz.func81 rfl (fun xs r h=>by obtain ⟨n,_,_,_,rfl,_⟩:=h; show 1 ≤ 34; decide) 34 rfl ?_;rintro xs r w0 G0 ⟨n,s1,y0,h,rfl,rfl⟩ _;rw [zEm] at h;refine zAa ?_;refine zAb [] [] rfl ?_;show Tri ..;refine zAa ?_;refine zAa ?_;refine zAb [] [] rfl ?_;show Tri ..;refine zAd rfl (fun hb=>?_) (fun hb=>?_)
 ·replace h:=zAn hb h;refine zAa ?_;obtain ⟨x2,hj,h⟩:=zAc h;refine zAr ⟨ofL [(2,.s (.bool x2))],fun _=>none,0⟩ ?_ (fun σ' hle=>?_)
  ·replace h:=hj;refine zAb [] [8] rfl ?_;obtain ⟨y3,hy3,h⟩:=zAc h;refine ⟨_,⟨_,_,_,hy3,rfl,rfl⟩,?_⟩
   intro b hb;cases b with
   | true =>
    replace h:=zAn hb.symm h;cases h;exact (Le.forget _ ⟨rfl,trivial⟩)
   | false =>
    replace h:=zAm hb.symm h;obtain ⟨y4,hy4,h⟩:=zAc h;refine ⟨_,⟨_,_,_,hy4,rfl,rfl⟩,?_⟩
    cases h;exact (Le.forget _ ⟨rfl,trivial⟩)
  ·show Tri ..;refine zAj hle ?_;refine zAh ?_;have hy:=Option.some.inj h;subst hy;unfold zAA;exact ⟨_,Le.refl _ _,rfl,rfl⟩
 ·replace h:=zAm hb h;refine zAg ?_;show Tri ..;refine zAa ?_;obtain ⟨x5,hj,h⟩:=zAc h;refine zAr ⟨ofL [(2,.s (.bool x5))],fun _=>none,0⟩ ?_ (fun σ' hle=>?_)
  ·replace h:=hj;refine zAb [] [15,20,24,29] rfl ?_;intro b hb;cases b with
   | true =>
    replace h:=zAn hb.symm h;intro b hb;cases b with
    | true =>
     replace h:=zAn hb.symm h;obtain ⟨y6,hy6,h⟩:=zAc h;refine ⟨_,⟨_,_,_,hy6,rfl,rfl⟩,?_⟩
     intro b hb;cases b with
     | true =>
      replace h:=zAn hb.symm h;obtain ⟨y7,hy7,h⟩:=zAc h;refine ⟨_,⟨_,_,hy7,rfl,rfl⟩,?_⟩
      intro b hb;cases b with
      | true =>
       replace h:=zAn hb.symm h;obtain ⟨y8,hy8,h⟩:=zAc h;refine ⟨_,⟨_,_,hy8,rfl,rfl⟩,?_⟩
       cases h;exact (Le.forget _ ⟨rfl,trivial⟩)
      | false =>
       replace h:=zAm hb.symm h;cases h;exact (Le.forget _ ⟨rfl,trivial⟩)
     | false =>
      replace h:=zAm hb.symm h;intro b hb;subst hb;cases h;exact (Le.forget _ ⟨rfl,trivial⟩)
    | false =>
     replace h:=zAm hb.symm h;intro b hb;subst hb;intro b hb;subst hb;cases h;exact (Le.forget _ ⟨rfl,trivial⟩)
   | false =>
    replace h:=zAm hb.symm h;intro b hb;subst hb;intro b hb;subst hb;intro b hb;subst hb;cases h;exact (Le.forget _ ⟨rfl,trivial⟩)
  ·show Tri ..;refine zAj hle ?_;refine zAh ?_;have hy:=Option.some.inj h;subst hy;unfold zAA;exact ⟨_,Le.refl _ _,rfl,rfl⟩
def zJ1 (xs : List AV) (r : Ret) : Prop:=∃ (a0 : List UInt8) (a1 : List UInt8) (y0 : List UInt8) (y1 : List UInt8) (y2 : Bool),zCJ a0 a1 = some (y0,y1,y2) ∧ xs = [.s (.str a0),.s (.str a1)] ∧ r = .val (.tup [.s (.str y0),.s (.str y1),.s (.bool y2)])
def zGr : zAt:=zAG fun xs r=>zJ1 xs r
theorem zJK : PSound Tryz.prog 121 zGr:=by
 have gok : ∀ f s,look? f [(126,zFE)] = some s → PSound Tryz.prog f s:=zAu (by
  simp only [List.forall_mem_cons]
  exact ⟨zIk,by simp⟩)
 refine zAK tokW Tryz.call121 Tryz.func121 rfl (fun xs r h=>by obtain ⟨_,_,_,_,_,_,rfl,_⟩:=h; show 2 ≤ 23; decide) 23 rfl ?_;rintro xs r w0 G0 ⟨s1,sep2,y0,y1,y2,h,rfl,rfl⟩ _;rw [zCJ] at h;refine zAa ?_;refine zAb [] [] rfl ?_;show Tri ..;refine zAa ?_;refine zAa ?_;refine zAb [] [] rfl ?_;obtain ⟨y3,hy3,h⟩:=zAc h;refine ⟨_,⟨_,_,_,hy3,rfl,rfl⟩,?_⟩
 show Tri ..;refine zAa ?_;refine zAb [] [] rfl ?_;show Tri ..;refine zAd rfl (fun hb=>?_) (fun hb=>?_)
 ·replace h:=zAn hb h;refine zAa ?_;refine zAB (by exact tokW) (by exact gok) (by exact mixed) [] [] [] rfl (by decide +kernel) ?_;obtain ⟨hq,h⟩:=zAR h;refine And.intro hq ?_;obtain ⟨hq,h⟩:=zAR h;refine And.intro hq ?_;show Tri ..;refine zAh ?_;obtain ⟨hj1,hk1⟩:=Prod.mk.inj (Option.some.inj h)
  subst hj1;obtain ⟨hj2,hk2⟩:=Prod.mk.inj hk1;subst hj2;subst hk2;unfold zAA;exact ⟨_,Le.refl _ _,rfl,rfl⟩
 ·replace h:=zAm hb h;refine zAg ?_;show Tri ..;refine zAa ?_;refine zAb [] [] rfl ?_;show Tri ..;refine zAh ?_;obtain ⟨hj1,hk1⟩:=Prod.mk.inj (Option.some.inj h)
  subst hj1;obtain ⟨hj2,hk2⟩:=Prod.mk.inj hk1;subst hj2;subst hk2;unfold zAA;exact ⟨_,Le.refl _ _,rfl,rfl⟩
def zN9 (xs : List AV) (r : Ret) : Prop:=∃ (a0 : List UInt8) (a1 : List UInt8) (y0 : List UInt8) (y1 : List UInt8) (y2 : Bool),zEp a0 a1 = some (y0,y1,y2) ∧ xs = [.s (.str a0),.s (.str a1)] ∧ r = .val (.tup [.s (.str y0),.s (.str y1),.s (.bool y2)])
def zJq : zAt:=zAG fun xs r=>zN9 xs r
theorem zMZ : PSound Tryz.prog 109 zJq:=by
 have gok : ∀ f s,look? f [(121,zGr)] = some s → PSound Tryz.prog f s:=zAu (by
  simp only [List.forall_mem_cons]
  exact ⟨zJK,by simp⟩)
 refine zAK tokW Tryz.call109 Tryz.func109 rfl (fun xs r h=>by obtain ⟨_,_,_,_,_,_,rfl,_⟩:=h; show 2 ≤ 13; decide) 13 rfl ?_;rintro xs r w0 G0 ⟨s1,sep2,y0,y1,y2,h,rfl,rfl⟩ _;rw [zEp] at h;refine zAa ?_;refine zAb [] [] rfl ?_;show Tri ..;refine zAa ?_;refine zAb [] [] rfl ?_;obtain ⟨⟨y3,y4,y5⟩,hy3,h⟩:=zAc h;refine ⟨_,⟨_,_,_,_,_,hy3,rfl,rfl⟩,?_⟩
 show Tri ..;refine zAh ?_;obtain ⟨hj1,hk1⟩:=Prod.mk.inj (Option.some.inj h)
 subst hj1;obtain ⟨hj2,hk2⟩:=Prod.mk.inj hk1;subst hj2;subst hk2;unfold zAA;exact ⟨_,Le.refl _ _,rfl,rfl⟩
def zN7 (n : Nat) (xs : List AV) (r : Ret) : Prop:=∃ (a0 : List UInt8) (y0 : Bool),zDB n a0 = some y0 ∧ xs = [.s (.str a0)] ∧ r = .val (.s (.bool y0))
def zJp : zAt:=zAG fun xs r=>∃ n,zN7 n xs r
theorem zMY : PSound Tryz.prog 110 zJp:=by
 have gok : ∀ (f : Nat) (s : zAt),(fun _=>none : Nat → Option zAt) f = some s → PSound Tryz.prog f s:=fun _ _ h=>by cases h
 refine zAK tokW Tryz.call110 Tryz.func110 rfl (fun xs r h=>by obtain ⟨n,_,_,_,rfl,_⟩:=h; show 1 ≤ 22; decide) 22 rfl ?_;rintro xs r w0 G0 ⟨n,s1,y0,h,rfl,rfl⟩ _;rw [zDB] at h;refine zAa ?_;refine zAb [] [] rfl ?_;show Tri ..;refine zAa ?_;refine zAa ?_;refine zAb [] [] rfl ?_;show Tri ..;obtain ⟨fl,hl,ho1⟩:=zAc h;refine zEs (fl:=fl) (fun z=>match z with | _=>⟨ofL [(0,.s (.str s1))],fun _=>none,0⟩) ?_ (fun z σ' hz hle=>?_)
 ·refine zAl (zAI (X:=Nat × Int) (fun y=>match y with | (k,i2)=>⟨ofL [(0,.s (.str s1)),(3,.s (.int .i64 i2))],fun _=>none,0⟩) (fun y=>zBG s1 y.1 y.2 = some fl) (fun y=>y.1) (n,0) hl ?_ ?_)
  ·exact (Le.forget _ ⟨rfl,rfl,trivial⟩)
  ·rintro ⟨k,i2⟩ h;cases k with
   | zero=>cases h
   | succ k =>
    replace h : zBG s1 (k+1) i2 = some fl:=h;rw [zBG] at h;refine zAa ?_;refine zAa ?_;refine zAb [] [] rfl ?_;show Tri ..;refine zAd rfl (fun hb=>?_) (fun hb=>?_)
    ·replace h:=zAn hb h;refine zAg ?_;show Tri ..;refine zAa ?_;refine zAl ?_;refine zAa ?_;obtain ⟨x3,hj,h⟩:=zAc h;refine zAr ⟨ofL [(0,.s (.str s1)),(3,.s (.int .i64 i2)),(19,.s (.bool x3))],fun _=>none,0⟩ ?_ (fun σ' hle=>?_)
     ·replace h:=hj;refine zAb [] [12,14,17] rfl ?_;obtain ⟨c4,hc4,h⟩:=zAc h;refine And.intro (zBh hc4).1 ?_;intro v5 hv5;obtain rfl : (c4.toNat : Int) = v5:=(hv5.trans (zBh hc4).2).symm;intro b hb;cases b with
      | true =>
       replace h:=zAn hb.symm h;cases h;exact (Le.forget _ ⟨rfl,rfl,rfl,trivial⟩)
      | false =>
       replace h:=zAm hb.symm h;obtain ⟨c6,hc6,h⟩:=zAc h;refine And.intro (zBh hc6).1 ?_;intro v7 hv7;obtain rfl : (c6.toNat : Int) = v7:=(hv7.trans (zBh hc6).2).symm;cases h;exact (Le.forget _ ⟨rfl,rfl,rfl,trivial⟩)
     ·show Tri ..;refine zAj hle ?_;refine zAd rfl (fun hb=>?_) (fun hb=>?_)
      ·replace h:=zAn hb h;refine zAa ?_;refine zAb [] [] rfl ?_;show Tri ..;refine zAh ?_;cases h;replace h : some _ = some _:=ho1;have hy:=Option.some.inj h;subst hy;unfold zAA;exact ⟨_,Le.refl _ _,rfl,rfl⟩
      ·replace h:=zAm hb h;refine zAg ?_;show Tri ..;refine zAb [] [] rfl ?_;refine ⟨(k,IntKind.i64.wrap (i2 + 1)),h,(Le.forget _ ⟨rfl,rfl,trivial⟩),Nat.lt_succ_self k⟩
    ·replace h:=zAm hb h;refine zAM ?_;cases h;exact ⟨_,rfl,(Le.forget _ ⟨rfl,trivial⟩)⟩
 ·subst hz;obtain _:=z;replace h:=ho1;show Tri ..;refine zAj hle ?_;refine zAa ?_;refine zAb [] [] rfl ?_;show Tri ..;refine zAh ?_;have hy:=Option.some.inj h;subst hy;unfold zAA;exact ⟨_,Le.refl _ _,rfl,rfl⟩
def zN4 (n : Nat) (xs : List AV) (r : Ret) : Prop:=∃ (a0 : List UInt8) (y0 : Bool),zDz n a0 = some y0 ∧ xs = [.s (.str a0)] ∧ r = .val (.s (.bool y0))
def zJn : zAt:=zAG fun xs r=>∃ n,zN4 n xs r
theorem zMW : PSound Tryz.prog 82 zJn:=by
 have gok : ∀ f s,look? f [(109,zJq),(110,zJp)] = some s → PSound Tryz.prog f s:=zAu (by
  simp only [List.forall_mem_cons]
  exact ⟨zMZ,zMY,by simp⟩)
 refine zAK tokW Tryz.call82 Tryz.func82 rfl (fun xs r h=>by obtain ⟨n,_,_,_,rfl,_⟩:=h; show 1 ≤ 27; decide) 27 rfl ?_;rintro xs r w0 G0 ⟨n,s1,y0,h,rfl,rfl⟩ _;rw [zDz] at h;refine zAa ?_;refine zAb [] [] rfl ?_;show Tri ..;refine zAa ?_;refine zAb [] [] rfl ?_;obtain ⟨⟨y2,y3,y4⟩,hy2,h⟩:=zAc h;refine ⟨_,⟨_,_,_,_,_,hy2,rfl,rfl⟩,?_⟩
 show Tri ..;refine zAa ?_;obtain ⟨x5,hj,h⟩:=zAc h;refine zAr ⟨ofL [(2,.s (.bool x5))],fun _=>none,0⟩ ?_ (fun σ' hle=>?_)
 ·replace h:=hj;refine zAb [] [15,19,22] rfl ?_;intro b hb;cases b with
  | true =>
   replace h:=zAn hb.symm h;obtain ⟨y6,hy6,h⟩:=zAc h;refine ⟨_,⟨_,_,_,hy6,rfl,rfl⟩,?_⟩
   intro b hb;cases b with
   | true =>
    replace h:=zAn hb.symm h;intro b hb;cases b with
    | true =>
     replace h:=zAn hb.symm h;cases h;exact (Le.forget _ ⟨rfl,trivial⟩)
    | false =>
     replace h:=zAm hb.symm h;obtain ⟨y7,hy7,h⟩:=zAc h;refine ⟨_,⟨_,_,_,hy7,rfl,rfl⟩,?_⟩
     cases h;exact (Le.forget _ ⟨rfl,trivial⟩)
   | false =>
    replace h:=zAm hb.symm h;cases h;exact (Le.forget _ ⟨rfl,trivial⟩)
  | false =>
   replace h:=zAm hb.symm h;intro b hb;subst hb;cases h;exact (Le.forget _ ⟨rfl,trivial⟩)
 ·show Tri ..;refine zAj hle ?_;refine zAh ?_;have hy:=Option.some.inj h;subst hy;unfold zAA;exact ⟨_,Le.refl _ _,rfl,rfl⟩
def zPm (n : Nat) (xs : List AV) (r : Ret) : Prop:=∃ (a0 : List UInt8) (y0 : Bool),zEZ n a0 = some y0 ∧ xs = [.s (.str a0)] ∧ r = .val (.s (.bool y0))
def zKw : zAt:=zAG fun xs r=>∃ n,zPm n xs r
theorem zOI : PSound Tryz.prog 83 zKw:=by
 have gok : ∀ (f : Nat) (s : zAt),(fun _=>none : Nat → Option zAt) f = some s → PSound Tryz.prog f s:=fun _ _ h=>by cases h
 refine zAK tokW Tryz.call83 Tryz.func83 rfl (fun xs r h=>by obtain ⟨n,_,_,_,rfl,_⟩:=h; show 1 ≤ 23; decide) 23 rfl ?_;rintro xs r w0 G0 ⟨n,s1,y0,h,rfl,rfl⟩ _;rw [zEZ] at h;refine zAa ?_;refine zAb [] [] rfl ?_;show Tri ..;refine zAa ?_;refine zAa ?_;refine zAb [] [] rfl ?_;show Tri ..;obtain ⟨fl,hl,ho1⟩:=zAc h;refine zEs (fl:=fl) (fun z=>match z with | _=>⟨ofL [(0,.s (.str s1))],fun _=>none,0⟩) ?_ (fun z σ' hz hle=>?_)
 ·refine zAl (zAI (X:=Nat × Int) (fun y=>match y with | (k,i2)=>⟨ofL [(0,.s (.str s1)),(3,.s (.int .i64 i2))],fun _=>none,0⟩) (fun y=>zBN s1 y.1 y.2 = some fl) (fun y=>y.1) (n,0) hl ?_ ?_)
  ·exact (Le.forget _ ⟨rfl,rfl,trivial⟩)
  ·rintro ⟨k,i2⟩ h;cases k with
   | zero=>cases h
   | succ k =>
    replace h : zBN s1 (k+1) i2 = some fl:=h;rw [zBN] at h;refine zAa ?_;refine zAa ?_;refine zAb [] [] rfl ?_;show Tri ..;refine zAd rfl (fun hb=>?_) (fun hb=>?_)
    ·replace h:=zAn hb h;refine zAg ?_;show Tri ..;refine zAa ?_;refine zAl ?_;refine zAa ?_;obtain ⟨x3,hj,h⟩:=zAc h;refine zAr ⟨ofL [(0,.s (.str s1)),(3,.s (.int .i64 i2)),(19,.s (.bool x3))],fun _=>none,0⟩ ?_ (fun σ' hle=>?_)
     ·replace h:=hj;refine zAb [] [12,14,17] rfl ?_;obtain ⟨c4,hc4,h⟩:=zAc h;refine And.intro (zBh hc4).1 ?_;intro v5 hv5;obtain rfl : (c4.toNat : Int) = v5:=(hv5.trans (zBh hc4).2).symm;intro b hb;cases b with
      | true =>
       replace h:=zAn hb.symm h;cases h;exact (Le.forget _ ⟨rfl,rfl,rfl,trivial⟩)
      | false =>
       replace h:=zAm hb.symm h;obtain ⟨c6,hc6,h⟩:=zAc h;refine And.intro (zBh hc6).1 ?_;intro v7 hv7;obtain rfl : (c6.toNat : Int) = v7:=(hv7.trans (zBh hc6).2).symm;cases h;exact (Le.forget _ ⟨rfl,rfl,rfl,trivial⟩)
     ·show Tri ..;refine zAj hle ?_;refine zAd rfl (fun hb=>?_) (fun hb=>?_)
      ·replace h:=zAn hb h;refine zAa ?_;refine zAb [] [] rfl ?_;show Tri ..;refine zAh ?_;cases h;replace h : some _ = some _:=ho1;have hy:=Option.some.inj h;subst hy;unfold zAA;exact ⟨_,Le.refl _ _,rfl,rfl⟩
      ·replace h:=zAm hb h;refine zAg ?_;show Tri ..;refine zAb [] [] rfl ?_;refine ⟨(k,IntKind.i64.wrap (i2 + 1)),h,(Le.forget _ ⟨rfl,rfl,trivial⟩),Nat.lt_succ_self k⟩
    ·replace h:=zAm hb h;refine zAM ?_;cases h;exact ⟨_,rfl,(Le.forget _ ⟨rfl,trivial⟩)⟩
 ·subst hz;obtain _:=z;replace h:=ho1;show Tri ..;refine zAj hle ?_;refine zAa ?_;refine zAb [] [] rfl ?_;show Tri ..;refine zAh ?_;have hy:=Option.some.inj h;subst hy;unfold zAA;exact ⟨_,Le.refl _ _,rfl,rfl⟩
def zPk (xs : List AV) (r : Ret) : Prop:=∃ (a0 : List UInt8) (y0 : Bool),zEY a0 = some y0 ∧ xs = [.s (.str a0)] ∧ r = .val (.s (.bool y0))
def zKv : zAt:=zAG fun xs r=>zPk xs r
theorem zOH : PSound Tryz.prog 85 zKv:=by
 have gok : ∀ f s,look? f [(111,zFD)] = some s → PSound Tryz.prog f s:=zAu (by
  simp only [List.forall_mem_cons]
  exact ⟨zIj,by simp⟩)
 refine zAK tokW Tryz.call85 Tryz.func85 rfl (fun xs r h=>by obtain ⟨_,_,_,rfl,_⟩:=h; show 1 ≤ 18; decide) 18 rfl ?_;rintro xs r w0 G0 ⟨s1,y0,h,rfl,rfl⟩ _;rw [zEY] at h;refine zAa ?_;refine zAb [] [] rfl ?_;show Tri ..;refine zAa ?_;obtain ⟨x2,hj,h⟩:=zAc h;refine zAr ⟨ofL [(2,.s (.bool x2))],fun _=>none,0⟩ ?_ (fun σ' hle=>?_)
 ·replace h:=hj;refine zAb [] [6,8,12,14] rfl ?_;intro b hb;cases b with
  | true =>
   replace h:=zAn hb.symm h;obtain ⟨c3,hc3,h⟩:=zAc h;refine And.intro (zBh hc3).1 ?_;intro v4 hv4;obtain rfl : (c3.toNat : Int) = v4:=(hv4.trans (zBh hc3).2).symm;obtain ⟨y5,hy5,h⟩:=zAc h;refine ⟨_,⟨_,_,_,hy5,rfl,rfl⟩,?_⟩
   intro b hb;cases b with
   | true =>
    replace h:=zAn hb.symm h;obtain ⟨c6,hc6,h⟩:=zAc h;refine And.intro (zBh hc6).1 ?_;intro v7 hv7;obtain rfl : (c6.toNat : Int) = v7:=(hv7.trans (zBh hc6).2).symm;obtain ⟨y8,hy8,h⟩:=zAc h;refine ⟨_,⟨_,_,_,hy8,rfl,rfl⟩,?_⟩
    cases h;exact (Le.forget _ ⟨rfl,trivial⟩)
   | false =>
    replace h:=zAm hb.symm h;cases h;exact (Le.forget _ ⟨rfl,trivial⟩)
  | false =>
   replace h:=zAm hb.symm h;intro b hb;subst hb;cases h;exact (Le.forget _ ⟨rfl,trivial⟩)
 ·show Tri ..;refine zAj hle ?_;refine zAh ?_;have hy:=Option.some.inj h;subst hy;unfold zAA;exact ⟨_,Le.refl _ _,rfl,rfl⟩
def zAq (p : Unit) : List S:=[.str [],.int .i64 0,.nf,.str [114,111,119],.int .i64 0,.fn 80,.str [115,121,109],.int .i64 0,.fn 81,.str [110,117,109],.int .i64 0,.fn 82,.str [116,101,120,116],.int .i64 0,.fn 83,.str [102,114,97,99],.int .i64 2,.fn 80,.str [114,111,111,116],.int .i64 2,.fn 80,.str [115,117,98],.int .i64 2,.fn 80,.str [115,117,112],.int .i64 2,.fn 80,.str [98,111,116,104],.int .i64 3,.fn 80,.str [97,99,99,101,110,116],.int .i64 1,.fn 84,.str [102,101,110,99,101],.int .i64 1,.fn 85,.str [109,97,116,114,105,120],.int .i64 0,.fn 80]
def zPl (xs : List AV) (r : Ret) : Prop:=∃ (y0 : Unit),zEa = some y0 ∧ xs = [] ∧ r = .val (.agg ((zAq y0).map .s))
def zHs : zAt:=zAG fun xs r=>zPl xs r
theorem zJI : PSound Tryz.prog 53 zHs:=by
 have gok : ∀ (f : Nat) (s : zAt),(fun _=>none : Nat → Option zAt) f = some s → PSound Tryz.prog f s:=fun _ _ h=>by cases h
 refine zAK tokW Tryz.call53 Tryz.func53 rfl (fun xs r h=>by obtain ⟨_,_,rfl,_⟩:=h; show 0 ≤ 14; decide) 14 rfl ?_;rintro xs r w0 G0 ⟨y0,h,rfl,rfl⟩ _;rw [zEa] at h;refine zAa ?_;refine zAb [0] [] rfl ?_;show Tri ..;refine zAa ?_;refine zAb [] [] rfl ?_;show Tri ..;refine zAh ?_;have hy:=Option.some.inj h;subst hy;unfold zAA;exact ⟨_,Le.refl _ _,rfl,rfl⟩
def zAo (p : (Unit × Int)) : List S:=[.str [],.int .i64 0,.nf,.str [114,111,119],.int .i64 0,.fn 80,.str [115,121,109],.int .i64 0,.fn 81,.str [110,117,109],.int .i64 0,.fn 82,.str [116,101,120,116],.int .i64 0,.fn 83,.str [102,114,97,99],.int .i64 2,.fn 80,.str [114,111,111,116],.int .i64 2,.fn 80,.str [115,117,98],.int .i64 2,.fn 80,.str [115,117,112],.int .i64 2,.fn 80,.str [98,111,116,104],.int .i64 3,.fn 80,.str [97,99,99,101,110,116],.int .i64 1,.fn 84,.str [102,101,110,99,101],.int .i64 1,.fn 85,.str [109,97,116,114,105,120],.int .i64 0,.fn 80,.int .i64 p.2]
def zJd (n : Nat) (xs : List AV) (os : List Ob) (x : AV) (os' : List (Option Ob)) : Prop:=∃ (a0 : (Unit × Int)) (a1 : Nd) (y0 : Bool) (z0 : (Unit × Int)),zCo n a0 a1 = some (y0,z0) ∧ xs = [.op 0 0,.s (.pt (Nd.enc a1))] ∧ os = [.box 94 ((zAo a0).map .s)] ∧ x = .s (.bool y0) ∧ os' = [some (.box 94 ((zAo z0).map .s))]
def zFZ : zAt:=zB6 (fun xs os x os'=>∃ n,zJd n xs os x os')
theorem zIX : PSound Tryz.prog 86 zFZ:=by
 have gok : ∀ f s,look? f [(80,zKu),(81,zJo),(82,zJn),(83,zKw),(84,zGO),(85,zKv)] = some s → PSound Tryz.prog f s:=zAu (by
  simp only [List.forall_mem_cons]
  exact ⟨zOG,zMX,zMW,zOI,zIy,zOH,by simp⟩)
 refine PSound.withNil (zFL tokW Tryz.call86 Tryz.func86 rfl (fun xs os x os' h=>by obtain ⟨n,_,_,_,_,_,rfl,rfl,_,rfl⟩:=h; exact ⟨by show 2 ≤ 120; decide,by show 1 ≤ 1; decide⟩) 120 rfl ?_) _;rintro xs os x os' w0 G0 B0 ⟨n,⟨_,o1E⟩,⟨a2A,a2C,a2D,a2B⟩,y0,z0,h,rfl,rfl,rfl,rfl⟩ _;rw [zCo] at h;refine zAa ?_;refine zAb [] [] rfl ?_;show Tri ..;refine zAa ?_;refine zAa ?_;obtain ⟨x3,hj,h⟩:=zAc h
 refine zAr ⟨ofL [(0,.op 0 0),(1,.s (.pt [.int .i64 a2A,.str a2C,.int .i64 a2D,.sl 4 (Nd.encs a2B)])),(34,.s (.bool x3))],ofH [(0,.box 94 [.s (.str []),.s (.int .i64 0),.s (.nf),.s (.str [114,111,119]),.s (.int .i64 0),.s (.fn 80),.s (.str [115,121,109]),.s (.int .i64 0),.s (.fn 81),.s (.str [110,117,109]),.s (.int .i64 0),.s (.fn 82),.s (.str [116,101,120,116]),.s (.int .i64 0),.s (.fn 83),.s (.str [102,114,97,99]),.s (.int .i64 2),.s (.fn 80),.s (.str [114,111,111,116]),.s (.int .i64 2),.s (.fn 80),.s (.str [115,117,98]),.s (.int .i64 2),.s (.fn 80),.s (.str [115,117,112]),.s (.int .i64 2),.s (.fn 80),.s (.str [98,111,116,104]),.s (.int .i64 3),.s (.fn 80),.s (.str [97,99,99,101,110,116]),.s (.int .i64 1),.s (.fn 84),.s (.str [102,101,110,99,101]),.s (.int .i64 1),.s (.fn 85),.s (.str [109,97,116,114,105,120]),.s (.int .i64 0),.s (.fn 80),.s (.int .i64 o1E)])],1⟩ ?_ (fun σ' hle=>?_)
 ·replace h:=hj;refine zAB (by exact tokW) (by exact gok) (by exact mixed) [] [10,17,22] [22] rfl (by decide +kernel) ?_;intro b hb;cases b with
  | true =>
   replace h:=zAn hb.symm h;intro b hb;subst hb;cases h;exact (Le.rnm [(0,0)] _ _ _ ⟨rfl,rfl,rfl,trivial⟩ ⟨rfl,⟨_,rfl,rfl⟩,trivial⟩)
  | false =>
   replace h:=zAm hb.symm h;intro b hb;cases b with
   | true =>
    replace h:=zAn hb.symm h;cases h;exact (Le.rnm [(0,0)] _ _ _ ⟨rfl,rfl,rfl,trivial⟩ ⟨rfl,⟨_,rfl,rfl⟩,trivial⟩)
   | false =>
    replace h:=zAm hb.symm h;intro vsp hvsp;cases hc : (a2A == 1) with
    | true =>
     replace h:=zAn hc h;obtain rfl : (1 : Int) = vsp:=(hvsp.trans (eq_of_beq hc)).symm;refine And.intro (by decide) ?_;obtain ⟨y4,hy4,h⟩:=zAc h;refine ⟨_,⟨_,_,hy4,rfl,rfl⟩,?_⟩
     cases h;exact (Le.rnm [(0,0)] _ _ _ ⟨rfl,rfl,rfl,trivial⟩ ⟨rfl,⟨_,rfl,rfl⟩,trivial⟩)
    | false =>
     replace h:=zAm hc h;cases hc : (a2A == 2) with
     | true =>
      replace h:=zAn hc h;obtain rfl : (2 : Int) = vsp:=(hvsp.trans (eq_of_beq hc)).symm;refine And.intro (by decide) ?_;obtain ⟨y5,hy5,h⟩:=zAc h;refine ⟨_,⟨_,_,_,hy5,rfl,rfl⟩,?_⟩
      cases h;exact (Le.rnm [(0,0)] _ _ _ ⟨rfl,rfl,rfl,trivial⟩ ⟨rfl,⟨_,rfl,rfl⟩,trivial⟩)
     | false =>
      replace h:=zAm hc h;cases hc : (a2A == 3) with
      | true =>
       replace h:=zAn hc h;obtain rfl : (3 : Int) = vsp:=(hvsp.trans (eq_of_beq hc)).symm;refine And.intro (by decide) ?_;obtain ⟨y6,hy6,h⟩:=zAc h;refine ⟨_,⟨_,_,_,hy6,rfl,rfl⟩,?_⟩
       cases h;exact (Le.rnm [(0,0)] _ _ _ ⟨rfl,rfl,rfl,trivial⟩ ⟨rfl,⟨_,rfl,rfl⟩,trivial⟩)
      | false =>
       replace h:=zAm hc h;cases hc : (a2A == 4) with
       | true =>
        replace h:=zAn hc h;obtain rfl : (4 : Int) = vsp:=(hvsp.trans (eq_of_beq hc)).symm;refine And.intro (by decide) ?_;obtain ⟨y7,hy7,h⟩:=zAc h;refine ⟨_,⟨_,_,_,hy7,rfl,rfl⟩,?_⟩
        cases h;exact (Le.rnm [(0,0)] _ _ _ ⟨rfl,rfl,rfl,trivial⟩ ⟨rfl,⟨_,rfl,rfl⟩,trivial⟩)
       | false =>
        replace h:=zAm hc h;cases hc : (a2A == 5) with
        | true =>
         replace h:=zAn hc h;obtain rfl : (5 : Int) = vsp:=(hvsp.trans (eq_of_beq hc)).symm;refine And.intro (by decide) ?_;obtain ⟨y8,hy8,h⟩:=zAc h;refine ⟨_,⟨_,_,hy8,rfl,rfl⟩,?_⟩
         cases h;exact (Le.rnm [(0,0)] _ _ _ ⟨rfl,rfl,rfl,trivial⟩ ⟨rfl,⟨_,rfl,rfl⟩,trivial⟩)
        | false =>
         replace h:=zAm hc h;cases hc : (a2A == 6) with
         | true =>
          replace h:=zAn hc h;obtain rfl : (6 : Int) = vsp:=(hvsp.trans (eq_of_beq hc)).symm;refine And.intro (by decide) ?_;obtain ⟨y9,hy9,h⟩:=zAc h;refine ⟨_,⟨_,_,hy9,rfl,rfl⟩,?_⟩
          cases h;exact (Le.rnm [(0,0)] _ _ _ ⟨rfl,rfl,rfl,trivial⟩ ⟨rfl,⟨_,rfl,rfl⟩,trivial⟩)
         | false =>
          replace h:=zAm hc h;cases hc : (a2A == 7) with
          | true =>
           replace h:=zAn hc h;obtain rfl : (7 : Int) = vsp:=(hvsp.trans (eq_of_beq hc)).symm;refine And.intro (by decide) ?_;obtain ⟨y10,hy10,h⟩:=zAc h;refine ⟨_,⟨_,_,hy10,rfl,rfl⟩,?_⟩
           cases h;exact (Le.rnm [(0,0)] _ _ _ ⟨rfl,rfl,rfl,trivial⟩ ⟨rfl,⟨_,rfl,rfl⟩,trivial⟩)
          | false =>
           replace h:=zAm hc h;cases hc : (a2A == 8) with
           | true =>
            replace h:=zAn hc h;obtain rfl : (8 : Int) = vsp:=(hvsp.trans (eq_of_beq hc)).symm;refine And.intro (by decide) ?_;obtain ⟨y11,hy11,h⟩:=zAc h;refine ⟨_,⟨_,_,hy11,rfl,rfl⟩,?_⟩
            cases h;exact (Le.rnm [(0,0)] _ _ _ ⟨rfl,rfl,rfl,trivial⟩ ⟨rfl,⟨_,rfl,rfl⟩,trivial⟩)
           | false =>
            replace h:=zAm hc h;cases hc : (a2A == 9) with
            | true =>
             replace h:=zAn hc h;obtain rfl : (9 : Int) = vsp:=(hvsp.trans (eq_of_beq hc)).symm;refine And.intro (by decide) ?_;obtain ⟨y12,hy12,h⟩:=zAc h;refine ⟨_,⟨_,_,hy12,rfl,rfl⟩,?_⟩
             cases h;exact (Le.rnm [(0,0)] _ _ _ ⟨rfl,rfl,rfl,trivial⟩ ⟨rfl,⟨_,rfl,rfl⟩,trivial⟩)
            | false =>
             replace h:=zAm hc h;cases hc : (a2A == 10) with
             | true =>
              replace h:=zAn hc h;obtain rfl : (10 : Int) = vsp:=(hvsp.trans (eq_of_beq hc)).symm;refine And.intro (by decide) ?_;obtain ⟨y13,hy13,h⟩:=zAc h;refine ⟨_,⟨_,_,hy13,rfl,rfl⟩,?_⟩
              cases h;exact (Le.rnm [(0,0)] _ _ _ ⟨rfl,rfl,rfl,trivial⟩ ⟨rfl,⟨_,rfl,rfl⟩,trivial⟩)
             | false =>
              replace h:=zAm hc h;cases hc : (a2A == 11) with
              | true =>
               replace h:=zAn hc h;obtain rfl : (11 : Int) = vsp:=(hvsp.trans (eq_of_beq hc)).symm;refine And.intro (by decide) ?_;obtain ⟨y14,hy14,h⟩:=zAc h;refine ⟨_,⟨_,_,hy14,rfl,rfl⟩,?_⟩
               cases h;exact (Le.rnm [(0,0)] _ _ _ ⟨rfl,rfl,rfl,trivial⟩ ⟨rfl,⟨_,rfl,rfl⟩,trivial⟩)
              | false =>
               replace h:=zAm hc h;cases hc : (a2A == 12) with
               | true =>
                replace h:=zAn hc h;obtain rfl : (12 : Int) = vsp:=(hvsp.trans (eq_of_beq hc)).symm;refine And.intro (by decide) ?_;obtain ⟨y15,hy15,h⟩:=zAc h;refine ⟨_,⟨_,_,hy15,rfl,rfl⟩,?_⟩
                cases h;exact (Le.rnm [(0,0)] _ _ _ ⟨rfl,rfl,rfl,trivial⟩ ⟨rfl,⟨_,rfl,rfl⟩,trivial⟩)
               | false =>
                replace h:=zAm hc h;cases h
 ·show Tri ..;refine zAj hle ?_;refine zAd rfl (fun hb=>?_) (fun hb=>?_)
  ·replace h:=zAn hb h;refine zAa ?_;refine zAb [] [] rfl ?_;show Tri ..;refine zAh ?_;obtain ⟨hj1,hk1⟩:=Prod.mk.inj (Option.some.inj h)
   subst hj1;subst hk1;unfold zBV
   exact ⟨_,(Le.rnm [(0,0)] [(4,.s (.bool false))] [(0,.box 94 [.s (.str []),.s (.int .i64 0),.s (.nf),.s (.str [114,111,119]),.s (.int .i64 0),.s (.fn 80),.s (.str [115,121,109]),.s (.int .i64 0),.s (.fn 81),.s (.str [110,117,109]),.s (.int .i64 0),.s (.fn 82),.s (.str [116,101,120,116]),.s (.int .i64 0),.s (.fn 83),.s (.str [102,114,97,99]),.s (.int .i64 2),.s (.fn 80),.s (.str [114,111,111,116]),.s (.int .i64 2),.s (.fn 80),.s (.str [115,117,98]),.s (.int .i64 2),.s (.fn 80),.s (.str [115,117,112]),.s (.int .i64 2),.s (.fn 80),.s (.str [98,111,116,104]),.s (.int .i64 3),.s (.fn 80),.s (.str [97,99,99,101,110,116]),.s (.int .i64 1),.s (.fn 84),.s (.str [102,101,110,99,101]),.s (.int .i64 1),.s (.fn 85),.s (.str [109,97,116,114,105,120]),.s (.int .i64 0),.s (.fn 80),.s (.int .i64 o1E)])] 1 ⟨rfl,trivial⟩ ⟨rfl,⟨_,rfl,rfl⟩,trivial⟩),rfl,rfl,rfl,rfl,trivial⟩
  ·replace h:=zAm hb h;refine zAg ?_;show Tri ..;refine zAa ?_;refine zAa ?_;refine zAb [] [] rfl ?_;show Tri ..;refine zAl ?_;refine zAa ?_;refine zAb [] [] rfl ?_;show Tri ..;refine zAd rfl (fun hb=>?_) (fun hb=>?_)
   ·replace h:=zAn hb h;refine zAa ?_;obtain ⟨x16,hj,h⟩:=zAc h
    refine zAr ⟨ofL [(4,.s (.bool x16))],ofH [(0,.box 94 [.s (.str []),.s (.int .i64 0),.s (.nf),.s (.str [114,111,119]),.s (.int .i64 0),.s (.fn 80),.s (.str [115,121,109]),.s (.int .i64 0),.s (.fn 81),.s (.str [110,117,109]),.s (.int .i64 0),.s (.fn 82),.s (.str [116,101,120,116]),.s (.int .i64 0),.s (.fn 83),.s (.str [102,114,97,99]),.s (.int .i64 2),.s (.fn 80),.s (.str [114,111,111,116]),.s (.int .i64 2),.s (.fn 80),.s (.str [115,117,98]),.s (.int .i64 2),.s (.fn 80),.s (.str [115,117,112]),.s (.int .i64 2),.s (.fn 80),.s (.str [98,111,116,104]),.s (.int .i64 3),.s (.fn 80),.s (.str [97,99,99,101,110,116]),.s (.int .i64 1),.s (.fn 84),.s (.str [102,101,110,99,101]),.s (.int .i64 1),.s (.fn 85),.s (.str [109,97,116,114,105,120]),.s (.int .i64 0),.s (.fn 80),.s (.int .i64 o1E)])],1⟩ ?_ (fun σ' hle=>?_)
    ·replace h:=hj;refine zAb [] [46,51] rfl ?_;intro b hb;cases b with
     | true =>
      replace h:=zAn hb.symm h;intro n17 hn17;obtain rfl : (a2B.length : Int) = n17:=(hn17.trans (congrArg (fun m : Nat=>(m : Int)) (rlen Nd.encs_eq a2B))).symm;cases h;exact (Le.rnm [(0,0)] _ _ _ ⟨rfl,trivial⟩ ⟨rfl,⟨_,rfl,rfl⟩,trivial⟩)
     | false =>
      replace h:=zAm hb.symm h;cases h;exact (Le.rnm [(0,0)] _ _ _ ⟨rfl,trivial⟩ ⟨rfl,⟨_,rfl,rfl⟩,trivial⟩)
    ·show Tri ..;refine zAj hle ?_;refine zAh ?_;obtain ⟨hj1,hk1⟩:=Prod.mk.inj (Option.some.inj h)
     subst hj1;subst hk1;unfold zBV
     exact ⟨_,(Le.rnm [(0,0)] [(4,.s (.bool x16))] [(0,.box 94 [.s (.str []),.s (.int .i64 0),.s (.nf),.s (.str [114,111,119]),.s (.int .i64 0),.s (.fn 80),.s (.str [115,121,109]),.s (.int .i64 0),.s (.fn 81),.s (.str [110,117,109]),.s (.int .i64 0),.s (.fn 82),.s (.str [116,101,120,116]),.s (.int .i64 0),.s (.fn 83),.s (.str [102,114,97,99]),.s (.int .i64 2),.s (.fn 80),.s (.str [114,111,111,116]),.s (.int .i64 2),.s (.fn 80),.s (.str [115,117,98]),.s (.int .i64 2),.s (.fn 80),.s (.str [115,117,112]),.s (.int .i64 2),.s (.fn 80),.s (.str [98,111,116,104]),.s (.int .i64 3),.s (.fn 80),.s (.str [97,99,99,101,110,116]),.s (.int .i64 1),.s (.fn 84),.s (.str [102,101,110,99,101]),.s (.int .i64 1),.s (.fn 85),.s (.str [109,97,116,114,105,120]),.s (.int .i64 0),.s (.fn 80),.s (.int .i64 o1E)])] 1 ⟨rfl,trivial⟩ ⟨rfl,⟨_,rfl,rfl⟩,trivial⟩),rfl,rfl,rfl,rfl,trivial⟩
   ·replace h:=zAm hb h;refine zAa ?_;refine zAb [] [] rfl ?_;show Tri ..;refine zAd rfl (fun hb=>?_) (fun hb=>?_)
    ·replace h:=zAn hb h;refine zAa ?_;obtain ⟨x18,hj,h⟩:=zAc h
     refine zAr ⟨ofL [(4,.s (.bool x18))],ofH [(0,.box 94 [.s (.str []),.s (.int .i64 0),.s (.nf),.s (.str [114,111,119]),.s (.int .i64 0),.s (.fn 80),.s (.str [115,121,109]),.s (.int .i64 0),.s (.fn 81),.s (.str [110,117,109]),.s (.int .i64 0),.s (.fn 82),.s (.str [116,101,120,116]),.s (.int .i64 0),.s (.fn 83),.s (.str [102,114,97,99]),.s (.int .i64 2),.s (.fn 80),.s (.str [114,111,111,116]),.s (.int .i64 2),.s (.fn 80),.s (.str [115,117,98]),.s (.int .i64 2),.s (.fn 80),.s (.str [115,117,112]),.s (.int .i64 2),.s (.fn 80),.s (.str [98,111,116,104]),.s (.int .i64 3),.s (.fn 80),.s (.str [97,99,99,101,110,116]),.s (.int .i64 1),.s (.fn 84),.s (.str [102,101,110,99,101]),.s (.int .i64 1),.s (.fn 85),.s (.str [109,97,116,114,105,120]),.s (.int .i64 0),.s (.fn 80),.s (.int .i64 o1E)])],1⟩ ?_ (fun σ' hle=>?_)
     ·replace h:=hj;refine zAB (by exact tokW) (by exact gok) (by exact mixed) [] [61,68,73,76,81,84,89] [] rfl (by decide +kernel) ?_;intro b hb;cases b with
      | true =>
       replace h:=zAn hb.symm h;intro b hb;cases b with
       | true =>
        replace h:=zAn hb.symm h;intro n19 hn19;obtain rfl : (a2B.length : Int) = n19:=(hn19.trans (congrArg (fun m : Nat=>(m : Int)) (rlen Nd.encs_eq a2B))).symm;intro b hb;cases b with
        | true =>
         replace h:=zAn hb.symm h;intro n20 hn20;obtain rfl : (a2B.length : Int) = n20:=(hn20.trans (congrArg (fun m : Nat=>(m : Int)) (rlen Nd.encs_eq a2B))).symm;intro b hb;cases b with
         | true =>
          replace h:=zAn hb.symm h;intro n21 hn21;obtain rfl : (a2B.length : Int) = n21:=(hn21.trans (congrArg (fun m : Nat=>(m : Int)) (rlen Nd.encs_eq a2B))).symm;obtain ⟨hq,h⟩:=zAR h;refine And.intro hq ?_;cases h;exact (Le.rnm [(0,0)] _ _ _ ⟨rfl,trivial⟩ ⟨rfl,⟨_,rfl,rfl⟩,trivial⟩)
         | false =>
          replace h:=zAm hb.symm h;cases h;exact (Le.rnm [(0,0)] _ _ _ ⟨rfl,trivial⟩ ⟨rfl,⟨_,rfl,rfl⟩,trivial⟩)
        | false =>
         replace h:=zAm hb.symm h;intro b hb;subst hb;cases h;exact (Le.rnm [(0,0)] _ _ _ ⟨rfl,trivial⟩ ⟨rfl,⟨_,rfl,rfl⟩,trivial⟩)
       | false =>
        replace h:=zAm hb.symm h;intro b hb;subst hb;intro b hb;subst hb;cases h;exact (Le.rnm [(0,0)] _ _ _ ⟨rfl,trivial⟩ ⟨rfl,⟨_,rfl,rfl⟩,trivial⟩)
      | false =>
       replace h:=zAm hb.symm h;intro b hb;subst hb;intro b hb;subst hb;intro b hb;subst hb;cases h;exact (Le.rnm [(0,0)] _ _ _ ⟨rfl,trivial⟩ ⟨rfl,⟨_,rfl,rfl⟩,trivial⟩)
     ·show Tri ..;refine zAj hle ?_;refine zAh ?_;obtain ⟨hj1,hk1⟩:=Prod.mk.inj (Option.some.inj h)
      subst hj1;subst hk1;unfold zBV
      exact ⟨_,(Le.rnm [(0,0)] [(4,.s (.bool x18))] [(0,.box 94 [.s (.str []),.s (.int .i64 0),.s (.nf),.s (.str [114,111,119]),.s (.int .i64 0),.s (.fn 80),.s (.str [115,121,109]),.s (.int .i64 0),.s (.fn 81),.s (.str [110,117,109]),.s (.int .i64 0),.s (.fn 82),.s (.str [116,101,120,116]),.s (.int .i64 0),.s (.fn 83),.s (.str [102,114,97,99]),.s (.int .i64 2),.s (.fn 80),.s (.str [114,111,111,116]),.s (.int .i64 2),.s (.fn 80),.s (.str [115,117,98]),.s (.int .i64 2),.s (.fn 80),.s (.str [115,117,112]),.s (.int .i64 2),.s (.fn 80),.s (.str [98,111,116,104]),.s (.int .i64 3),.s (.fn 80),.s (.str [97,99,99,101,110,116]),.s (.int .i64 1),.s (.fn 84),.s (.str [102,101,110,99,101]),.s (.int .i64 1),.s (.fn 85),.s (.str [109,97,116,114,105,120]),.s (.int .i64 0),.s (.fn 80),.s (.int .i64 o1E)])] 1 ⟨rfl,trivial⟩ ⟨rfl,⟨_,rfl,rfl⟩,trivial⟩),rfl,rfl,rfl,rfl,trivial⟩
    ·replace h:=zAm hb h;refine zAg ?_;show Tri ..;refine zAa ?_;obtain ⟨x22,hj,h⟩:=zAc h
     refine zAr ⟨ofL [(4,.s (.bool x22))],ofH [(0,.box 94 [.s (.str []),.s (.int .i64 0),.s (.nf),.s (.str [114,111,119]),.s (.int .i64 0),.s (.fn 80),.s (.str [115,121,109]),.s (.int .i64 0),.s (.fn 81),.s (.str [110,117,109]),.s (.int .i64 0),.s (.fn 82),.s (.str [116,101,120,116]),.s (.int .i64 0),.s (.fn 83),.s (.str [102,114,97,99]),.s (.int .i64 2),.s (.fn 80),.s (.str [114,111,111,116]),.s (.int .i64 2),.s (.fn 80),.s (.str [115,117,98]),.s (.int .i64 2),.s (.fn 80),.s (.str [115,117,112]),.s (.int .i64 2),.s (.fn 80),.s (.str [98,111,116,104]),.s (.int .i64 3),.s (.fn 80),.s (.str [97,99,99,101,110,116]),.s (.int .i64 1),.s (.fn 84),.s (.str [102,101,110,99,101]),.s (.int .i64 1),.s (.fn 85),.s (.str [109,97,116,114,105,120]),.s (.int .i64 0),.s (.fn 80),.s (.int .i64 o1E)])],1⟩ ?_ (fun σ' hle=>?_)
     ·replace h:=hj;refine zAB (by exact tokW) (by exact gok) (by exact mixed) [] [102,107,112] [20] rfl (by decide +kernel) ?_;intro b hb;cases b with
      | true =>
       replace h:=zAn hb.symm h;intro n23 hn23;obtain rfl : (a2B.length : Int) = n23:=(hn23.trans (congrArg (fun m : Nat=>(m : Int)) (rlen Nd.encs_eq a2B))).symm;intro vsp hvsp;cases hc : (a2A == 1) with
       | true =>
        replace h:=zAn hc h;obtain rfl : (1 : Int) = vsp:=(hvsp.trans (eq_of_beq hc)).symm;refine And.intro (by decide) ?_;cases h;exact (Le.rnm [(0,0)] _ _ _ ⟨rfl,trivial⟩ ⟨rfl,⟨_,rfl,rfl⟩,trivial⟩)
       | false =>
        replace h:=zAm hc h;cases hc : (a2A == 2) with
        | true =>
         replace h:=zAn hc h;obtain rfl : (2 : Int) = vsp:=(hvsp.trans (eq_of_beq hc)).symm;refine And.intro (by decide) ?_;cases h;exact (Le.rnm [(0,0)] _ _ _ ⟨rfl,trivial⟩ ⟨rfl,⟨_,rfl,rfl⟩,trivial⟩)
        | false =>
         replace h:=zAm hc h;cases hc : (a2A == 3) with
         | true =>
          replace h:=zAn hc h;obtain rfl : (3 : Int) = vsp:=(hvsp.trans (eq_of_beq hc)).symm;refine And.intro (by decide) ?_;cases h;exact (Le.rnm [(0,0)] _ _ _ ⟨rfl,trivial⟩ ⟨rfl,⟨_,rfl,rfl⟩,trivial⟩)
         | false =>
          replace h:=zAm hc h;cases hc : (a2A == 4) with
          | true =>
           replace h:=zAn hc h;obtain rfl : (4 : Int) = vsp:=(hvsp.trans (eq_of_beq hc)).symm;refine And.intro (by decide) ?_;cases h;exact (Le.rnm [(0,0)] _ _ _ ⟨rfl,trivial⟩ ⟨rfl,⟨_,rfl,rfl⟩,trivial⟩)
          | false =>
           replace h:=zAm hc h;cases hc : (a2A == 5) with
           | true =>
            replace h:=zAn hc h;obtain rfl : (5 : Int) = vsp:=(hvsp.trans (eq_of_beq hc)).symm;refine And.intro (by decide) ?_;cases h;exact (Le.rnm [(0,0)] _ _ _ ⟨rfl,trivial⟩ ⟨rfl,⟨_,rfl,rfl⟩,trivial⟩)
           | false =>
            replace h:=zAm hc h;cases hc : (a2A == 6) with
            | true =>
             replace h:=zAn hc h;obtain rfl : (6 : Int) = vsp:=(hvsp.trans (eq_of_beq hc)).symm;refine And.intro (by decide) ?_;cases h;exact (Le.rnm [(0,0)] _ _ _ ⟨rfl,trivial⟩ ⟨rfl,⟨_,rfl,rfl⟩,trivial⟩)
            | false =>
             replace h:=zAm hc h;cases hc : (a2A == 7) with
             | true =>
              replace h:=zAn hc h;obtain rfl : (7 : Int) = vsp:=(hvsp.trans (eq_of_beq hc)).symm;refine And.intro (by decide) ?_;cases h;exact (Le.rnm [(0,0)] _ _ _ ⟨rfl,trivial⟩ ⟨rfl,⟨_,rfl,rfl⟩,trivial⟩)
             | false =>
              replace h:=zAm hc h;cases hc : (a2A == 8) with
              | true =>
               replace h:=zAn hc h;obtain rfl : (8 : Int) = vsp:=(hvsp.trans (eq_of_beq hc)).symm;refine And.intro (by decide) ?_;cases h;exact (Le.rnm [(0,0)] _ _ _ ⟨rfl,trivial⟩ ⟨rfl,⟨_,rfl,rfl⟩,trivial⟩)
              | false =>
               replace h:=zAm hc h;cases hc : (a2A == 9) with
               | true =>
                replace h:=zAn hc h;obtain rfl : (9 : Int) = vsp:=(hvsp.trans (eq_of_beq hc)).symm;refine And.intro (by decide) ?_;cases h;exact (Le.rnm [(0,0)] _ _ _ ⟨rfl,trivial⟩ ⟨rfl,⟨_,rfl,rfl⟩,trivial⟩)
               | false =>
                replace h:=zAm hc h;cases hc : (a2A == 10) with
                | true =>
                 replace h:=zAn hc h;obtain rfl : (10 : Int) = vsp:=(hvsp.trans (eq_of_beq hc)).symm;refine And.intro (by decide) ?_;cases h;exact (Le.rnm [(0,0)] _ _ _ ⟨rfl,trivial⟩ ⟨rfl,⟨_,rfl,rfl⟩,trivial⟩)
                | false =>
                 replace h:=zAm hc h;cases hc : (a2A == 11) with
                 | true =>
                  replace h:=zAn hc h;obtain rfl : (11 : Int) = vsp:=(hvsp.trans (eq_of_beq hc)).symm;refine And.intro (by decide) ?_;cases h;exact (Le.rnm [(0,0)] _ _ _ ⟨rfl,trivial⟩ ⟨rfl,⟨_,rfl,rfl⟩,trivial⟩)
                 | false =>
                  replace h:=zAm hc h;cases hc : (a2A == 12) with
                  | true =>
                   replace h:=zAn hc h;obtain rfl : (12 : Int) = vsp:=(hvsp.trans (eq_of_beq hc)).symm;refine And.intro (by decide) ?_;cases h;exact (Le.rnm [(0,0)] _ _ _ ⟨rfl,trivial⟩ ⟨rfl,⟨_,rfl,rfl⟩,trivial⟩)
                  | false =>
                   replace h:=zAm hc h;cases h
      | false =>
       replace h:=zAm hb.symm h;cases h;exact (Le.rnm [(0,0)] _ _ _ ⟨rfl,trivial⟩ ⟨rfl,⟨_,rfl,rfl⟩,trivial⟩)
     ·show Tri ..;refine zAj hle ?_;refine zAh ?_;obtain ⟨hj1,hk1⟩:=Prod.mk.inj (Option.some.inj h)
      subst hj1;subst hk1;unfold zBV
      exact ⟨_,(Le.rnm [(0,0)] [(4,.s (.bool x22))] [(0,.box 94 [.s (.str []),.s (.int .i64 0),.s (.nf),.s (.str [114,111,119]),.s (.int .i64 0),.s (.fn 80),.s (.str [115,121,109]),.s (.int .i64 0),.s (.fn 81),.s (.str [110,117,109]),.s (.int .i64 0),.s (.fn 82),.s (.str [116,101,120,116]),.s (.int .i64 0),.s (.fn 83),.s (.str [102,114,97,99]),.s (.int .i64 2),.s (.fn 80),.s (.str [114,111,111,116]),.s (.int .i64 2),.s (.fn 80),.s (.str [115,117,98]),.s (.int .i64 2),.s (.fn 80),.s (.str [115,117,112]),.s (.int .i64 2),.s (.fn 80),.s (.str [98,111,116,104]),.s (.int .i64 3),.s (.fn 80),.s (.str [97,99,99,101,110,116]),.s (.int .i64 1),.s (.fn 84),.s (.str [102,101,110,99,101]),.s (.int .i64 1),.s (.fn 85),.s (.str [109,97,116,114,105,120]),.s (.int .i64 0),.s (.fn 80),.s (.int .i64 o1E)])] 1 ⟨rfl,trivial⟩ ⟨rfl,⟨_,rfl,rfl⟩,trivial⟩),rfl,rfl,rfl,rfl,trivial⟩
def zB7 (n : Nat) (xs : List AV) (os : List Ob) (x : AV) (os' : List (Option Ob)) : Prop:=∃ (a0 : (Unit × Int)) (a1 : Nd) (a2 : Int) (y0 : Bool) (z0 : (Unit × Int)),zBa n a0 a1 a2 = some (y0,z0) ∧ xs = [.op 0 0,.s (.pt (Nd.enc a1)),.s (.int .i64 a2)] ∧ os = [.box 94 ((zAo a0).map .s)] ∧ x = .s (.bool y0) ∧ os' = [some (.box 94 ((zAo z0).map .s))]
theorem zHm (n : Nat) (ih : PSound Tryz.prog 54 (zB6 (zB7 n))) : PSound Tryz.prog 54 (zB6 (zB7 (n + 1))):=by
 have gok : ∀ f s,look? f [(86,zFZ),(54,zB6 (zB7 n))] = some s → PSound Tryz.prog f s:=zAu (by
  simp only [List.forall_mem_cons]
  exact ⟨zIX,ih,by simp⟩)
 refine PSound.withNil (zFL tokW Tryz.call54 Tryz.func54 rfl (fun xs os x os' h=>by obtain ⟨_,_,_,_,_,_,rfl,rfl,_,rfl⟩:=h; exact ⟨by show 3 ≤ 67; decide,by show 1 ≤ 1; decide⟩) 67 rfl ?_) _;rintro xs os x os' w0 G0 B0 ⟨⟨_,o1E⟩,⟨a2A,a2C,a2D,a2B⟩,a3,y0,z0,h,rfl,rfl,rfl,rfl⟩ _;rw [zBa] at h;refine zAa ?_;refine zAb [] [] rfl ?_;show Tri ..;refine zAa ?_;refine zAb [] [] rfl ?_;show Tri ..;refine zAa ?_;refine zAa ?_;obtain ⟨⟨x4,x5⟩,hj,h⟩:=zAc h
 refine zAr ⟨ofL [(0,.op 0 0),(1,.s (.pt [.int .i64 a2A,.str a2C,.int .i64 a2D,.sl 4 (Nd.encs a2B)])),(2,.s (.int .i64 a3)),(29,.s (.bool x4))],ofH [(0,.box 94 [.s (.str []),.s (.int .i64 0),.s (.nf),.s (.str [114,111,119]),.s (.int .i64 0),.s (.fn 80),.s (.str [115,121,109]),.s (.int .i64 0),.s (.fn 81),.s (.str [110,117,109]),.s (.int .i64 0),.s (.fn 82),.s (.str [116,101,120,116]),.s (.int .i64 0),.s (.fn 83),.s (.str [102,114,97,99]),.s (.int .i64 2),.s (.fn 80),.s (.str [114,111,111,116]),.s (.int .i64 2),.s (.fn 80),.s (.str [115,117,98]),.s (.int .i64 2),.s (.fn 80),.s (.str [115,117,112]),.s (.int .i64 2),.s (.fn 80),.s (.str [98,111,116,104]),.s (.int .i64 3),.s (.fn 80),.s (.str [97,99,99,101,110,116]),.s (.int .i64 1),.s (.fn 84),.s (.str [102,101,110,99,101]),.s (.int .i64 1),.s (.fn 85),.s (.str [109,97,116,114,105,120]),.s (.int .i64 0),.s (.fn 80),.s (.int .i64 x5)])],1⟩ ?_ (fun σ' hle=>?_)
 ·replace h:=hj;refine zAb [] [20,24] rfl ?_;intro b hb;cases b with
  | true =>
   replace h:=zAn hb.symm h;intro b hb;subst hb;cases h;exact (Le.rnm [(0,0)] _ _ _ ⟨rfl,rfl,rfl,rfl,trivial⟩ ⟨rfl,⟨_,rfl,rfl⟩,trivial⟩)
  | false =>
   replace h:=zAm hb.symm h;intro b hb;cases b with
   | true =>
    replace h:=zAn hb.symm h;cases h;exact (Le.rnm [(0,0)] _ _ _ ⟨rfl,rfl,rfl,rfl,trivial⟩ ⟨rfl,⟨_,rfl,rfl⟩,trivial⟩)
   | false =>
    replace h:=zAm hb.symm h;obtain ⟨⟨y6,⟨_,w7E⟩⟩,hy6,h⟩:=zAc h;refine ⟨_,_,⟨_,_,_,_,_,hy6,rfl,rfl,rfl,rfl⟩,?_⟩
    cases h;exact (Le.rnm [(0,0)] _ _ _ ⟨rfl,rfl,rfl,rfl,trivial⟩ ⟨rfl,⟨_,rfl,rfl⟩,trivial⟩)
 ·show Tri ..;refine zAj hle ?_;refine zAd rfl (fun hb=>?_) (fun hb=>?_)
  ·replace h:=zAn hb h;refine zAa ?_;refine zAb [] [] rfl ?_;show Tri ..;refine zAh ?_;obtain ⟨hj1,hk1⟩:=Prod.mk.inj (Option.some.inj h)
   subst hj1;subst hk1;unfold zBV
   exact ⟨_,(Le.rnm [(0,0)] [(6,.s (.bool false))] [(0,.box 94 [.s (.str []),.s (.int .i64 0),.s (.nf),.s (.str [114,111,119]),.s (.int .i64 0),.s (.fn 80),.s (.str [115,121,109]),.s (.int .i64 0),.s (.fn 81),.s (.str [110,117,109]),.s (.int .i64 0),.s (.fn 82),.s (.str [116,101,120,116]),.s (.int .i64 0),.s (.fn 83),.s (.str [102,114,97,99]),.s (.int .i64 2),.s (.fn 80),.s (.str [114,111,111,116]),.s (.int .i64 2),.s (.fn 80),.s (.str [115,117,98]),.s (.int .i64 2),.s (.fn 80),.s (.str [115,117,112]),.s (.int .i64 2),.s (.fn 80),.s (.str [98,111,116,104]),.s (.int .i64 3),.s (.fn 80),.s (.str [97,99,99,101,110,116]),.s (.int .i64 1),.s (.fn 84),.s (.str [102,101,110,99,101]),.s (.int .i64 1),.s (.fn 85),.s (.str [109,97,116,114,105,120]),.s (.int .i64 0),.s (.fn 80),.s (.int .i64 x5)])] 1 ⟨rfl,trivial⟩ ⟨rfl,⟨_,rfl,rfl⟩,trivial⟩),rfl,rfl,rfl,rfl,trivial⟩
  ·replace h:=zAm hb h;refine zAg ?_;show Tri ..;refine zAa ?_;refine zAa ?_;refine zAb [] [34] rfl ?_;intro n8 hn8;obtain rfl : (a2B.length : Int) = n8:=(hn8.trans (congrArg (fun m : Nat=>(m : Int)) (rlen Nd.encs_eq a2B))).symm;show Tri ..;obtain ⟨fl,hl,ho1⟩:=zAc h
   refine zEs (fl:=fl) (fun z=>match z with | x11=>⟨ofL [],ofH [(0,.box 94 [.s (.str []),.s (.int .i64 0),.s (.nf),.s (.str [114,111,119]),.s (.int .i64 0),.s (.fn 80),.s (.str [115,121,109]),.s (.int .i64 0),.s (.fn 81),.s (.str [110,117,109]),.s (.int .i64 0),.s (.fn 82),.s (.str [116,101,120,116]),.s (.int .i64 0),.s (.fn 83),.s (.str [102,114,97,99]),.s (.int .i64 2),.s (.fn 80),.s (.str [114,111,111,116]),.s (.int .i64 2),.s (.fn 80),.s (.str [115,117,98]),.s (.int .i64 2),.s (.fn 80),.s (.str [115,117,112]),.s (.int .i64 2),.s (.fn 80),.s (.str [98,111,116,104]),.s (.int .i64 3),.s (.fn 80),.s (.str [97,99,99,101,110,116]),.s (.int .i64 1),.s (.fn 84),.s (.str [102,101,110,99,101]),.s (.int .i64 1),.s (.fn 85),.s (.str [109,97,116,114,105,120]),.s (.int .i64 0),.s (.fn 80),.s (.int .i64 x11)])],1⟩) ?_ (fun x11 σ' hz hle=>?_)
   ·refine zAl (zAI (X:=Nat × Int × Int) (fun y=>match y with | (k,x9,x10)=>⟨ofL [(0,.op 0 0),(1,.s (.pt [.int .i64 a2A,.str a2C,.int .i64 a2D,.sl 4 (Nd.encs a2B)])),(2,.s (.int .i64 a3)),(34,.s (.int .i64 (a2B.length : Int))),(35,.s (.int .i64 x10))],ofH [(0,.box 94 [.s (.str []),.s (.int .i64 0),.s (.nf),.s (.str [114,111,119]),.s (.int .i64 0),.s (.fn 80),.s (.str [115,121,109]),.s (.int .i64 0),.s (.fn 81),.s (.str [110,117,109]),.s (.int .i64 0),.s (.fn 82),.s (.str [116,101,120,116]),.s (.int .i64 0),.s (.fn 83),.s (.str [102,114,97,99]),.s (.int .i64 2),.s (.fn 80),.s (.str [114,111,111,116]),.s (.int .i64 2),.s (.fn 80),.s (.str [115,117,98]),.s (.int .i64 2),.s (.fn 80),.s (.str [115,117,112]),.s (.int .i64 2),.s (.fn 80),.s (.str [98,111,116,104]),.s (.int .i64 3),.s (.fn 80),.s (.str [97,99,99,101,110,116]),.s (.int .i64 1),.s (.fn 84),.s (.str [102,101,110,99,101]),.s (.int .i64 1),.s (.fn 85),.s (.str [109,97,116,114,105,120]),.s (.int .i64 0),.s (.fn 80),.s (.int .i64 x9)])],1⟩) (fun y=>zA0 (zBa n) a2A a2B a3 y.1 y.2.1 y.2.2 = some fl) (fun y=>y.1) (n,x5,0) hl ?_ ?_)
    ·exact (Le.rnm [(0,0)] _ _ _ ⟨rfl,rfl,rfl,rfl,rfl,trivial⟩ ⟨rfl,⟨_,rfl,rfl⟩,trivial⟩)
    ·rintro ⟨k,x9,x10⟩ h;cases k with
     | zero=>cases h
     | succ k =>
      replace h : zA0 (zBa n) a2A a2B a3 (k+1) x9 x10 = some fl:=h;rw [zA0] at h;refine zAa ?_;refine zAb [] [] rfl ?_;show Tri ..;refine zAa ?_;refine zAd rfl (fun hb=>?_) (fun hb=>?_)
      ·replace h:=zAn hb h;refine zAg ?_;show Tri ..;refine zAa ?_;refine zAl ?_;refine zAa ?_;refine zAb [] [] rfl ?_;show Tri ..;refine zAa ?_;obtain ⟨⟨x12,x13⟩,hj,h⟩:=zAc h
       refine zAr ⟨ofL [(0,.op 0 0),(1,.s (.pt [.int .i64 a2A,.str a2C,.int .i64 a2D,.sl 4 (Nd.encs a2B)])),(2,.s (.int .i64 a3)),(34,.s (.int .i64 (a2B.length : Int))),(35,.s (.int .i64 x10)),(65,.s (.bool x12))],ofH [(0,.box 94 [.s (.str []),.s (.int .i64 0),.s (.nf),.s (.str [114,111,119]),.s (.int .i64 0),.s (.fn 80),.s (.str [115,121,109]),.s (.int .i64 0),.s (.fn 81),.s (.str [110,117,109]),.s (.int .i64 0),.s (.fn 82),.s (.str [116,101,120,116]),.s (.int .i64 0),.s (.fn 83),.s (.str [102,114,97,99]),.s (.int .i64 2),.s (.fn 80),.s (.str [114,111,111,116]),.s (.int .i64 2),.s (.fn 80),.s (.str [115,117,98]),.s (.int .i64 2),.s (.fn 80),.s (.str [115,117,112]),.s (.int .i64 2),.s (.fn 80),.s (.str [98,111,116,104]),.s (.int .i64 3),.s (.fn 80),.s (.str [97,99,99,101,110,116]),.s (.int .i64 1),.s (.fn 84),.s (.str [102,101,110,99,101]),.s (.int .i64 1),.s (.fn 85),.s (.str [109,97,116,114,105,120]),.s (.int .i64 0),.s (.fn 80),.s (.int .i64 x13)])],1⟩ ?_ (fun σ' hle=>?_)
       ·replace h:=hj;refine zAB (by exact tokW) (by exact gok) (by exact mixed) [] [48,53,60] [25] rfl (by decide +kernel) ?_;obtain ⟨⟨e14A,e14C,e14D,e14B⟩,he14,h⟩:=zAc h;refine And.intro (zAC Nd.encs_eq he14).1 ?_;intro r15 hr15;obtain rfl : [.int .i64 e14A,.str e14C,.int .i64 e14D,.sl 4 (Nd.encs e14B)] = r15:=(hr15.trans (zAC Nd.encs_eq he14).2.1).symm;intro b hb;cases b with
        | true =>
         replace h:=zAn hb.symm h;cases h;exact (Le.rnm [(0,0)] _ _ _ ⟨rfl,rfl,rfl,rfl,rfl,rfl,trivial⟩ ⟨rfl,⟨_,rfl,rfl⟩,trivial⟩)
        | false =>
         replace h:=zAm hb.symm h;obtain ⟨⟨e16A,e16C,e16D,e16B⟩,he16,h⟩:=zAc h;refine And.intro (zAC Nd.encs_eq he16).1 ?_;intro r17 hr17;obtain rfl : [.int .i64 e16A,.str e16C,.int .i64 e16D,.sl 4 (Nd.encs e16B)] = r17:=(hr17.trans (zAC Nd.encs_eq he16).2.1).symm;obtain ⟨⟨y18,⟨_,w19E⟩⟩,hy18,h⟩:=zAc h;refine ⟨_,_,⟨_,_,_,_,_,hy18,rfl,rfl,rfl,rfl⟩,?_⟩
         cases h;exact (Le.rnm [(0,0)] _ _ _ ⟨rfl,rfl,rfl,rfl,rfl,rfl,trivial⟩ ⟨rfl,⟨_,rfl,rfl⟩,trivial⟩)
       ·show Tri ..;refine zAj hle ?_;refine zAd rfl (fun hb=>?_) (fun hb=>?_)
        ·replace h:=zAn hb h;refine zAa ?_;refine zAb [] [] rfl ?_;show Tri ..;refine zAh ?_;cases h;replace h : some _ = some _:=ho1;obtain ⟨hj1,hk1⟩:=Prod.mk.inj (Option.some.inj h)
         subst hj1;subst hk1;unfold zBV
         exact ⟨_,(Le.rnm [(0,0)] [(6,.s (.bool false))] [(0,.box 94 [.s (.str []),.s (.int .i64 0),.s (.nf),.s (.str [114,111,119]),.s (.int .i64 0),.s (.fn 80),.s (.str [115,121,109]),.s (.int .i64 0),.s (.fn 81),.s (.str [110,117,109]),.s (.int .i64 0),.s (.fn 82),.s (.str [116,101,120,116]),.s (.int .i64 0),.s (.fn 83),.s (.str [102,114,97,99]),.s (.int .i64 2),.s (.fn 80),.s (.str [114,111,111,116]),.s (.int .i64 2),.s (.fn 80),.s (.str [115,117,98]),.s (.int .i64 2),.s (.fn 80),.s (.str [115,117,112]),.s (.int .i64 2),.s (.fn 80),.s (.str [98,111,116,104]),.s (.int .i64 3),.s (.fn 80),.s (.str [97,99,99,101,110,116]),.s (.int .i64 1),.s (.fn 84),.s (.str [102,101,110,99,101]),.s (.int .i64 1),.s (.fn 85),.s (.str [109,97,116,114,105,120]),.s (.int .i64 0),.s (.fn 80),.s (.int .i64 x13)])] 1 ⟨rfl,trivial⟩ ⟨rfl,⟨_,rfl,rfl⟩,trivial⟩),rfl,rfl,rfl,rfl,trivial⟩
        ·replace h:=zAm hb h;refine zAg ?_;show Tri ..;refine zAb [] [] rfl ?_;refine ⟨(k,x13,IntKind.i64.wrap (x10 + 1)),h,(Le.rnm [(0,0)] _ _ _ ⟨rfl,rfl,rfl,rfl,rfl,trivial⟩ ⟨rfl,⟨_,rfl,rfl⟩,trivial⟩),Nat.lt_succ_self k⟩
      ·replace h:=zAm hb h;refine zAM ?_;cases h;exact ⟨_,rfl,(Le.rnm [(0,0)] _ _ _ trivial ⟨rfl,⟨_,rfl,rfl⟩,trivial⟩)⟩
   ·subst hz;replace h:=ho1;show Tri ..;refine zAj hle ?_;refine zAa ?_;refine zAb [] [] rfl ?_;show Tri ..;refine zAh ?_;obtain ⟨hj1,hk1⟩:=Prod.mk.inj (Option.some.inj h)
    subst hj1;subst hk1;unfold zBV
    exact ⟨_,(Le.rnm [(0,0)] [(6,.s (.bool true))] [(0,.box 94 [.s (.str []),.s (.int .i64 0),.s (.nf),.s (.str [114,111,119]),.s (.int .i64 0),.s (.fn 80),.s (.str [115,121,109]),.s (.int .i64 0),.s (.fn 81),.s (.str [110,117,109]),.s (.int .i64 0),.s (.fn 82),.s (.str [116,101,120,116]),.s (.int .i64 0),.s (.fn 83),.s (.str [102,114,97,99]),.s (.int .i64 2),.s (.fn 80),.s (.str [114,111,111,116]),.s (.int .i64 2),.s (.fn 80),.s (.str [115,117,98]),.s (.int .i64 2),.s (.fn 80),.s (.str [115,117,112]),.s (.int .i64 2),.s (.fn 80),.s (.str [98,111,116,104]),.s (.int .i64 3),.s (.fn 80),.s (.str [97,99,99,101,110,116]),.s (.int .i64 1),.s (.fn 84),.s (.str [102,101,110,99,101]),.s (.int .i64 1),.s (.fn 85),.s (.str [109,97,116,114,105,120]),.s (.int .i64 0),.s (.fn 80),.s (.int .i64 x11)])] 1 ⟨rfl,trivial⟩ ⟨rfl,⟨_,rfl,rfl⟩,trivial⟩),rfl,rfl,rfl,rfl,trivial⟩
theorem zHw : ∀ n,PSound Tryz.prog 54 (zB6 (zB7 n)):=by
 intro n
 induction n with
 | zero=>exact zI1 Tryz.call54 (fun xs os x os' h=>by obtain ⟨_,_,_,_,_,h,_⟩:=h; cases h) _
 | succ n ih=>exact zHm n ih
def zFA : zAt:=zB6 (fun xs os x os'=>∃ n,zB7 n xs os x os')
theorem zIg : PSound Tryz.prog 54 zFA:=zKf zHw _
def zPi (n : Nat) (xs : List AV) (r : Ret) : Prop:=∃ (a0 : Nd) (y0 : Bool),zAZ n a0 = some y0 ∧ xs = [.agg ((Nd.enc a0).map .s)] ∧ r = .val (.s (.bool y0))
def zCL : zAt:=zAG fun xs r=>∃ n,zPi n xs r
theorem zC0 : PSound Tryz.prog 33 zCL:=by
 have gok : ∀ f s,look? f [(53,zHs),(54,zFA)] = some s → PSound Tryz.prog f s:=zAu (by
  simp only [List.forall_mem_cons]
  exact ⟨zJI,zIg,by simp⟩)
 refine zAK tokW Tryz.call33 Tryz.func33 rfl (fun xs r h=>by obtain ⟨n,_,_,_,rfl,_⟩:=h; show 1 ≤ 14; decide) 14 rfl ?_;rintro xs r w0 G0 ⟨n,⟨n1A,n1C,n1D,n1B⟩,y0,h,rfl,rfl⟩ _;rw [zAZ] at h;refine zAa ?_;refine zAb [] [] rfl ?_;show Tri ..;refine zAa ?_;refine zAb [6] [] rfl ?_;obtain ⟨_,hy2,h⟩:=zAc h;refine ⟨_,⟨_,hy2,rfl,rfl⟩,?_⟩
 show Tri ..;refine zAa ?_;obtain ⟨x3,hj,h⟩:=zAc h;refine zAr ⟨ofL [(2,.s (.bool x3))],fun _=>none,0⟩ ?_ (fun σ' hle=>?_)
 ·replace h:=hj;refine zAb [] [10] rfl ?_;intro b hb;cases b with
  | true =>
   replace h:=zAn hb.symm h;obtain ⟨⟨y4,⟨_,w5E⟩⟩,hy4,h⟩:=zAc h;refine ⟨_,_,⟨_,_,_,_,_,_,hy4,rfl,rfl,rfl,rfl⟩,?_⟩
   cases h;exact (Le.rnm [] _ [] 0 ⟨rfl,trivial⟩ trivial)
  | false =>
   replace h:=zAm hb.symm h;cases h;exact (Le.rnm [] _ [] 0 ⟨rfl,trivial⟩ trivial)
 ·show Tri ..;refine zAj hle ?_;refine zAh ?_;have hy:=Option.some.inj h;subst hy;unfold zAA;exact ⟨_,Le.refl _ _,rfl,rfl⟩
def zJ0 (n : Nat) (xs : List AV) (r : Ret) : Prop:=∃ (a0 : List Nd) (y0 : Bool),zB5 n a0 = some y0 ∧ xs = [.s (.sl 4 (Nd.encs a0))] ∧ r = .val (.s (.bool y0))
def zEA : zAt:=zAG fun xs r=>∃ n,zJ0 n xs r
theorem zF7 : PSound Tryz.prog 87 zEA:=by
 have gok : ∀ f s,look? f [(33,zCL)] = some s → PSound Tryz.prog f s:=zAu (by
  simp only [List.forall_mem_cons]
  exact ⟨zC0,by simp⟩)
 refine zAK tokW Tryz.call87 Tryz.func87 rfl (fun xs r h=>by obtain ⟨n,_,_,_,rfl,_⟩:=h; show 1 ≤ 6; decide) 6 rfl ?_;rintro xs r w0 G0 ⟨n,l1,y0,h,rfl,rfl⟩ _;rw [zB5] at h;refine zAa ?_;refine zAb [] [] rfl ?_;show Tri ..;refine zAa ?_;refine zAb [] [] rfl ?_;obtain ⟨y2,hy2,h⟩:=zAc h;refine ⟨_,⟨_,_,_,hy2,rfl,rfl⟩,?_⟩
 show Tri ..;refine zAh ?_;have hy:=Option.some.inj h;subst hy;unfold zAA;exact ⟨_,Le.refl _ _,rfl,rfl⟩
def zPh (xs : List AV) (r : Ret) : Prop:=∃ (a0 : Nd) (y0 : Int),zDp a0 = some y0 ∧ xs = [.agg ((Nd.enc a0).map .s)] ∧ r = .val (.s (.int .i64 y0))
def zFY : zAt:=zAG fun xs r=>zPh xs r
theorem zG5 : PSound Tryz.prog 112 zFY:=by
 have gok : ∀ (f : Nat) (s : zAt),(fun _=>none : Nat → Option zAt) f = some s → PSound Tryz.prog f s:=fun _ _ h=>by cases h
 refine zAK tokW Tryz.call112 Tryz.func112 rfl (fun xs r h=>by obtain ⟨_,_,_,rfl,_⟩:=h; show 1 ≤ 9; decide) 9 rfl ?_;rintro xs r w0 G0 ⟨⟨n1A,n1C,n1D,n1B⟩,y0,h,rfl,rfl⟩ _;rw [zDp] at h;refine zAa ?_;refine zAb [] [] rfl ?_;show Tri ..;refine zAa ?_;refine zAa ?_;refine zAb [] [] rfl ?_;show Tri ..;refine zAd rfl (fun hb=>?_) (fun hb=>?_)
 ·replace h:=zAn hb h;refine zAa ?_;refine zAb [] [] rfl ?_;show Tri ..;refine zAh ?_;have hy:=Option.some.inj h;subst hy;unfold zAA;exact ⟨_,Le.refl _ _,rfl,rfl⟩
 ·replace h:=zAm hb h;refine zAg ?_;show Tri ..;refine zAa ?_;refine zAb [] [8] rfl ?_;intro n2 hn2;obtain rfl : (n1B.length : Int) = n2:=(hn2.trans (congrArg (fun m : Nat=>(m : Int)) (rlen Nd.encs_eq n1B))).symm;show Tri ..;refine zAh ?_;have hy:=Option.some.inj h;subst hy;unfold zAA;exact ⟨_,Le.refl _ _,rfl,rfl⟩
def zMD (xs : List AV) (os : List Ob) (x : AV) (os' : List (Option Ob)) : Prop:=∃ (a0 : Int) (a1 : Int) (z0 : Int),zEN a0 a1 = some z0 ∧ xs = [.s (.int .i64 a0),.op 0 0] ∧ os = [.box 3 (((irow .i64) a1).map .s)] ∧ x = .tup [] ∧ os' = [some (.box 3 (((irow .i64) z0).map .s))]
def zIp : zAt:=zB6 (fun xs os x os'=>zMD xs os x os')
theorem zL7 : PSound Tryz.prog 60 zIp:=by
 have gok : ∀ (f : Nat) (s : zAt),(fun _=>none : Nat → Option zAt) f = some s → PSound Tryz.prog f s:=fun _ _ h=>by cases h
 refine PSound.withNil (zFL tokW Tryz.call60 Tryz.func60 rfl (fun xs os x os' h=>by obtain ⟨_,_,_,_,rfl,rfl,_,rfl⟩:=h; exact ⟨by show 2 ≤ 5; decide,by show 1 ≤ 1; decide⟩) 5 rfl ?_) _;rintro xs os x os' w0 G0 B0 ⟨a1,o2,z0,h,rfl,rfl,rfl,rfl⟩ _;rw [zEN] at h;refine zAb [] [] rfl ?_;have hy:=Option.some.inj h;subst hy;unfold zBV;exact ⟨_,(Le.rnm [(0,0)] [] [(0,.box 3 [.s (.int .i64 (IntKind.i64.wrap (o2 + 1)))])] 1 trivial ⟨rfl,⟨_,rfl,rfl⟩,trivial⟩),rfl,rfl,rfl,rfl,trivial⟩
def zAp (p : (Nd × Int)) : List S:=[.pt (Nd.enc p.1),.int .i64 p.2]
def zRa (n : Nat) (xs : List AV) (os : List Ob) (x : AV) (os' : List (Option Ob)) : Prop:=∃ (a0 : Nd) (a1 : Int) (z0 : Int),zG1 n a0 a1 = some z0 ∧ xs = [.s (.pt (Nd.enc a0)),.clo 60 [.op 0 0]] ∧ os = [.box 3 (((irow .i64) a1).map .s)] ∧ x = .tup [] ∧ os' = [some (.box 3 (((irow .i64) z0).map .s))]
def zLx : zAt:=zB6 (fun xs os x os'=>∃ n,zRa n xs os x os')
theorem zQq : PSound Tryz.prog 59 zLx:=by
 have gok : ∀ f s,look? f [(60,zIp)] = some s → PSound Tryz.prog f s:=zAu (by
  simp only [List.forall_mem_cons]
  exact ⟨zL7,by simp⟩)
 refine PSound.withNil (zFL tokW Tryz.call59 Tryz.func59 rfl (fun xs os x os' h=>by obtain ⟨n,_,_,_,_,rfl,rfl,_,rfl⟩:=h; exact ⟨by show 2 ≤ 52; decide,by show 1 ≤ 1; decide⟩) 52 rfl ?_) _;rintro xs os x os' w0 G0 B0 ⟨n,⟨n1A,n1C,n1D,n1B⟩,o2,z0,h,rfl,rfl,rfl,rfl⟩ _;rw [zG1] at h;refine zAa ?_;refine zAb [9] [] rfl ?_;show Tri ..
 refine zAj (Le.rnm [(0,0),(1,1)] [(1,.clo 60 [.op 0 0]),(4,.orow 1)] [(0,.box 3 [.s (.int .i64 o2)]),(1,.row 128 2 ((List.map zAp) [(Nd.mk n1A n1C n1D n1B,1)]))] 2 ⟨rfl,rfl,trivial⟩ ⟨rfl,⟨_,rfl,rfl⟩,rfl,⟨_,rfl,congrArg (Ob.row 128 2) (by simp [List.map_append,List.map_take,List.map_drop,irow,brow,zAQ,List.map_cons,List.map_nil,zAJ,Nd.encs_eq,Nd.enc,zAq,zAo,zAp])⟩,trivial⟩) ?_;obtain ⟨x6,hl,h⟩:=zAc h;refine zAr ⟨ofL [],ofH [(0,.box 3 [.s (.int .i64 x6)])],1⟩ ?_ (fun σ' hle=>?_)
 ·refine zAl (zAI (X:=Nat × Int × (List (Nd × Int))) (fun y=>match y with | (k,x3,l5)=>⟨ofL [(1,.clo 60 [.op 0 0]),(4,.orow 1)],ofH [(0,.box 3 [.s (.int .i64 x3)]),(1,.row 128 2 ((List.map zAp) l5))],2⟩) (fun y=>zCv n y.1 y.2.1 y.2.2 = some x6) (fun y=>y.1) (n,o2,[(Nd.mk n1A n1C n1D n1B,1)]) hl ?_ ?_)
  ·exact (Le.rnm [(0,0),(1,1)] _ _ _ ⟨rfl,rfl,trivial⟩ ⟨rfl,⟨_,rfl,rfl⟩,rfl,⟨_,rfl,rfl⟩,trivial⟩)
  ·rintro ⟨k,x3,l5⟩ h;cases k with
   | zero=>cases h
   | succ k =>
    replace h : zCv n (k+1) x3 l5 = some x6:=h;rw [zCv] at h;refine zAa ?_;refine zAa ?_;refine zAb [] [11] rfl ?_;intro n7 hn7;obtain rfl : (l5.length : Int) = n7:=(hn7.trans (congrArg (fun m : Nat=>(m : Int)) (rlen (fun _=>rfl) l5))).symm;show Tri ..;refine zAd rfl (fun hb=>?_) (fun hb=>?_)
    ·replace h:=zAn hb h;refine zAg ?_;show Tri ..;refine zAl ?_;refine zAa ?_;refine zAb [5] [15] rfl ?_;intro n8 hn8;obtain rfl : (l5.length : Int) = n8:=(hn8.trans (congrArg (fun m : Nat=>(m : Int)) (rlen (fun _=>rfl) l5))).symm;obtain ⟨⟨⟨e9As,e9At,e9Au,e9Ah⟩,e9An⟩,he9,h⟩:=zAc h;refine And.intro (zAC (fun _=>rfl) he9).1 ?_;refine And.intro (zAC (fun _=>rfl) he9).2.2 ?_;refine ⟨_,(zAC (fun _=>rfl) he9).2.1,?_⟩
     show Tri ..;refine zAj (Le.giveBox 2 [.pt [.int .i64 e9As,.str e9At,.int .i64 e9Au,.sl 4 (Nd.encs e9Ah)],.int .i64 e9An] rfl rfl) ?_;refine zAa ?_;refine zAb [23] [21] rfl ?_;intro n10 hn10;obtain rfl : (l5.length : Int) = n10:=(hn10.trans (congrArg (fun m : Nat=>(m : Int)) (rlen (fun _=>rfl) l5))).symm;obtain ⟨hq,h⟩:=zAR h;refine And.intro ⟨hq.1,Int.le_trans hq.2 (Int.ofNat_le.2 (Nat.le_of_eq (rlen (fun _=>rfl) _).symm))⟩ ?_;show Tri ..
     refine zAj (Le.rnm [(0,0),(3,1)] [(1,.clo 60 [.op 0 0]),(4,.orow 1),(5,.s (.pt [.pt [.int .i64 e9As,.str e9At,.int .i64 e9Au,.sl 4 (Nd.encs e9Ah)],.int .i64 e9An]))] [(0,.box 3 [.s (.int .i64 x3)]),(1,.row 128 2 ((List.map zAp) (l5.take (IntKind.i64.wrap ((l5.length : Int) - 1)).toNat)))] 2 ⟨rfl,rfl,rfl,trivial⟩ ⟨rfl,⟨_,rfl,rfl⟩,rfl,⟨_,rfl,congrArg (Ob.row 128 2) (by simp [List.map_append,List.map_take,List.map_drop,irow,brow,zAQ,List.map_cons,List.map_nil,zAJ,Nd.encs_eq,Nd.enc,zAq,zAo,zAp])⟩,trivial⟩) ?_;refine zAa ?_
     refine zAb [] [] rfl ?_;obtain ⟨w11,hw11,h⟩:=zAc h;refine ⟨_,_,⟨_,_,_,hw11,rfl,rfl,rfl,rfl⟩,?_⟩
     show Tri ..;refine zAa ?_;refine zAb [] [33] rfl ?_;intro n12 hn12;obtain rfl : (e9Ah.length : Int) = n12:=(hn12.trans (congrArg (fun m : Nat=>(m : Int)) (rlen Nd.encs_eq e9Ah))).symm;show Tri ..;obtain ⟨l16,hl,h⟩:=zAc h;refine zAr ⟨ofL [(1,.clo 60 [.op 0 0]),(4,.orow 1)],ofH [(0,.box 3 [.s (.int .i64 w11)]),(1,.row 128 2 ((List.map zAp) l16))],2⟩ ?_ (fun σ' hle=>?_)
     ·refine zAl (zAI (X:=Nat × Int × (List (Nd × Int))) (fun y=>match y with | (k,x13,l15)=>⟨ofL [(1,.clo 60 [.op 0 0]),(4,.orow 1),(5,.s (.pt [.pt [.int .i64 e9As,.str e9At,.int .i64 e9Au,.sl 4 (Nd.encs e9Ah)],.int .i64 e9An])),(33,.s (.int .i64 (e9Ah.length : Int))),(34,.s (.int .i64 x13))],ofH [(0,.box 3 [.s (.int .i64 w11)]),(1,.row 128 2 ((List.map zAp) l15))],2⟩) (fun y=>zCw e9Ah e9An y.1 y.2.1 y.2.2 = some l16) (fun y=>y.1) (n,0,l5.take (IntKind.i64.wrap ((l5.length : Int) - 1)).toNat) hl ?_ ?_)
      ·exact (Le.rnm [(0,0),(1,1)] _ _ _ ⟨rfl,rfl,rfl,rfl,rfl,trivial⟩ ⟨rfl,⟨_,rfl,rfl⟩,rfl,⟨_,rfl,rfl⟩,trivial⟩)
      ·rintro ⟨k,x13,l15⟩ h;cases k with
       | zero=>cases h
       | succ k =>
        replace h : zCw e9Ah e9An (k+1) x13 l15 = some l16:=h;rw [zCw] at h;refine zAa ?_;refine zAb [] [] rfl ?_;show Tri ..;refine zAa ?_;refine zAd rfl (fun hb=>?_) (fun hb=>?_)
        ·replace h:=zAn hb h;refine zAg ?_;show Tri ..;refine zAa ?_;refine zAl ?_;refine zAa ?_;refine zAb [] [] rfl ?_;show Tri ..;refine zAB (by exact tokW) (by exact gok) (by exact mixed) [50] [44,49] [13] rfl (by decide +kernel) ?_;obtain ⟨⟨e17A,e17C,e17D,e17B⟩,he17,h⟩:=zAc h;refine And.intro (zAC Nd.encs_eq he17).1 ?_;intro r18 hr18;obtain rfl : [.int .i64 e17A,.str e17C,.int .i64 e17D,.sl 4 (Nd.encs e17B)] = r18:=(hr18.trans (zAC Nd.encs_eq he17).2.1).symm;intro r19 hr19
         obtain rfl : (List.map zAp) [(Nd.mk e17A e17C e17D e17B,IntKind.i64.wrap (e9An + 1))] = r19:=(hr19.trans (by simp [List.map_append,List.map_take,List.map_drop,irow,brow,zAQ,List.map_cons,List.map_nil,zAJ,Nd.encs_eq,Nd.enc,zAq,zAo,zAp])).symm;obtain ⟨hq,h⟩:=zAR h
         refine And.intro (show (((List.map zAp) l15).length + ((List.map zAp) [(Nd.mk e17A e17C e17D e17B,IntKind.i64.wrap (e9An + 1))]).length) * 16 ≤ 140737488355328 ∧ ((List.map zAp) l15).length + ((List.map zAp) [(Nd.mk e17A e17C e17D e17B,IntKind.i64.wrap (e9An + 1))]).length ≤ 9223372036854775807 from by simp only [List.length_append,List.length_cons,List.length_nil,List.length_map,rlen (fun _=>rfl)] at hq ⊢; omega) ?_;show Tri ..
         refine zAj (Le.rnm [(0,0),(2,1)] [(1,.clo 60 [.op 0 0]),(4,.orow 1),(5,.s (.pt [.pt [.int .i64 e9As,.str e9At,.int .i64 e9Au,.sl 4 (Nd.encs e9Ah)],.int .i64 e9An])),(33,.s (.int .i64 (e9Ah.length : Int))),(34,.s (.int .i64 x13))] [(0,.box 3 [.s (.int .i64 w11)]),(1,.row 128 2 ((List.map zAp) (l15 ++ [(Nd.mk e17A e17C e17D e17B,IntKind.i64.wrap (e9An + 1))])))] 2 ⟨rfl,rfl,rfl,rfl,rfl,trivial⟩ ⟨rfl,⟨_,rfl,rfl⟩,rfl,⟨_,rfl,congrArg (Ob.row 128 2) (by simp [List.map_append,List.map_take,List.map_drop,irow,brow,zAQ,List.map_cons,List.map_nil,zAJ,Nd.encs_eq,Nd.enc,zAq,zAo,zAp])⟩,trivial⟩) ?_
         refine zAb [] [] rfl ?_;refine ⟨(k,IntKind.i64.wrap (x13 + 1),l15 ++ [(Nd.mk e17A e17C e17D e17B,IntKind.i64.wrap (e9An + 1))]),h,(Le.rnm [(0,0),(1,1)] _ _ _ ⟨rfl,rfl,rfl,rfl,rfl,trivial⟩ ⟨rfl,⟨_,rfl,rfl⟩,rfl,⟨_,rfl,rfl⟩,trivial⟩),Nat.lt_succ_self k⟩
        ·replace h:=zAm hb h;refine zAM ?_;cases h;exact (Le.rnm [(0,0),(1,1)] _ _ _ ⟨rfl,rfl,trivial⟩ ⟨rfl,⟨_,rfl,rfl⟩,rfl,⟨_,rfl,rfl⟩,trivial⟩)
     ·refine ⟨(k,w11,l16),h,(Le.trans hle (Le.rnm [(0,0),(1,1)] _ _ _ ⟨rfl,rfl,trivial⟩ ⟨rfl,⟨_,rfl,rfl⟩,rfl,⟨_,rfl,rfl⟩,trivial⟩)),Nat.lt_succ_self k⟩
    ·replace h:=zAm hb h;refine zAM ?_;cases h;exact (Le.rnm [(0,0)] _ _ _ trivial ⟨rfl,⟨_,rfl,rfl⟩,trivial⟩)
 ·have hy:=Option.some.inj h;subst hy;unfold zBV;exact ⟨_,(Le.trans hle (Le.rnm [(0,0)] [] [(0,.box 3 [.s (.int .i64 x6)])] 1 trivial ⟨rfl,⟨_,rfl,rfl⟩,trivial⟩)),rfl,rfl,rfl,rfl,trivial⟩
def zPg (n : Nat) (xs : List AV) (r : Ret) : Prop:=∃ (a0 : Nd) (y0 : Int),zEX n a0 = some y0 ∧ xs = [.agg ((Nd.enc a0).map .s)] ∧ r = .val (.s (.int .i64 y0))
def zKs : zAt:=zAG fun xs r=>∃ n,zPg n xs r
theorem zOE : PSound Tryz.prog 36 zKs:=by
 have gok : ∀ f s,look? f [(59,zLx)] = some s → PSound Tryz.prog f s:=zAu (by
  simp only [List.forall_mem_cons]
  exact ⟨zQq,by simp⟩)
 refine zAK tokW Tryz.call36 Tryz.func36 rfl (fun xs r h=>by obtain ⟨n,_,_,_,rfl,_⟩:=h; show 1 ≤ 7; decide) 7 rfl ?_;rintro xs r w0 G0 ⟨n,⟨n1A,n1C,n1D,n1B⟩,y0,h,rfl,rfl⟩ _;rw [zEX] at h;refine zAa ?_;refine zAb [] [] rfl ?_;show Tri ..;refine zAa ?_;refine zAb [3] [] rfl ?_;show Tri ..;refine zAa ?_;refine zAb [] [] rfl ?_;obtain ⟨w2,hw2,h⟩:=zAc h;refine ⟨_,_,⟨_,_,_,_,hw2,rfl,rfl,rfl,rfl⟩,?_⟩
 show Tri ..;refine zAa ?_;refine zAb [] [] rfl ?_;show Tri ..;refine zAh ?_;have hy:=Option.some.inj h;subst hy;unfold zAA;exact ⟨_,Le.refl _ _,rfl,rfl⟩
def zPd (n : Nat) (xs : List AV) (r : Ret) : Prop:=∃ (a0 : List Nd) (y0 : List Int),zD8 n a0 = some y0 ∧ xs = [.s (.sl 4 (Nd.encs a0))] ∧ r = .row 3 1 ((List.map (irow .i64)) y0)
def zKq : zAt:=zAG fun xs r=>∃ n,zPd n xs r
theorem zOC : PSound Tryz.prog 61 zKq:=by
 have gok : ∀ f s,look? f [(36,zKs)] = some s → PSound Tryz.prog f s:=zAu (by
  simp only [List.forall_mem_cons]
  exact ⟨zOE,by simp⟩)
 refine zAK tokW Tryz.call61 Tryz.func61 rfl (fun xs r h=>by obtain ⟨n,_,_,_,rfl,_⟩:=h; show 1 ≤ 23; decide) 23 rfl ?_;rintro xs r w0 G0 ⟨n,l1,y0,h,rfl,rfl⟩ _;rw [zD8] at h;refine zAa ?_;refine zAb [2] [] rfl ?_;show Tri ..;refine zAj (Le.rnm [] [(0,.s (.sl 4 (Nd.encs l1)))] [] 0 ⟨rfl,trivial⟩ trivial) ?_;refine zAa ?_;refine zAb [7] [6] rfl ?_;intro n2 hn2;obtain rfl : (l1.length : Int) = n2:=(hn2.trans (congrArg (fun m : Nat=>(m : Int)) (rlen Nd.encs_eq l1))).symm;obtain ⟨hq,h⟩:=zAR h
 refine And.intro (show 0 ≤ (l1.length : Int) ∧ (l1.length : Int) ≤ (l1.length : Int) ∧ (l1.length : Int) * ((8 : Nat) : Int) ≤ 281474976710656 ∧ (l1.length : Int) ≤ 281474976710656 from ⟨hq.1,Int.le_refl _,by have h1:=hq.1; have h2:=hq.2; omega,by have h2:=hq.2; omega⟩) ?_;show Tri ..
 refine zAj (Le.rnm [(0,0)] [(0,.s (.sl 4 (Nd.encs l1))),(3,.orow 0)] [(0,.row 3 1 ((List.map (irow .i64)) (List.replicate (l1.length : Int).toNat 0)))] 1 ⟨rfl,rfl,trivial⟩ ⟨rfl,⟨_,rfl,congrArg (Ob.row 3 1) (by simp [List.map_append,List.map_take,List.map_drop,irow,brow,zAQ,List.map_cons,List.map_nil,zAJ,Nd.encs_eq,Nd.enc,zAq,zAo,zAp])⟩,trivial⟩) ?_;refine zAa ?_;refine zAa ?_;refine zAb [] [9] rfl ?_;intro n3 hn3;obtain rfl : (l1.length : Int) = n3:=(hn3.trans (congrArg (fun m : Nat=>(m : Int)) (rlen Nd.encs_eq l1))).symm;show Tri ..;obtain ⟨l6,hl,h⟩:=zAc h
 refine zAr ⟨ofL [(3,.orow 0)],ofH [(0,.row 3 1 ((List.map (irow .i64)) l6))],1⟩ ?_ (fun σ' hle=>?_)
 ·refine zAl (zAI (X:=Nat × Int × (List Int)) (fun y=>match y with | (k,x4,l5)=>⟨ofL [(0,.s (.sl 4 (Nd.encs l1))),(3,.orow 0),(9,.s (.int .i64 (l1.length : Int))),(10,.s (.int .i64 x4))],ofH [(0,.row 3 1 ((List.map (irow .i64)) l5))],1⟩) (fun y=>zCb n l1 y.1 y.2.1 y.2.2 = some l6) (fun y=>y.1) (n,0,List.replicate (l1.length : Int).toNat 0) hl ?_ ?_)
  ·exact (Le.rnm [(0,0)] _ _ _ ⟨rfl,rfl,rfl,rfl,trivial⟩ ⟨rfl,⟨_,rfl,rfl⟩,trivial⟩)
  ·rintro ⟨k,x4,l5⟩ h;cases k with
   | zero=>cases h
   | succ k =>
    replace h : zCb n l1 (k+1) x4 l5 = some l6:=h;rw [zCb] at h;refine zAa ?_;refine zAb [] [] rfl ?_;show Tri ..;refine zAa ?_;refine zAd rfl (fun hb=>?_) (fun hb=>?_)
    ·replace h:=zAn hb h;refine zAg ?_;show Tri ..;refine zAa ?_;refine zAl ?_;refine zAa ?_;refine zAb [] [] rfl ?_;show Tri ..;refine zAb [] [17] rfl ?_;obtain ⟨⟨e7A,e7C,e7D,e7B⟩,he7,h⟩:=zAc h;refine And.intro (zAC Nd.encs_eq he7).1 ?_;intro r8 hr8;obtain rfl : [.int .i64 e7A,.str e7C,.int .i64 e7D,.sl 4 (Nd.encs e7B)] = r8:=(hr8.trans (zAC Nd.encs_eq he7).2.1).symm;obtain ⟨y9,hy9,h⟩:=zAc h;refine ⟨_,⟨_,_,_,hy9,rfl,rfl⟩,?_⟩
     obtain ⟨e10,he10,h⟩:=zAc h;refine And.intro (zAC (fun _=>rfl) he10).1 ?_;have hset11:=(rset (R:=(List.map (irow .i64))) (f:=(irow .i64)) (fun _=>rfl) he10 y9 0 1 [.int .i64 y9] rfl)
     have hat11:=at_set he10 y9;refine And.intro (zAC (fun _=>rfl) he10).2.2 ?_;show Tri ..;refine zAj (Le.rnm [(0,0)] [(0,.s (.sl 4 (Nd.encs l1))),(3,.orow 0),(9,.s (.int .i64 (l1.length : Int))),(10,.s (.int .i64 x4))] [(0,.row 3 1 ((List.map (irow .i64)) (l5.set x4.toNat y9)))] 1 ⟨rfl,rfl,rfl,rfl,trivial⟩ ⟨rfl,⟨_,rfl,congrArg (Ob.row 3 1) hset11⟩,trivial⟩) ?_;refine zAb [] [] rfl ?_;refine ⟨(k,IntKind.i64.wrap (x4 + 1),l5.set x4.toNat y9),h,(Le.rnm [(0,0)] _ _ _ ⟨rfl,rfl,rfl,rfl,trivial⟩ ⟨rfl,⟨_,rfl,rfl⟩,trivial⟩),Nat.lt_succ_self k⟩
    ·replace h:=zAm hb h;refine zAM ?_;cases h;exact (Le.rnm [(0,0)] _ _ _ ⟨rfl,trivial⟩ ⟨rfl,⟨_,rfl,rfl⟩,trivial⟩)
 ·show Tri ..;refine zAj hle ?_;refine zAa ?_;refine zAb [] [] rfl ?_;show Tri ..;refine zAh ?_;have hy:=Option.some.inj h;subst hy;unfold zAA;exact ⟨_,Le.refl _ _,0,rfl,rfl⟩
end Go.Proofs.YtjdhkpdjecegnaaGreatDoor
namespace Go.Proofs.YtjdhkpdjecegnaaGreatDoor
open Go.Abs
theorem zSa {l : List Nd} {i : Nat} {x : Nd} (h : l[i]? = some x) : (Nd.encs l).getD i [] = Nd.enc x:=by
 simp [Nd.encs_eq,List.getD_eq_getElem?_getD,h]
theorem zTY : ∀ (l : List Int),∃ v vs,zA1 l = v :: vs
 | []=>⟨_,_,rfl⟩
 | _ :: _=>⟨_,_,rfl⟩
theorem zOV {F : Nd → Nd → Option Int} {b : List Nd} {other : List Int} : ∀ {xs : List Nd} {fs : List Int} {p : List (List Int) × List (List Int)},zAO F b other xs fs = some p → xs.length = fs.length
 | [],[],_,_=>rfl
 | [],_ :: _,_,h=>by simp [zAO] at h
 | _ :: _,[],_,h=>by simp [zAO] at h
 | x :: xs,f :: fs,p,h=>by
  simp only [zAO] at h;obtain ⟨q,hq,_⟩:=zAc h;simp [zOV hq]
theorem zQK {F : Nd → Nd → Option Int} {b : List Nd} {other : List Int} : ∀ {xs : List Nd} {fs : List Int} {p : List (List Int) × List (List Int)},zAO F b other xs fs = some p → ∀ i,i ≤ xs.length → ∃ q,zAO F b other (xs.drop i) (fs.drop i) = some q
 | xs,fs,p,h,0,_=>⟨p,h⟩
 | [],_,_,_,i + 1,hi=>by simp at hi
 | _ :: _,[],_,h,_ + 1,_=>by simp [zAO] at h
 | x :: xs,f :: fs,p,h,i + 1,hi=>by
  simp only [zAO] at h;obtain ⟨q,hq,_⟩:=zAc h;exact zQK hq i (by simpa using hi)
theorem zRO {F : Nd → Nd → Option Int} {x : Nd} {f : Int} : ∀ {ys : List Nd} {os vs : List Int} {p : List Int × List Int},zAE F x f ys os vs = some p → os.length = ys.length ∧ vs.length = ys.length + 1 ∧ p.1.length = ys.length + 1 ∧ p.2.length = ys.length
 | [],[],[v],p,h=>by simp only [zAE,Option.some.injEq] at h; subst h; simp
 | y :: ys,o :: os,v :: v2 :: vs,p,h=>by
  simp only [zAE] at h;obtain ⟨q,hq,h⟩:=zAc h;obtain ⟨c,hc,h⟩:=zAc h;have:=zRO hq;simp only [Option.some.injEq] at h;subst h;simp only [List.length_cons] at this ⊢
  omega
 | [],[],[],_,h=>by simp [zAE] at h
 | [],[],_ :: _ :: _,_,h=>by simp [zAE] at h
 | [],_ :: _,_,_,h=>by simp [zAE] at h
 | _ :: _,[],_,_,h=>by simp [zAE] at h
 | _ :: _,_ :: _,[],_,h=>by simp [zAE] at h
 | _ :: _,_ :: _,[_],_,h=>by simp [zAE] at h
theorem row_drop {F : Nd → Nd → Option Int} {x : Nd} {f : Int} : ∀ {ys : List Nd} {os vs : List Int} {p : List Int × List Int},zAE F x f ys os vs = some p → ∀ j,j ≤ ys.length → ∃ q,zAE F x f (ys.drop j) (os.drop j) (vs.drop j) = some q
 | ys,os,vs,p,h,0,_=>⟨p,h⟩
 | y :: ys,o :: os,v :: v2 :: vs,p,h,j + 1,hj=>by
  simp only [zAE] at h;obtain ⟨q,hq,_⟩:=zAc h;exact row_drop hq j (by simpa using hj)
 | [],_,_,_,_,j + 1,hj=>by simp at hj
 | _ :: _,[],_,_,h,_ + 1,_=>by simp [zAE] at h
 | _ :: _,_ :: _,[],_,h,_ + 1,_=>by simp [zAE] at h
 | _ :: _,_ :: _,[_],_,h,_ + 1,_=>by simp [zAE] at h
def zAw (p : List Int) : List S:=[.sl 1 ((List.map (irow .i64)) p)]
def zAv (p : (List (List Int) × List (List Int) × List Int × List Int)) : List S:=[.sl 1 ((List.map zAw) p.1),.sl 1 ((List.map zAw) p.2.1),.sl 1 ((List.map (irow .i64)) p.2.2.1),.sl 1 ((List.map (irow .i64)) p.2.2.2)]
def zEy (n : Nat) (xs : List AV) (r : Ret) : Prop:=∃ (a0 : List Nd) (a1 : List Nd) (y0 : (List (List Int) × List (List Int) × List Int × List Int)),zCa n a0 a1 = some y0 ∧ xs = [.s (.sl 4 (Nd.encs a0)),.s (.sl 4 (Nd.encs a1))] ∧ r = .val (.agg ((zAv y0).map .s))
def zDN (n : Nat) (xs : List AV) (r : Ret) : Prop:=∃ (a0 : Nd) (a1 : Nd) (y0 : Int),zBL n a0 a1 = some y0 ∧ xs = [.s (.pt (Nd.enc a0)),.s (.pt (Nd.enc a1))] ∧ r = .val (.s (.int .i64 y0))
theorem zM5 (n : Nat) (ih_diff_fill : PSound Tryz.prog 37 (zAG (zEy n))) (ih_diff_pairing : PSound Tryz.prog 62 (zAG (zDN n))) : PSound Tryz.prog 37 (zAG (zEy (n + 1))):=by
 have gok : ∀ f s,look? f [(61,zKq),(62,zAG (zDN n))] = some s → PSound Tryz.prog f s:=zAu (by
  simp only [List.forall_mem_cons]
  exact ⟨zOC,ih_diff_pairing,by simp⟩)
 refine zAK tokW Tryz.call37 Tryz.func37 rfl (fun xs r h=>by obtain ⟨_,_,_,_,rfl,_⟩:=h; show 2 ≤ 203; decide) 203 rfl ?_;rintro xs r w0 G0 ⟨a,b,y0,h,rfl,rfl⟩ _;rw [zCa] at h;obtain ⟨first,hfirst,h⟩:=zAc h;obtain ⟨other,hother,h⟩:=zAc h;obtain ⟨hlen,h⟩:=zAR h;obtain ⟨p,hp,h⟩:=zAc h;refine zAa ?_;refine zAb [4] [] rfl ?_;show Tri ..;refine zAa ?_;refine zAb [5] [] rfl ?_;refine ⟨_,⟨_,_,_,hfirst,rfl,rfl⟩,?_⟩
 refine ⟨_,⟨_,_,_,hother,rfl,rfl⟩,?_⟩
 show Tri ..;refine zAa ?_;refine zAb [5] [15,16] rfl ?_;intro n1 hn1;obtain rfl : (a.length : Int) = n1:=(hn1.trans (congrArg (fun m : Nat=>(m : Int)) (rlen Nd.encs_eq a))).symm;intro n2 hn2;obtain rfl : ((a.length + 1 : Nat) : Int) = n2:=(hn2.trans (zAX (by omega))).symm;refine And.intro (show 0 ≤ _ ∧ _ from ⟨by omega,Int.le_refl _,show ((a.length + 1 : Nat) : Int) * ((24 : Nat) : Int) ≤ 281474976710656 by omega,by omega⟩) ?_;show Tri ..;refine zAa ?_;refine zAb [5] [20] rfl ?_;intro n1 hn1;have e1 : (a.length : Int) = n1:=(hn1.trans (congrArg (fun m : Nat=>(m : Int)) (rlen Nd.encs_eq a))).symm;subst e1
 refine And.intro (show 0 ≤ _ ∧ _ from ⟨by omega,Int.le_refl _,show ((a.length : Nat) : Int) * ((24 : Nat) : Int) ≤ 281474976710656 by omega,by omega⟩) ?_;show Tri ..;refine zAa ?_;refine zAa ?_;refine zAb [5] [24] rfl ?_;intro n1 hn1;have e1 : (a.length : Int) = n1:=(hn1.trans (congrArg (fun m : Nat=>(m : Int)) (rlen Nd.encs_eq a))).symm;subst e1;show Tri ..
 refine zAr ⟨ofL [(0,.s (.sl 4 (Nd.encs a))),(1,.s (.sl 4 (Nd.encs b))),(4,.op 0 0),(5,.op 1 0)],ofH [(0,.box 66 [.nl 1,.nl 1,.nl 1,.nl 1]),(1,.box 66 [.orow 2,.orow 3,.s (.sl 1 (first.map (irow .i64))),.s (.sl 1 (other.map (irow .i64)))]),(2,.arow 43 1 (zAP p.1)),(3,.arow 43 1 (zAP p.2))],4⟩ ?_ (fun σ' hle=>?_)
 ·refine zAl (zAI (X:=Nat × List (List Int) × List (List Int)) (fun y=>match y with | (k,L,P)=>⟨ofL [(0,.s (.sl 4 (Nd.encs a))),(1,.s (.sl 4 (Nd.encs b))),(4,.op 0 0),(5,.op 1 0),(6,.s (.int .i64 ((k : Int) - 1)))],ofH [(0,.box 66 [.nl 1,.nl 1,.nl 1,.nl 1]),(1,.box 66 [.orow 2,.orow 3,.s (.sl 1 (first.map (irow .i64))),.s (.sl 1 (other.map (irow .i64)))]),(2,.arow 43 1 (nils k ++ zAP L)),(3,.arow 43 1 (nils (min k a.length) ++ zAP P))],4⟩)
   (fun y=>match y with | (k,L,P)=>(k = a.length + 1 ∧ L = [] ∧ P = []) ∨ (k ≤ a.length ∧ zAO (zBL n) b other (a.drop k) (first.drop k) = some (L,P))) (fun y=>y.1) (a.length + 1,[],[]) (.inl ⟨rfl,rfl,rfl⟩) ?_ ?_)
  ·refine Le.trans (Le.toA 2 rfl) (Le.trans (Le.toA 3 rfl) (Le.rename [(0,0),(1,1),(2,2),(3,3)] _ _ 4 ⟨rfl,rfl,rfl,rfl,?_,trivial⟩ ⟨rfl,⟨_,rfl,rfl⟩,rfl,⟨_,rfl,rfl⟩,rfl,⟨_,rfl,?_⟩,rfl,⟨_,rfl,?_⟩,trivial⟩ rfl rfl rfl (by simp only [ltH,Ob.lt,zGZ]; rfl) rfl))
   ·show AV.s (.int .i64 _) = AV.s (.int .i64 _)
    congr 2; omega
   ·show Ob.arow 43 1 (((List.replicate (a.length + 1) [S.sl 1 []]).map (·.map AV.s)).map (AV.renAll _)) = _;rw [zSA,zG8]; simp [zAP]
   ·show Ob.arow 43 1 (((List.replicate a.length [S.sl 1 []]).map (·.map AV.s)).map (AV.renAll _)) = _;rw [zSA,zG8]; simp [zAP]
  ·rintro ⟨k,L,P⟩ hI;refine zAa ?_;refine zAa ?_;refine zAb [] [26] rfl ?_;intro b26 h26;show Tri ..;refine zAd rfl (fun hb=>?_) (fun hb=>?_)
   ·refine zAg ?_;show Tri ..;have hk : 1 ≤ k:=by
     rw [h26] at hb;have:=of_decide_eq_true hb; omega
    obtain ⟨i,rfl⟩ : ∃ i,k = i + 1:=⟨k - 1,by omega⟩
    refine zAj (Le.forget [(0,.s (.sl 4 (Nd.encs a))),(1,.s (.sl 4 (Nd.encs b))),(4,.op 0 0),(5,.op 1 0),(6,.s (.int .i64 (i : Int)))] ⟨rfl,rfl,rfl,rfl,congrArg (fun z=>AV.s (.int .i64 z)) (by omega),trivial⟩) ?_;refine zAa ?_;refine zAl ?_;refine zAa ?_;refine zDI (by exact tokW) (by exact gok) (by exact mixed) [35] [33,34] [1,6,7,8] [1,7] rfl (by decide +kernel) ?_;intro n1 hn1;obtain rfl : (b.length : Int) = n1:=(hn1.trans (congrArg (fun m : Nat=>(m : Int)) (rlen Nd.encs_eq b))).symm;intro n2 hn2;obtain rfl : ((b.length + 1 : Nat) : Int) = n2:=(hn2.trans (zAX (by omega))).symm
    refine And.intro (show 0 ≤ _ ∧ _ from ⟨by omega,Int.le_refl _,show ((b.length + 1 : Nat) : Int) * ((8 : Nat) : Int) ≤ 281474976710656 by omega,by omega⟩) ?_;have hlt1 : i < (nils (i + 1) ++ zAP L).length :=(by simp [nils]; omega);refine And.intro ⟨Int.natCast_nonneg _,Int.ofNat_lt.2 hlt1⟩ ?_;refine And.intro hlt1 ?_
    refine zAj (σ':=⟨ofL [(0,.s (.sl 4 (Nd.encs a))),(1,.s (.sl 4 (Nd.encs b))),(4,.op 0 0),(5,.op 1 0),(6,.s (.int .i64 (i : Int)))],ofH [(0,.box 66 [.nl 1,.nl 1,.nl 1,.nl 1]),(1,.box 66 [.orow 2,.orow 3,.s (.sl 1 (first.map (irow .i64))),.s (.sl 1 (other.map (irow .i64)))]),(2,.arow 43 1 (nils i ++ [.orow 4] :: zAP L)),(3,.arow 43 1 (nils (min (i + 1) a.length) ++ zAP P)),(4,.row 3 1 ((List.replicate (b.length + 1) 0).map (irow .i64)))],5⟩) (Le.rename [(0,0),(1,1),(2,2),(3,3),(4,4)] _ _ 5 ⟨rfl,rfl,rfl,rfl,rfl,trivial⟩ ⟨rfl,⟨_,rfl,rfl⟩,rfl,⟨_,rfl,rfl⟩,rfl,⟨_,rfl,?_⟩,rfl,⟨_,rfl,?_⟩,rfl,⟨_,rfl,?_⟩,trivial⟩ rfl rfl rfl ?_ rfl) ?_
    ·show Ob.arow 43 1 (List.map (AV.renAll _) ((nils (i + 1) ++ zAP L).set i (((nils (i + 1) ++ zAP L).getD i []).take 0 ++ [AV.orow 4] ++ ((nils (i + 1) ++ zAP L).getD i []).drop 1))) = _;rw [zPT,show ([AV.s (S.sl 1 [])].take 0 ++ [AV.orow 4] ++ [AV.s (S.sl 1 [])].drop 1) = [AV.orow 4] from rfl,zSx]
     simp [zG8,zFO,AV.renAll,AV.ren,look]
     rfl
    ·show Ob.arow 43 1 (List.map (AV.renAll _) (nils (min (i + 1) a.length) ++ zAP P)) = _;simp [zG8,zFO]
    ·show Ob.row 3 1 (List.replicate (b.length + 1) [S.int .i64 0]) = _;simp [irow]
    ·simp only [ltH,Ob.lt,zGZ,lt_1]; rfl
    rcases hI with ⟨hin,rfl,rfl⟩ | ⟨hin,hrows⟩
    ·obtain rfl : i = a.length :=(by omega);refine zAa ?_;refine zAa ?_;refine zAb [] [39,40] rfl ?_;intro n1 hn1;obtain rfl : (a.length : Int) = n1:=(hn1.trans (congrArg (fun m : Nat=>(m : Int)) (rlen Nd.encs_eq a))).symm;intro b40 h40;obtain rfl : false = b40:=(h40.trans (decide_eq_false (Int.lt_irrefl _))).symm;show Tri ..;refine zAd rfl (fun h=>by cases h) (fun _=>?_)
     refine zAg ?_;show Tri ..;refine zAa ?_;refine zAb [] [49] rfl ?_;intro n1 hn1;obtain rfl : (b.length : Int) = n1:=(hn1.trans (congrArg (fun m : Nat=>(m : Int)) (rlen Nd.encs_eq b))).symm;show Tri ..
     refine zAr ⟨ofL [(0,.s (.sl 4 (Nd.encs a))),(1,.s (.sl 4 (Nd.encs b))),(4,.op 0 0),(5,.op 1 0),(6,.s (.int .i64 (a.length : Int)))],ofH [(0,.box 66 [.nl 1,.nl 1,.nl 1,.nl 1]),(1,.box 66 [.orow 2,.orow 3,.s (.sl 1 (first.map (irow .i64))),.s (.sl 1 (other.map (irow .i64)))]),(2,.arow 43 1 (nils a.length ++ [.orow 4] :: zAP [])),(3,.arow 43 1 (nils (min (a.length + 1) a.length) ++ zAP [])),(4,.row 3 1 ((zA1 other).map (irow .i64)))],5⟩ ?_ (fun σ' hle=>?_)
     ·refine zAl (zAI (X:=Nat × List Int) (fun y=>match y with | (k,rd)=>⟨ofL [(0,.s (.sl 4 (Nd.encs a))),(1,.s (.sl 4 (Nd.encs b))),(4,.op 0 0),(5,.op 1 0),(6,.s (.int .i64 (a.length : Int))),(7,.s (.int .i64 ((k : Int) - 1)))],ofH [(0,.box 66 [.nl 1,.nl 1,.nl 1,.nl 1]),(1,.box 66 [.orow 2,.orow 3,.s (.sl 1 (first.map (irow .i64))),.s (.sl 1 (other.map (irow .i64)))]),(2,.arow 43 1 (nils a.length ++ [.orow 4] :: zAP [])),(3,.arow 43 1 (nils (min (a.length + 1) a.length) ++ zAP [])),(4,.row 3 1 ((List.replicate k 0 ++ rd).map (irow .i64)))],5⟩)
       (fun y=>match y with | (k,rd)=>(k = b.length + 1 ∧ rd = []) ∨ (k ≤ b.length ∧ rd = zA1 (other.drop k))) (fun y=>y.1) (b.length + 1,[]) (.inl ⟨rfl,rfl⟩) ?_ ?_)
      ·refine Le.rename [(0,0),(1,1),(2,2),(3,3),(4,4)] _ _ 5 ⟨rfl,rfl,rfl,rfl,rfl,congrArg (fun z=>AV.s (.int .i64 z)) (by omega),trivial⟩ ⟨rfl,⟨_,rfl,rfl⟩,rfl,⟨_,rfl,rfl⟩,rfl,⟨_,rfl,zG7 _ rfl⟩,rfl,⟨_,rfl,zSr _⟩,rfl,⟨_,rfl,?_⟩,trivial⟩ rfl rfl rfl (by simp only [ltH,Ob.lt,zGZ,lt_1]; rfl) rfl;show Ob.row 3 1 _ = Ob.row 3 1 _;simp
      ·rintro ⟨k,rd⟩ hI;refine zAa ?_;refine zAa ?_;refine zAb [] [51] rfl ?_;intro b51 h51;show Tri ..;refine zAd rfl (fun hb=>?_) (fun hb=>?_)
       ·refine zAg ?_;show Tri ..;have hk : 1 ≤ k:=by
         rw [h51] at hb;have:=of_decide_eq_true hb; omega
        obtain ⟨j,rfl⟩ : ∃ j,k = j + 1:=⟨k - 1,by omega⟩
        refine zAj (Le.forget [(0,.s (.sl 4 (Nd.encs a))),(1,.s (.sl 4 (Nd.encs b))),(4,.op 0 0),(5,.op 1 0),(6,.s (.int .i64 (a.length : Int))),(7,.s (.int .i64 (j : Int)))] ⟨rfl,rfl,rfl,rfl,rfl,congrArg (fun z=>AV.s (.int .i64 z)) (by omega),trivial⟩) ?_;refine zAa ?_;have wj : IntKind.i64.wrap ((j : Int) - 1) = (j : Int) - 1:=wrap64_in (by omega) (by rcases hI with h | h <;> omega)
        refine zAl ?_;refine zAl ?_;refine zAa ?_;refine zAb [] [140,141,145] rfl ?_;intro n1 hn1;obtain rfl : (a.length : Int) = n1:=(hn1.trans (congrArg (fun m : Nat=>(m : Int)) (rlen Nd.encs_eq a))).symm;intro b1 hb1;obtain rfl : true = b1:=(hb1.trans (beq_self_eq_true _)).symm;intro n1 hn1;obtain rfl : (b.length : Int) = n1:=(hn1.trans (congrArg (fun m : Nat=>(m : Int)) (rlen Nd.encs_eq b))).symm;show Tri ..;refine zAd rfl (fun hb2=>?_) (fun hb2=>?_)
        ·refine zAg ?_;show Tri ..;refine zAb [] [] rfl ?_;have hj : j = b.length:=Int.ofNat.inj (eq_of_beq hb2)
         refine ⟨(j,[0]),.inr ⟨by omega,by rw [hj,← hlen.2.2,List.drop_length]; rfl⟩,Le.rename [(0,0),(1,1),(2,2),(3,3),(4,4)] _ _ 5 ⟨rfl,rfl,rfl,rfl,rfl,congrArg (fun z=>AV.s (.int .i64 z)) wj,trivial⟩ ⟨rfl,⟨_,rfl,rfl⟩,rfl,⟨_,rfl,rfl⟩,rfl,⟨_,rfl,zG7 _ rfl⟩,rfl,⟨_,rfl,zSr _⟩,rfl,⟨_,rfl,?_⟩,trivial⟩ rfl rfl rfl (by simp only [ltH,Ob.lt,zGZ,lt_1]; rfl) rfl,Nat.lt_succ_self j⟩
         rcases hI with ⟨_,rfl⟩ | ⟨h,_⟩
         ·show Ob.row 3 1 _ = Ob.row 3 1 _;rw [List.append_nil,List.replicate_succ']
         ·omega
        ·have hj : j ≠ b.length:=fun e=>by rw [e] at hb2; simp at hb2
         obtain ⟨hj2,rfl⟩ : j + 1 ≤ b.length ∧ rd = zA1 (other.drop (j + 1)):=by
          rcases hI with ⟨h,_⟩ | h
          ·omega
          ·exact h
         refine zAa ?_;refine zAb [] [151,152] rfl ?_;intro n1 hn1;obtain rfl : (a.length : Int) = n1:=(hn1.trans (congrArg (fun m : Nat=>(m : Int)) (rlen Nd.encs_eq a))).symm;intro b1 hb1;obtain rfl : true = b1:=(hb1.trans (beq_self_eq_true _)).symm;show Tri ..;refine zAd rfl (fun _=>?_) (fun h=>by cases h)
         refine zAB (by exact tokW) (by exact gok) (by exact mixed) [] [165,171] [1,3,4,7,9,10,13,14,16,21,22] rfl (by decide +kernel) ?_;have hlt1 : a.length < (nils a.length ++ [AV.orow 4] :: zAP []).length :=(by simp [nils]);refine And.intro ⟨Int.natCast_nonneg _,Int.ofNat_lt.2 hlt1⟩ ?_;refine And.intro hlt1 ⟨_,zEj,?_⟩
         refine And.intro ⟨Int.natCast_nonneg _,Int.ofNat_lt.2 hlt1⟩ ?_;refine And.intro hlt1 ⟨_,zEj,?_⟩
         intro z hz;obtain rfl : ((j + 1 : Nat) : Int) = z:=(hz.trans (zAX (by omega))).symm;obtain ⟨v,vs,hv⟩:=zTY (other.drop (j + 1))
         have ho : other[j]? = some (other[j]'(by omega)):=List.getElem?_eq_getElem _;have hdr : other.drop j = other[j]'(by omega) :: other.drop (j + 1):=List.drop_eq_getElem_cons (by omega)
         have g1 : (List.replicate (j + 1) 0 ++ v :: vs)[j + 1]? = some v :=(by simp [List.getElem?_append]);have hlt2 : j + 1 < (List.map (irow .i64) (List.replicate (j + 1) 0 ++ v :: vs)).length :=(by simp);rw [hv]
         refine And.intro ⟨Int.natCast_nonneg _,Int.ofNat_lt.2 hlt2⟩ ?_;refine And.intro hlt2 ⟨_,zDU g1,?_⟩
         refine And.intro ⟨Int.natCast_nonneg _,Int.ofNat_lt.2 (by rw [zGY]; omega)⟩ ?_;intro r hr;obtain rfl : [S.int .i64 _] = r:=(hr.trans (zDU ho)).symm;have hlt3 : j < (List.map (irow .i64) (List.replicate (j + 1) 0 ++ v :: vs)).length :=(by simp; omega);refine And.intro ⟨Int.natCast_nonneg _,Int.ofNat_lt.2 hlt3⟩ ?_;refine And.intro hlt3 ?_;show Tri ..;refine zAb [] [] rfl ?_
         refine ⟨(j,zA1 (other.drop j)),.inr ⟨by omega,rfl⟩,Le.rename [(0,0),(1,1),(2,2),(3,3),(4,4)] _ _ 5 ⟨rfl,rfl,rfl,rfl,rfl,congrArg (fun z=>AV.s (.int .i64 z)) wj,trivial⟩ ⟨rfl,⟨_,rfl,rfl⟩,rfl,⟨_,rfl,rfl⟩,rfl,⟨_,rfl,zG7 _ rfl⟩,rfl,⟨_,rfl,zSr _⟩,rfl,⟨_,rfl,?_⟩,trivial⟩ rfl rfl rfl (by simp only [ltH,Ob.lt,zGZ,lt_1]; rfl) rfl,Nat.lt_succ_self j⟩
         refine congrArg (Ob.row 3 1) ((zOZ (l:=List.replicate (j + 1) 0 ++ v :: vs) (j:=j) (v:=0) (x:=IntKind.i64.wrap (v + other[j]'(by omega))) (by simp [List.getElem?_append])).trans (congrArg (List.map (irow .i64)) ?_))
         rw [hdr]
         simp only [zA1,hv,List.headD_cons]
         exact zLj _
       ·refine zAM ?_;have hk : k = 0:=by
         rw [h51] at hb;have:=of_decide_eq_false hb; omega
        subst hk;rcases hI with ⟨h1,_⟩ | ⟨_,rfl⟩
        ·omega
        ·exact Le.rename [(0,0),(1,1),(2,2),(3,3),(4,4)] _ _ 5 ⟨rfl,rfl,rfl,rfl,rfl,trivial⟩ ⟨rfl,⟨_,rfl,rfl⟩,rfl,⟨_,rfl,rfl⟩,rfl,⟨_,rfl,zG7 _ rfl⟩,rfl,⟨_,rfl,zSr _⟩,rfl,⟨_,rfl,rfl⟩,trivial⟩ rfl rfl rfl (by simp only [ltH,Ob.lt,zGZ,lt_1]; rfl) rfl
     ·show Tri ..;refine zAj hle ?_;refine zAb [] [] rfl ?_;refine ⟨(a.length,[zA1 other],[]),.inr ⟨Nat.le_refl _,by rw [List.drop_length,zOV hp,List.drop_length]; rfl⟩,
       Le.trans (Le.giveRow 4 rfl) (Le.rename [(0,0),(1,1),(2,2),(3,3)] _ _ 4 ⟨rfl,rfl,rfl,rfl,congrArg (fun z=>AV.s (.int .i64 z)) (wrap64_in (by omega) (by omega)),trivial⟩ ⟨rfl,⟨_,rfl,rfl⟩,rfl,⟨_,rfl,rfl⟩,rfl,⟨_,rfl,zXa (a:=a.length) (p:=fun _=>.junk) _ rfl⟩,rfl,⟨_,rfl,(zWQ _ _ _).trans (by rw [Nat.min_eq_right (Nat.le_succ _),Nat.min_self])⟩,trivial⟩ rfl rfl rfl (by simp only [ltH,Ob.lt,zGZ,lt_1]; rfl) rfl),Nat.lt_succ_self _⟩
    ·have hlf:=zOV hp;have hbl:=hlen.2.2;obtain ⟨⟨L2,P2⟩,hq⟩:=zQK hp i (by omega)
     have ha : a[i]? = some (a[i]'(by omega)):=List.getElem?_eq_getElem _;have hf : first[i]? = some (first[i]'(by omega)):=List.getElem?_eq_getElem _;have hq0:=hq;rw [List.drop_eq_getElem_cons (show i < a.length by omega),List.drop_eq_getElem_cons (show i < first.length by omega)] at hq;generalize a[i]'(by omega) = x at ha hq;generalize first[i]'(by omega) = f at hf hq;simp only [zAO,hrows] at hq;obtain ⟨p0,hp0,hq⟩:=zAc hq;cases hp0;cases L with
     | nil=>cases hq
     | cons r1 L =>
     dsimp only at hq;obtain ⟨⟨rr,ss⟩,hrow,hq⟩:=zAc hq;simp only [Option.some.injEq,Prod.mk.injEq] at hq;obtain ⟨rfl,rfl⟩:=hq;have hrl:=zRO hrow;dsimp only at hrl;refine zAa ?_;refine zAa ?_;refine zAb [] [39,40] rfl ?_;intro n1 hn1;obtain rfl : (a.length : Int) = n1:=(hn1.trans (congrArg (fun m : Nat=>(m : Int)) (rlen Nd.encs_eq a))).symm;intro b40 h40;obtain rfl : true = b40:=(h40.trans (decide_eq_true (by omega))).symm;show Tri ..;refine zAd rfl (fun _=>?_) (fun h=>by cases h)
     refine zDI (by exact tokW) (by exact gok) (by exact mixed) [46] [45] [1,5,6,7] [1,6] rfl (by decide +kernel) ?_;intro n1 hn1;obtain rfl : (b.length : Int) = n1:=(hn1.trans (congrArg (fun m : Nat=>(m : Int)) (rlen Nd.encs_eq b))).symm;refine And.intro (show 0 ≤ _ ∧ _ from ⟨by omega,Int.le_refl _,show ((b.length : Nat) : Int) * ((8 : Nat) : Int) ≤ 281474976710656 by omega,by omega⟩) ?_;have hm1 : min (i + 1) a.length = i + 1:=Nat.min_eq_left hin;have hlt1 : i < (nils (min (i + 1) a.length) ++ zAP P).length :=(by rw [hm1]; simp [nils]; omega);refine And.intro ⟨Int.natCast_nonneg _,Int.ofNat_lt.2 hlt1⟩ ?_;refine And.intro hlt1 ?_;show Tri ..
     refine zAj (σ':=⟨ofL [(0,.s (.sl 4 (Nd.encs a))),(1,.s (.sl 4 (Nd.encs b))),(4,.op 0 0),(5,.op 1 0),(6,.s (.int .i64 (i : Int)))],ofH [(0,.box 66 [.nl 1,.nl 1,.nl 1,.nl 1]),(1,.box 66 [.orow 2,.orow 3,.s (.sl 1 (first.map (irow .i64))),.s (.sl 1 (other.map (irow .i64)))]),(2,.arow 43 1 (nils i ++ [.orow 4] :: zAP (r1 :: L))),(3,.arow 43 1 (nils i ++ [.orow 5] :: zAP P)),(4,.row 3 1 ((List.replicate (b.length + 1) 0).map (irow .i64))),(5,.row 3 1 ((List.replicate b.length 0).map (irow .i64)))],6⟩) (Le.rename [(0,0),(1,1),(2,2),(3,3),(4,4),(5,5)] _ _ 6 ⟨rfl,rfl,rfl,rfl,rfl,trivial⟩ ⟨rfl,⟨_,rfl,rfl⟩,rfl,⟨_,rfl,rfl⟩,rfl,⟨_,rfl,zG7 _ rfl⟩,rfl,⟨_,rfl,?_⟩,rfl,⟨_,rfl,rfl⟩,rfl,⟨_,rfl,?_⟩,trivial⟩ rfl rfl rfl (by simp only [ltH,Ob.lt,zGZ,lt_1]; rfl) rfl) ?_
     ·show Ob.arow 43 1 (List.map (AV.renAll _) ((nils (min (i + 1) a.length) ++ zAP P).set i (((nils (min (i + 1) a.length) ++ zAP P).getD i []).take 0 ++ [AV.orow 5] ++ ((nils (min (i + 1) a.length) ++ zAP P).getD i []).drop 1))) = _;rw [hm1,zPT,show ([AV.s (S.sl 1 [])].take 0 ++ [AV.orow 5] ++ [AV.s (S.sl 1 [])].drop 1) = [AV.orow 5] from rfl,zSx]
      simp [zG8,zFO,AV.renAll,AV.ren,look]
      rfl
     ·show Ob.row 3 1 (List.replicate b.length [S.int .i64 0]) = _;simp [irow]
     refine zAa ?_;refine zAb [] [49] rfl ?_;intro n1 hn1;obtain rfl : (b.length : Int) = n1:=(hn1.trans (congrArg (fun m : Nat=>(m : Int)) (rlen Nd.encs_eq b))).symm;show Tri ..
     refine zAr ⟨ofL [(0,.s (.sl 4 (Nd.encs a))),(1,.s (.sl 4 (Nd.encs b))),(4,.op 0 0),(5,.op 1 0),(6,.s (.int .i64 (i : Int)))],ofH [(0,.box 66 [.nl 1,.nl 1,.nl 1,.nl 1]),(1,.box 66 [.orow 2,.orow 3,.s (.sl 1 (first.map (irow .i64))),.s (.sl 1 (other.map (irow .i64)))]),(2,.arow 43 1 (nils i ++ [.orow 4] :: zAP (r1 :: L))),(3,.arow 43 1 (nils i ++ [.orow 5] :: zAP P)),(4,.row 3 1 (rr.map (irow .i64))),(5,.row 3 1 (ss.map (irow .i64)))],6⟩ ?_ (fun σ' hle=>?_)
     ·refine zAl (zAI (X:=Nat × List Int × List Int) (fun y=>match y with | (k,rd,sd)=>⟨ofL [(0,.s (.sl 4 (Nd.encs a))),(1,.s (.sl 4 (Nd.encs b))),(4,.op 0 0),(5,.op 1 0),(6,.s (.int .i64 (i : Int))),(7,.s (.int .i64 ((k : Int) - 1)))],ofH [(0,.box 66 [.nl 1,.nl 1,.nl 1,.nl 1]),(1,.box 66 [.orow 2,.orow 3,.s (.sl 1 (first.map (irow .i64))),.s (.sl 1 (other.map (irow .i64)))]),(2,.arow 43 1 (nils i ++ [.orow 4] :: zAP (r1 :: L))),(3,.arow 43 1 (nils i ++ [.orow 5] :: zAP P)),(4,.row 3 1 ((List.replicate k 0 ++ rd).map (irow .i64))),(5,.row 3 1 ((List.replicate (min k b.length) 0 ++ sd).map (irow .i64)))],6⟩)
       (fun y=>match y with | (k,rd,sd)=>(k = b.length + 1 ∧ rd = [] ∧ sd = []) ∨ (k ≤ b.length ∧ zAE (zBL n) x f (b.drop k) (other.drop k) (r1.drop k) = some (rd,sd))) (fun y=>y.1) (b.length + 1,[],[]) (.inl ⟨rfl,rfl,rfl⟩) ?_ ?_)
      ·refine Le.rename [(0,0),(1,1),(2,2),(3,3),(4,4),(5,5)] _ _ 6 ⟨rfl,rfl,rfl,rfl,rfl,congrArg (fun z=>AV.s (.int .i64 z)) (by omega),trivial⟩ ⟨rfl,⟨_,rfl,rfl⟩,rfl,⟨_,rfl,rfl⟩,rfl,⟨_,rfl,zG7 _ rfl⟩,rfl,⟨_,rfl,zG7 _ rfl⟩,rfl,⟨_,rfl,?_⟩,rfl,⟨_,rfl,?_⟩,trivial⟩ rfl rfl rfl (by simp only [ltH,Ob.lt,zGZ,lt_1]; rfl) rfl
       ·show Ob.row 3 1 _ = Ob.row 3 1 _;simp
       ·show Ob.row 3 1 _ = Ob.row 3 1 _;rw [Nat.min_eq_right (Nat.le_succ _)]; simp
      ·rintro ⟨k,rd,sd⟩ hI;refine zAa ?_;refine zAa ?_;refine zAb [] [51] rfl ?_;intro b51 h51;show Tri ..;refine zAd rfl (fun hb=>?_) (fun hb=>?_)
       ·refine zAg ?_;show Tri ..;have hk : 1 ≤ k:=by
         rw [h51] at hb;have:=of_decide_eq_true hb; omega
        obtain ⟨j,rfl⟩ : ∃ j,k = j + 1:=⟨k - 1,by omega⟩
        refine zAj (Le.forget [(0,.s (.sl 4 (Nd.encs a))),(1,.s (.sl 4 (Nd.encs b))),(4,.op 0 0),(5,.op 1 0),(6,.s (.int .i64 (i : Int))),(7,.s (.int .i64 (j : Int)))] ⟨rfl,rfl,rfl,rfl,rfl,congrArg (fun z=>AV.s (.int .i64 z)) (by omega),trivial⟩) ?_;have wj : IntKind.i64.wrap ((j : Int) - 1) = (j : Int) - 1:=wrap64_in (by omega) (by rcases hI with h | h <;> omega)
        have hne : ((i : Int) == (a.length : Int)) = false:=by
         cases e : ((i : Int) == (a.length : Int)) with
         | false=>rfl
         | true=>have:=eq_of_beq e; omega
        refine zAa ?_;refine zAl ?_;refine zAl ?_;refine zAa ?_;refine zAb [] [140,141] rfl ?_;intro n1 hn1;obtain rfl : (a.length : Int) = n1:=(hn1.trans (congrArg (fun m : Nat=>(m : Int)) (rlen Nd.encs_eq a))).symm;intro b1 hb1;obtain rfl : false = b1:=(hb1.trans hne).symm;show Tri ..;refine zAd rfl (fun h=>by cases h) (fun _=>?_)
        refine zAa ?_;refine zAb [] [151,152] rfl ?_;intro n1 hn1;obtain rfl : (a.length : Int) = n1:=(hn1.trans (congrArg (fun m : Nat=>(m : Int)) (rlen Nd.encs_eq a))).symm;intro b1 hb1;obtain rfl : false = b1:=(hb1.trans hne).symm;show Tri ..;refine zAd rfl (fun h=>by cases h) (fun _=>?_)
        refine zAa ?_;refine zAb [] [178] rfl ?_;intro n1 hn1;obtain rfl : (b.length : Int) = n1:=(hn1.trans (congrArg (fun m : Nat=>(m : Int)) (rlen Nd.encs_eq b))).symm;show Tri ..;have hlt1 : i < (nils i ++ [AV.orow 4] :: zAP (r1 :: L)).length :=(by simp [nils]);have hlt2 : i + 1 < (nils i ++ [AV.orow 4] :: zAP (r1 :: L)).length :=(by simp [nils,zAP]);have hlt3 : i < (nils i ++ [AV.orow 5] :: zAP P).length :=(by simp [nils]);refine zAd rfl (fun hb2=>?_) (fun hb2=>?_)
        ·have hj : j = b.length:=Int.ofNat.inj (eq_of_beq hb2)
         obtain ⟨rfl,rfl⟩ : rd = [] ∧ sd = []:=by
          rcases hI with ⟨_,h1,h2⟩ | ⟨h,_⟩
          ·exact ⟨h1,h2⟩
          ·omega
         have hlr : j + 1 = r1.length :=(by omega);have hv : r1[j]? = some (r1[j]'(by omega)):=List.getElem?_eq_getElem _;have hdr : r1.drop j = [r1[j]'(by omega)] :=(by rw [List.drop_eq_getElem_cons (show j < r1.length by omega),List.drop_eq_nil_of_le (by omega)]);generalize r1[j]'(by omega) = v at hv hdr;refine zAB (by exact tokW) (by exact gok) (by exact mixed) [] [189,193,198] [1,3,4,7,10,11,16,21,22] rfl (by decide +kernel) ?_;refine And.intro ⟨Int.natCast_nonneg _,Int.ofNat_lt.2 hlt1⟩ ?_;refine And.intro hlt1 ⟨_,zEj,?_⟩
         intro z hz;obtain rfl : ((i + 1 : Nat) : Int) = z:=(hz.trans (zAX (by omega))).symm;refine And.intro ⟨Int.natCast_nonneg _,Int.ofNat_lt.2 hlt2⟩ ?_;refine And.intro hlt2 ⟨_,zJ6,?_⟩
         refine And.intro ⟨Int.natCast_nonneg _,Int.ofNat_lt.2 (by rw [zGY]; omega)⟩ ?_;intro r hr;obtain rfl : [S.int .i64 v] = r:=(hr.trans (zDU hv)).symm;refine And.intro ⟨Int.natCast_nonneg _,Int.ofNat_lt.2 (by rw [zGY]; omega)⟩ ?_;intro r hr;obtain rfl : [S.int .i64 f] = r:=(hr.trans (zDU hf)).symm;have hlt4 : j < (List.map (irow .i64) (List.replicate (j + 1) 0 ++ ([] : List Int))).length :=(by simp);refine And.intro ⟨Int.natCast_nonneg _,Int.ofNat_lt.2 hlt4⟩ ?_;refine And.intro hlt4 ?_;show Tri ..;refine zAb [] [] rfl ?_
         refine ⟨(j,[IntKind.i64.wrap (v + f)],[]),.inr ⟨by omega,by rw [hdr,List.drop_eq_nil_of_le (show b.length ≤ j by omega),List.drop_eq_nil_of_le (show other.length ≤ j by omega)]; rfl⟩,Le.rename [(0,0),(1,1),(2,2),(3,3),(4,4),(5,5)] _ _ 6 ⟨rfl,rfl,rfl,rfl,rfl,congrArg (fun z=>AV.s (.int .i64 z)) wj,trivial⟩ ⟨rfl,⟨_,rfl,rfl⟩,rfl,⟨_,rfl,rfl⟩,rfl,⟨_,rfl,zG7 _ rfl⟩,rfl,⟨_,rfl,zG7 _ rfl⟩,rfl,⟨_,rfl,?_⟩,rfl,⟨_,rfl,?_⟩,trivial⟩ rfl rfl rfl (by simp only [ltH,Ob.lt,zGZ,lt_1]; rfl) rfl,Nat.lt_succ_self j⟩
         ·refine congrArg (Ob.row 3 1) ((zOZ (l:=List.replicate (j + 1) 0 ++ []) (j:=j) (v:=0) (x:=IntKind.i64.wrap (v + f)) (by simp)).trans (congrArg (List.map (irow .i64)) (zLj _)))
         ·show Ob.row 3 1 _ = Ob.row 3 1 _;rw [Nat.min_eq_right (show b.length ≤ j + 1 by omega),Nat.min_eq_right (show b.length ≤ j by omega)]
        ·have hj : j ≠ b.length:=fun e=>by rw [e] at hb2; simp at hb2
         obtain ⟨hj2,hd⟩ : j + 1 ≤ b.length ∧ zAE (zBL n) x f (b.drop (j + 1)) (other.drop (j + 1)) (r1.drop (j + 1)) = some (rd,sd):=by
          rcases hI with ⟨h,_⟩ | h
          ·omega
          ·exact h
         obtain ⟨q,hq⟩:=row_drop hrow j (by omega)
         have hqq:=hq;have hv : r1[j]? = some (r1[j]'(by omega)):=List.getElem?_eq_getElem _;have hv2 : r1[j + 1]? = some (r1[j + 1]'(by omega)):=List.getElem?_eq_getElem _;have ho : other[j]? = some (other[j]'(by omega)):=List.getElem?_eq_getElem _;have hy : b[j]? = some (b[j]'(by omega)):=List.getElem?_eq_getElem _;rw [List.drop_eq_getElem_cons (show j < b.length by omega),List.drop_eq_getElem_cons (show j < other.length by omega),List.drop_eq_getElem_cons (show j < r1.length by omega),List.drop_eq_getElem_cons (show j + 1 < r1.length by omega)] at hq;rw [List.drop_eq_getElem_cons (show j + 1 < r1.length by omega)] at hd;generalize r1[j]'(by omega) = v at hv hq
         generalize r1[j + 1]'(by omega) = v2 at hv2 hq hd;generalize other[j]'(by omega) = o at ho hq;generalize b[j]'(by omega) = y at hy hq;simp only [zAE,hd] at hq;obtain ⟨p0,hp0,hq⟩:=zAc hq;cases hp0;obtain ⟨c,hc,hq⟩:=zAc hq;have hrdl:=zRO hd;cases rd with
         | nil=>simp at hrdl
         | cons w ws =>
         simp only [List.headD_cons,Option.some.injEq] at hq;have hmj : min (j + 1) b.length = j + 1:=Nat.min_eq_left hj2;have hmj' : min j b.length = j:=Nat.min_eq_left (by omega)
         refine zAa ?_;refine zAB (by exact tokW) (by exact gok) (by exact mixed) [] [62,65] [1,3,4,13,14] rfl (by decide +kernel) ?_;refine And.intro ⟨Int.natCast_nonneg _,Int.ofNat_lt.2 hlt3⟩ ?_;refine And.intro hlt3 ⟨_,zEj,?_⟩
         refine And.intro ⟨Int.natCast_nonneg _,Int.ofNat_lt.2 (by rw [rlen Nd.encs_eq]; omega)⟩ ?_;intro r hr;obtain rfl : Nd.enc x = r:=(hr.trans (zSa ha)).symm;refine And.intro ⟨Int.natCast_nonneg _,Int.ofNat_lt.2 (by rw [rlen Nd.encs_eq]; omega)⟩ ?_;intro r hr;obtain rfl : Nd.enc y = r:=(hr.trans (zSa hy)).symm;refine ⟨_,⟨_,_,_,hc,rfl,rfl⟩,?_⟩
         have hlt5 : j < (List.map (irow .i64) (List.replicate (min (j + 1) b.length) 0 ++ sd)).length :=(by rw [hmj]; simp; omega);refine And.intro ⟨Int.natCast_nonneg _,Int.ofNat_lt.2 hlt5⟩ ?_;refine And.intro hlt5 ?_;show Tri ..
         refine zAj (σ':=⟨ofL [(0,.s (.sl 4 (Nd.encs a))),(1,.s (.sl 4 (Nd.encs b))),(4,.op 0 0),(5,.op 1 0),(6,.s (.int .i64 (i : Int))),(7,.s (.int .i64 (j : Int)))],ofH [(0,.box 66 [.nl 1,.nl 1,.nl 1,.nl 1]),(1,.box 66 [.orow 2,.orow 3,.s (.sl 1 (first.map (irow .i64))),.s (.sl 1 (other.map (irow .i64)))]),(2,.arow 43 1 (nils i ++ [.orow 4] :: zAP (r1 :: L))),(3,.arow 43 1 (nils i ++ [.orow 5] :: zAP P)),(4,.row 3 1 ((List.replicate (j + 1) 0 ++ w :: ws).map (irow .i64))),(5,.row 3 1 ((List.replicate j 0 ++ c :: sd).map (irow .i64)))],6⟩) (Le.rename [(0,0),(1,1),(2,2),(3,3),(4,4),(5,5)] _ _ 6 ⟨rfl,rfl,rfl,rfl,rfl,rfl,trivial⟩ ⟨rfl,⟨_,rfl,rfl⟩,rfl,⟨_,rfl,rfl⟩,rfl,⟨_,rfl,zG7 _ rfl⟩,rfl,⟨_,rfl,zG7 _ rfl⟩,rfl,⟨_,rfl,rfl⟩,rfl,⟨_,rfl,?_⟩,trivial⟩ rfl rfl rfl (by simp only [ltH,Ob.lt,zGZ,lt_1]; rfl) rfl) ?_
         ·refine congrArg (Ob.row 3 1) ((zOZ (l:=List.replicate (min (j + 1) b.length) 0 ++ sd) (j:=j) (v:=0) (x:=c) (by rw [hmj]; simp [List.getElem?_append])).trans (congrArg (List.map (irow .i64)) ?_))
          rw [hmj]; exact zLj _
         have g4 : (List.replicate (j + 1) 0 ++ w :: ws)[j + 1]? = some w :=(by simp [List.getElem?_append]);have hlt4 : j + 1 < (List.map (irow .i64) (List.replicate (j + 1) 0 ++ w :: ws)).length :=(by simp);have hlt4' : j < (List.map (irow .i64) (List.replicate (j + 1) 0 ++ w :: ws)).length :=(by simp; omega);have g5 : (List.replicate j 0 ++ c :: sd)[j]? = some c :=(by simp [List.getElem?_append]);have hlt6 : j < (List.map (irow .i64) (List.replicate j 0 ++ c :: sd)).length :=(by simp);refine zAa ?_;refine zAB (by exact tokW) (by exact gok) (by exact mixed) [] [74,80,86,90,95] [1,3,4,7,8,10,16,19,20,25] rfl (by decide +kernel) ?_
         refine And.intro ⟨Int.natCast_nonneg _,Int.ofNat_lt.2 hlt1⟩ ?_;refine And.intro hlt1 ⟨_,zEj,?_⟩
         intro z hz;obtain rfl : ((j + 1 : Nat) : Int) = z:=(hz.trans (zAX (by omega))).symm;refine And.intro ⟨Int.natCast_nonneg _,Int.ofNat_lt.2 hlt4⟩ ?_;refine And.intro hlt4 ⟨_,zDU g4,?_⟩
         refine And.intro ⟨Int.natCast_nonneg _,Int.ofNat_lt.2 (by rw [zGY]; omega)⟩ ?_;intro r hr;obtain rfl : [S.int .i64 o] = r:=(hr.trans (zDU ho)).symm;intro z hz;obtain rfl : ((i + 1 : Nat) : Int) = z:=(hz.trans (zAX (by omega))).symm;refine And.intro ⟨Int.natCast_nonneg _,Int.ofNat_lt.2 hlt2⟩ ?_;refine And.intro hlt2 ⟨_,zJ6,?_⟩
         refine And.intro ⟨Int.natCast_nonneg _,Int.ofNat_lt.2 (by rw [zGY]; omega)⟩ ?_;intro r hr;obtain rfl : [S.int .i64 v] = r:=(hr.trans (zDU hv)).symm;refine And.intro ⟨Int.natCast_nonneg _,Int.ofNat_lt.2 (by rw [zGY]; omega)⟩ ?_;intro r hr;obtain rfl : [S.int .i64 f] = r:=(hr.trans (zDU hf)).symm;show Tri ..;refine zAa ?_;refine zAa ?_;refine zAb [] [] rfl ?_;refine And.intro ⟨Int.natCast_nonneg _,Int.ofNat_lt.2 hlt3⟩ ?_;refine And.intro hlt3 ⟨_,zEj,?_⟩
         refine And.intro ⟨Int.natCast_nonneg _,Int.ofNat_lt.2 hlt6⟩ ?_;refine And.intro hlt6 ⟨_,zDU g5,?_⟩
         show Tri ..;refine zAr ⟨ofL [(0,.s (.sl 4 (Nd.encs a))),(1,.s (.sl 4 (Nd.encs b))),(4,.op 0 0),(5,.op 1 0),(6,.s (.int .i64 (i : Int))),(7,.s (.int .i64 (j : Int))),(8,.s (.int .i64 (q.1.headD 0)))],ofH [(0,.box 66 [.nl 1,.nl 1,.nl 1,.nl 1]),(1,.box 66 [.orow 2,.orow 3,.s (.sl 1 (first.map (irow .i64))),.s (.sl 1 (other.map (irow .i64)))]),(2,.arow 43 1 (nils i ++ [.orow 4] :: zAP (r1 :: L))),(3,.arow 43 1 (nils i ++ [.orow 5] :: zAP P)),(4,.row 3 1 ((List.replicate (j + 1) 0 ++ w :: ws).map (irow .i64))),(5,.row 3 1 ((List.replicate j 0 ++ c :: sd).map (irow .i64)))],6⟩ ?_ (fun σ' hle=>?_)
         ·refine zAd rfl (fun hb3=>?_) (fun hb3=>?_)
          ·refine zAB (by exact tokW) (by exact gok) (by exact mixed) [] [112,116,117] [2,5,6,12,14,15,17,18] rfl (by decide +kernel) ?_;intro z hz;obtain rfl : ((i + 1 : Nat) : Int) = z:=(hz.trans (zAX (by omega))).symm;refine And.intro ⟨Int.natCast_nonneg _,Int.ofNat_lt.2 hlt2⟩ ?_;refine And.intro hlt2 ⟨_,zJ6,?_⟩
           intro z hz;obtain rfl : ((j + 1 : Nat) : Int) = z:=(hz.trans (zAX (by omega))).symm;refine And.intro ⟨Int.natCast_nonneg _,Int.ofNat_lt.2 (by rw [zGY]; omega)⟩ ?_;intro r hr;obtain rfl : [S.int .i64 v2] = r:=(hr.trans (zDU hv2)).symm;refine And.intro ⟨Int.natCast_nonneg _,Int.ofNat_lt.2 hlt3⟩ ?_;refine And.intro hlt3 ⟨_,zEj,?_⟩
           refine And.intro ⟨Int.natCast_nonneg _,Int.ofNat_lt.2 hlt6⟩ ?_;refine And.intro hlt6 ⟨_,zDU g5,?_⟩
           refine Le.rename [(0,0),(1,1),(2,2),(3,3),(4,4),(5,5)] _ _ 6 ⟨rfl,rfl,rfl,rfl,rfl,rfl,?_,trivial⟩ ⟨rfl,⟨_,rfl,rfl⟩,rfl,⟨_,rfl,rfl⟩,rfl,⟨_,rfl,zG7 _ rfl⟩,rfl,⟨_,rfl,zG7 _ rfl⟩,rfl,⟨_,rfl,rfl⟩,rfl,⟨_,rfl,rfl⟩,trivial⟩ rfl rfl rfl (by simp only [ltH,Ob.lt,zGZ,lt_1]; rfl) rfl;have h0 : 0 ≤ c:=of_decide_eq_true hb3;rw [if_pos h0] at hq;rw [← hq]
           rfl
          ·refine zAg ?_;refine Le.rename [(0,0),(1,1),(2,2),(3,3),(4,4),(5,5)] _ _ 6 ⟨rfl,rfl,rfl,rfl,rfl,rfl,?_,trivial⟩ ⟨rfl,⟨_,rfl,rfl⟩,rfl,⟨_,rfl,rfl⟩,rfl,⟨_,rfl,zG7 _ rfl⟩,rfl,⟨_,rfl,zG7 _ rfl⟩,rfl,⟨_,rfl,rfl⟩,rfl,⟨_,rfl,rfl⟩,trivial⟩ rfl rfl rfl (by simp only [ltH,Ob.lt,zGZ,lt_1]; rfl) rfl;have h0 : ¬ 0 ≤ c:=of_decide_eq_false hb3;rw [if_neg h0] at hq;rw [← hq]
           rfl
         ·show Tri ..;refine zAj hle ?_;refine zAb [] [] rfl ?_;refine And.intro ⟨Int.natCast_nonneg _,Int.ofNat_lt.2 hlt1⟩ ?_;refine And.intro hlt1 ⟨_,zEj,?_⟩
          refine And.intro ⟨Int.natCast_nonneg _,Int.ofNat_lt.2 hlt4'⟩ ?_;refine And.intro hlt4' ?_;show Tri ..;refine zAb [] [] rfl ?_;refine ⟨(j,q.1,q.2),.inr ⟨by omega,hqq⟩,Le.rename [(0,0),(1,1),(2,2),(3,3),(4,4),(5,5)] _ _ 6 ⟨rfl,rfl,rfl,rfl,rfl,congrArg (fun z=>AV.s (.int .i64 z)) wj,trivial⟩ ⟨rfl,⟨_,rfl,rfl⟩,rfl,⟨_,rfl,rfl⟩,rfl,⟨_,rfl,zG7 _ rfl⟩,rfl,⟨_,rfl,zG7 _ rfl⟩,rfl,⟨_,rfl,?_⟩,rfl,⟨_,rfl,?_⟩,trivial⟩ rfl rfl rfl (by simp only [ltH,Ob.lt,zGZ,lt_1]; rfl) rfl,Nat.lt_succ_self j⟩
          ·refine congrArg (Ob.row 3 1) ((zOZ (l:=List.replicate (j + 1) 0 ++ w :: ws) (j:=j) (v:=0) (x:=q.1.headD 0) (by simp [List.getElem?_append])).trans (congrArg (List.map (irow .i64)) ((zLj _).trans ?_)))
           rw [← hq]; rfl
          ·show Ob.row 3 1 _ = Ob.row 3 1 _;rw [hmj',← hq]
       ·refine zAM ?_;have hk : k = 0:=by
         rw [h51] at hb;have:=of_decide_eq_false hb; omega
        subst hk;rcases hI with ⟨h1,_⟩ | ⟨_,h1⟩
        ·omega
        ·simp only [List.drop_zero,hrow,Option.some.injEq,Prod.mk.injEq] at h1;obtain ⟨rfl,rfl⟩:=h1;refine Le.rename [(0,0),(1,1),(2,2),(3,3),(4,4),(5,5)] _ _ 6 ⟨rfl,rfl,rfl,rfl,rfl,trivial⟩ ⟨rfl,⟨_,rfl,rfl⟩,rfl,⟨_,rfl,rfl⟩,rfl,⟨_,rfl,zG7 _ rfl⟩,rfl,⟨_,rfl,zG7 _ rfl⟩,rfl,⟨_,rfl,rfl⟩,rfl,⟨_,rfl,?_⟩,trivial⟩ rfl rfl rfl (by simp only [ltH,Ob.lt,zGZ,lt_1]; rfl) rfl;show Ob.row 3 1 _ = Ob.row 3 1 _;rw [Nat.zero_min]; rfl
     ·show Tri ..;refine zAj hle ?_;refine zAb [] [] rfl ?_;refine ⟨(i,rr :: r1 :: L,ss :: P),.inr ⟨by omega,hq0⟩,
       Le.trans (Le.giveRow 4 rfl) (Le.trans (Le.giveRow 5 rfl) (Le.rename [(0,0),(1,1),(2,2),(3,3)] _ _ 4 ⟨rfl,rfl,rfl,rfl,congrArg (fun z=>AV.s (.int .i64 z)) (wrap64_in (by omega) (by omega)),trivial⟩ ⟨rfl,⟨_,rfl,rfl⟩,rfl,⟨_,rfl,rfl⟩,rfl,⟨_,rfl,?_⟩,rfl,⟨_,rfl,?_⟩,trivial⟩ rfl rfl rfl (by simp only [ltH,Ob.lt,zGZ,lt_1]; rfl) rfl)),Nat.lt_succ_self _⟩
      ·simp [Ob.frz,Ob.ren,nils,zAP,AV.frzAll,AV.frz,AV.renAll,AV.ren]
      ·rw [Nat.min_eq_left (show i ≤ a.length by omega)]
       simp [Ob.frz,Ob.ren,nils,zAP,AV.frzAll,AV.frz,AV.renAll,AV.ren]
   ·refine zAM ?_;have hk : k = 0:=by
     rw [h26] at hb;have:=of_decide_eq_false hb; omega
    subst hk;rcases hI with ⟨h1,_⟩ | ⟨_,h1⟩
    ·omega
    ·simp only [List.drop_zero,hp,Option.some.injEq] at h1;subst h1;exact Le.rename [(0,0),(1,1),(2,2),(3,3)] _ _ 4 ⟨rfl,rfl,rfl,rfl,trivial⟩ ⟨rfl,⟨_,rfl,rfl⟩,rfl,⟨_,rfl,rfl⟩,rfl,⟨_,rfl,congrArg (Ob.arow 43 1) (zFO _)⟩,rfl,⟨_,rfl,congrArg (Ob.arow 43 1) ((congrArg (fun m=>(nils m ++ zAP P).map (AV.renAll _)) (Nat.zero_min _)).trans (zFO _))⟩,trivial⟩ rfl rfl rfl (by simp only [ltH,Ob.lt,lt_p]; rfl) rfl
 ·show Tri ..;refine zAj hle ?_;refine zAa ?_;refine zAb [] [] rfl ?_;show Tri ..;refine zAh ?_;have hy:=Option.some.inj h;subst hy;unfold zAA;refine ⟨_,Le.giveWhole [(4,.s (.pt (zAv (p.1,p.2,first,other))))] ⟨.box rfl rfl fun i x s hx hs=>?_,trivial⟩ rfl,rfl,rfl⟩
  match i,hx,hs with
  | 0,hx,hs=>cases hx; cases hs; exact zQI rfl
  | 1,hx,hs=>cases hx; cases hs; exact zQI rfl
  | 2,hx,hs=>cases hx; cases hs; exact .s _
  | 3,hx,hs=>cases hx; cases hs; exact .s _
  | i + 4,hx,hs=>simp at hx
theorem zKl (n : Nat) (ih_diff_fill : PSound Tryz.prog 37 (zAG (zEy n))) (ih_diff_pairing : PSound Tryz.prog 62 (zAG (zDN n))) : PSound Tryz.prog 62 (zAG (zDN (n + 1))):=by
 have gok : ∀ f s,look? f [(37,zAG (zEy n))] = some s → PSound Tryz.prog f s:=zAu (by
  simp only [List.forall_mem_cons]
  exact ⟨ih_diff_fill,by simp⟩)
 refine zAK tokW Tryz.call62 Tryz.func62 rfl (fun xs r h=>by obtain ⟨_,_,_,_,rfl,_⟩:=h; show 2 ≤ 83; decide) 83 rfl ?_;rintro xs r w0 G0 ⟨⟨a1A,a1C,a1D,a1B⟩,⟨a2A,a2C,a2D,a2B⟩,y0,h,rfl,rfl⟩ _;rw [zBL] at h;refine zAa ?_;refine zAb [] [] rfl ?_;show Tri ..;refine zAa ?_;refine zAa ?_;obtain ⟨x3,hj,h⟩:=zAc h;refine zAr ⟨ofL [(0,.s (.pt [.int .i64 a1A,.str a1C,.int .i64 a1D,.sl 4 (Nd.encs a1B)])),(1,.s (.pt [.int .i64 a2A,.str a2C,.int .i64 a2D,.sl 4 (Nd.encs a2B)])),(39,.s (.bool x3))],fun _=>none,0⟩ ?_ (fun σ' hle=>?_)
 ·replace h:=hj;refine zAB (by exact tokW) (by exact gok) (by exact mixed) [] [16,27,32,37] [] rfl (by decide +kernel) ?_;intro b hb;cases b with
  | true =>
   replace h:=zAn hb.symm h;intro b hb;subst hb;cases h;exact (Le.forget _ ⟨rfl,rfl,rfl,trivial⟩)
  | false =>
   replace h:=zAm hb.symm h;intro b hb;cases b with
   | true =>
    replace h:=zAn hb.symm h;cases h;exact (Le.forget _ ⟨rfl,rfl,rfl,trivial⟩)
   | false =>
    replace h:=zAm hb.symm h;intro n4 hn4;obtain rfl : (a1B.length : Int) = n4:=(hn4.trans (congrArg (fun m : Nat=>(m : Int)) (rlen Nd.encs_eq a1B))).symm;intro n5 hn5;obtain rfl : (a2B.length : Int) = n5:=(hn5.trans (congrArg (fun m : Nat=>(m : Int)) (rlen Nd.encs_eq a2B))).symm;cases h;exact (Le.forget _ ⟨rfl,rfl,rfl,trivial⟩)
 ·show Tri ..;refine zAj hle ?_;refine zAd rfl (fun hb=>?_) (fun hb=>?_)
  ·replace h:=zAn hb h;refine zAa ?_;refine zAb [] [] rfl ?_;show Tri ..;refine zAh ?_;have hy:=Option.some.inj h;subst hy;unfold zAA;exact ⟨_,Le.refl _ _,rfl,rfl⟩
  ·replace h:=zAm hb h;refine zAg ?_;show Tri ..;refine zAa ?_;refine zAb [] [] rfl ?_;show Tri ..;refine zAa ?_;refine zAa ?_;refine zAB (by exact tokW) (by exact gok) (by exact mixed) [] [] [] rfl (by decide +kernel) ?_;show Tri ..;obtain ⟨x6,hj,h⟩:=zAc h;refine zAr ⟨ofL [(0,.s (.pt [.int .i64 a1A,.str a1C,.int .i64 a1D,.sl 4 (Nd.encs a1B)])),(1,.s (.pt [.int .i64 a2A,.str a2C,.int .i64 a2D,.sl 4 (Nd.encs a2B)])),(5,.s (.int .i64 x6))],fun _=>none,0⟩ ?_ (fun σ' hle=>?_)
   ·replace h:=hj;refine zAd rfl (fun hb=>?_) (fun hb=>?_)
    ·replace h:=zAn hb h;refine zAb [] [] rfl ?_;cases h;exact (Le.forget _ ⟨rfl,rfl,rfl,trivial⟩)
    ·replace h:=zAm hb h;refine zAg ?_;cases h;exact (Le.forget _ ⟨rfl,rfl,rfl,trivial⟩)
   ·show Tri ..;refine zAj hle ?_;refine zAa ?_;refine zAa ?_;refine zAb [] [53] rfl ?_;intro n7 hn7;obtain rfl : (a1B.length : Int) = n7:=(hn7.trans (congrArg (fun m : Nat=>(m : Int)) (rlen Nd.encs_eq a1B))).symm;show Tri ..;obtain ⟨x10,hl,h⟩:=zAc h;refine zAr ⟨ofL [(5,.s (.int .i64 x10))],fun _=>none,0⟩ ?_ (fun σ' hle=>?_)
    ·refine zAl (zAI (X:=Nat × Int × Int) (fun y=>match y with | (k,x8,x9)=>⟨ofL [(0,.s (.pt [.int .i64 a1A,.str a1C,.int .i64 a1D,.sl 4 (Nd.encs a1B)])),(1,.s (.pt [.int .i64 a2A,.str a2C,.int .i64 a2D,.sl 4 (Nd.encs a2B)])),(5,.s (.int .i64 x8)),(53,.s (.int .i64 (a1B.length : Int))),(54,.s (.int .i64 x9))],fun _=>none,0⟩) (fun y=>zBI (zCa n) a1B a2B y.1 y.2.1 y.2.2 = some x10) (fun y=>y.1) (n,x6,0) hl ?_ ?_)
     ·exact (Le.forget _ ⟨rfl,rfl,rfl,rfl,rfl,trivial⟩)
     ·rintro ⟨k,x8,x9⟩ h;cases k with
      | zero=>cases h
      | succ k =>
       replace h : zBI (zCa n) a1B a2B (k+1) x8 x9 = some x10:=h;rw [zBI] at h;refine zAa ?_;refine zAb [] [] rfl ?_;show Tri ..;refine zAa ?_;refine zAd rfl (fun hb=>?_) (fun hb=>?_)
       ·replace h:=zAn hb h;refine zAg ?_;show Tri ..;refine zAa ?_;refine zAl ?_;refine zAa ?_;refine zAb [] [] rfl ?_;show Tri ..;refine zAB (by exact tokW) (by exact gok) (by exact mixed) [] [63,71,76,78] [] rfl (by decide +kernel) ?_;obtain ⟨⟨e11A,e11C,e11D,e11B⟩,he11,h⟩:=zAc h;refine And.intro (zAC Nd.encs_eq he11).1 ?_;intro r12 hr12;obtain rfl : [.int .i64 e11A,.str e11C,.int .i64 e11D,.sl 4 (Nd.encs e11B)] = r12:=(hr12.trans (zAC Nd.encs_eq he11).2.1).symm;obtain ⟨⟨e13A,e13C,e13D,e13B⟩,he13,h⟩:=zAc h;refine And.intro (zAC Nd.encs_eq he13).1 ?_
        intro r14 hr14;obtain rfl : [.int .i64 e13A,.str e13C,.int .i64 e13D,.sl 4 (Nd.encs e13B)] = r14:=(hr14.trans (zAC Nd.encs_eq he13).2.1).symm;obtain ⟨⟨y15Ai,y15Aj,y15Ak,y15Al⟩,hy15,h⟩:=zAc h;refine ⟨_,⟨_,_,_,hy15,rfl,rfl⟩,?_⟩
        obtain ⟨e16,he16,h⟩:=zAc h;refine And.intro (zAC (fun _=>rfl) he16).1 ?_;intro r17 hr17;obtain rfl : [.sl 1 ((List.map (irow .i64)) e16)] = r17:=(hr17.trans (zAC (fun _=>rfl) he16).2.1).symm;obtain ⟨e18,he18,h⟩:=zAc h;refine And.intro (zAC (fun _=>rfl) he18).1 ?_;intro r19 hr19;obtain rfl : [.int .i64 e18] = r19:=(hr19.trans (zAC (fun _=>rfl) he18).2.1).symm;show Tri ..;refine zAb [] [] rfl ?_;refine ⟨(k,IntKind.i64.wrap (x8 + e18),IntKind.i64.wrap (x9 + 1)),h,(Le.forget _ ⟨rfl,rfl,rfl,rfl,rfl,trivial⟩),Nat.lt_succ_self k⟩
       ·replace h:=zAm hb h;refine zAM ?_;cases h;exact (Le.forget _ ⟨rfl,trivial⟩)
    ·show Tri ..;refine zAj hle ?_;refine zAa ?_;refine zAb [] [] rfl ?_;show Tri ..;refine zAh ?_;have hy:=Option.some.inj h;subst hy;unfold zAA;exact ⟨_,Le.refl _ _,rfl,rfl⟩
theorem zMI : ∀ n,PSound Tryz.prog 37 (zAG (zEy n)) ∧ PSound Tryz.prog 62 (zAG (zDN n)):=by
 intro n
 induction n with
 | zero =>
  refine ⟨?_,?_⟩
  ·exact zCz Tryz.call37 (fun xs r h=>by obtain ⟨_,_,_,h,_⟩:=h; rw [zCa] at h; cases h)
  ·exact zCz Tryz.call62 (fun xs r h=>by obtain ⟨_,_,_,h,_⟩:=h; rw [zBL] at h; cases h)
 | succ n ih =>
  obtain ⟨ih_diff_fill,ih_diff_pairing⟩:=ih;exact ⟨zM5 n ih_diff_fill ih_diff_pairing,zKl n ih_diff_fill ih_diff_pairing⟩
def zIJ : zAt:=zAG fun xs r=>∃ n,zEy n xs r
theorem zKJ : PSound Tryz.prog 37 zIJ:=zEd (fun n=>(zMI n).1)
def zE3 (xs : List AV) (os : List Ob) (x : AV) (os' : List (Option Ob)) : Prop:=∃ (a0 : List UInt8) (a1 : List UInt8) (y0 : Int) (y1 : Unit) (z1 : List UInt8),zAk a0 a1 = some (y0,y1,z1) ∧ xs = [.op 0 39,.s (.str a0)] ∧ os = [.box 137 (zA9 (.op 0 39) (.orow 1)),.row 5 1 (List.map brow a1)] ∧ x = .tup [.s (.int .i64 y0),.junk] ∧ os' = [some (.box 137 (zA9 (.op 0 39) (.orow 2))),none,some (.row 5 1 (List.map brow z1))]
def zBS : zAt:=zB6 (fun xs os x os'=>zE3 xs os x os')
theorem zCQ : PSound Tryz.prog 117 zBS:=by
 have gok : ∀ f s,look? f [(119,zB8)] = some s → PSound Tryz.prog f s:=zAu (by
  simp only [List.forall_mem_cons]
  exact ⟨zDj,by simp⟩)
 refine PSound.withNil (zFL tokW Tryz.call117 Tryz.func117 rfl (fun xs os x os' h=>by obtain ⟨_,_,_,_,_,_,rfl,rfl,_,rfl⟩:=h; exact ⟨by show 2 ≤ 19; decide,by show 2 ≤ 3; decide⟩) 19 rfl ?_) _;rintro xs os x os' w0 G0 B0 ⟨s1,b2,y0,y1,z1,h,rfl,rfl,rfl,rfl⟩ _;rw [zAk] at h;refine zAa ?_;refine zAb [] [] rfl ?_;show Tri ..;refine zAa ?_;refine zAb [] [] rfl ?_;obtain ⟨b3,hb3,h⟩:=zAc h;refine ⟨_,_,⟨_,_,hb3,rfl,rfl,rfl,rfl⟩,?_⟩
 show Tri ..;refine zAa ?_;refine zAb [14] [] rfl ?_;obtain ⟨hq,h⟩:=zAR h;refine And.intro (show (((List.map brow) b3).length + (List.map brow s1).length) * 1 ≤ 140737488355328 ∧ ((List.map brow) b3).length + (List.map brow s1).length ≤ 9223372036854775807 from by simp only [List.length_append,List.length_cons,List.length_nil,List.length_map,rlen (fun _=>rfl)] at hq ⊢; omega) ?_;show Tri ..
 refine zAj (Le.rnm [(0,0),(3,2)] [(1,.s (.str s1))] [(0,.box 137 (zA9 (.op 0 39) (.orow 2))),(2,.row 5 1 ((List.map brow) (b3 ++ s1)))] 3 ⟨rfl,trivial⟩ ⟨rfl,⟨_,rfl,rfl⟩,rfl,⟨_,rfl,congrArg (Ob.row 5 1) (by simp [List.map_append,List.map_take,List.map_drop,irow,brow,zAQ,List.map_cons,List.map_nil,zAJ,Nd.encs_eq,Nd.enc,zAq,zAo,zAp,zAv,zAw])⟩,trivial⟩) ?_;refine zAa ?_;refine zAb [] [] rfl ?_;show Tri ..;refine zAh ?_;obtain ⟨hj1,hk1⟩:=Prod.mk.inj (Option.some.inj h)
 subst hj1;obtain ⟨hj2,hk2⟩:=Prod.mk.inj hk1;subst hj2;subst hk2;unfold zBV;exact ⟨_,(Le.rnm [(0,0),(2,2)] [(4,.s (.int .i64 (s1.length : Int)))] [(0,.box 137 (zA9 (.op 0 39) (.orow 2))),(2,.row 5 1 ((List.map brow) (b3 ++ s1)))] 3 ⟨rfl,trivial⟩ ⟨rfl,⟨_,rfl,rfl⟩,rfl,⟨_,rfl,rfl⟩,trivial⟩),rfl,rfl,rfl,rfl,rfl,rfl,trivial⟩
def zFv (xs : List AV) (os : List Ob) (x : AV) (os' : List (Option Ob)) : Prop:=∃ (a0 : UInt8) (a1 : List UInt8) (y0 : Unit) (z1 : List UInt8),zAH a0 a1 = some (y0,z1) ∧ xs = [.op 0 39,.s (.int .u8 (a0.toNat : Int))] ∧ os = [.box 137 (zA9 (.op 0 39) (.orow 1)),.row 5 1 (List.map brow a1)] ∧ x = .junk ∧ os' = [some (.box 137 (zA9 (.op 0 39) (.orow 2))),none,some (.row 5 1 (List.map brow z1))]
def zBy : zAt:=zB6 (fun xs os x os'=>zFv xs os x os')
theorem zBZ : PSound Tryz.prog 98 zBy:=by
 have gok : ∀ f s,look? f [(119,zB8)] = some s → PSound Tryz.prog f s:=zAu (by
  simp only [List.forall_mem_cons]
  exact ⟨zDj,by simp⟩)
 refine PSound.withNil (zFL tokW Tryz.call98 Tryz.func98 rfl (fun xs os x os' h=>by obtain ⟨_,_,_,_,_,rfl,rfl,_,rfl⟩:=h; exact ⟨by show 2 ≤ 17; decide,by show 2 ≤ 3; decide⟩) 17 rfl ?_) _;rintro xs os x os' w0 G0 B0 ⟨c1,b2,y0,z1,h,rfl,rfl,rfl,rfl⟩ _;rw [zAH] at h;refine zAa ?_;refine zAb [] [] rfl ?_;show Tri ..;refine zAa ?_;refine zAb [] [] rfl ?_;obtain ⟨b3,hb3,h⟩:=zAc h;refine ⟨_,_,⟨_,_,hb3,rfl,rfl,rfl,rfl⟩,?_⟩
 show Tri ..;refine zAa ?_;refine zAb [14] [13] rfl ?_;intro r4 hr4;obtain rfl : (List.map brow) [c1] = r4:=(hr4.trans (by simp [List.map_append,List.map_take,List.map_drop,irow,brow,zAQ,List.map_cons,List.map_nil,zAJ,Nd.encs_eq,Nd.enc,zAq,zAo,zAp,zAv,zAw])).symm;obtain ⟨hq,h⟩:=zAR h
 refine And.intro (show (((List.map brow) b3).length + ((List.map brow) [c1]).length) * 1 ≤ 140737488355328 ∧ ((List.map brow) b3).length + ((List.map brow) [c1]).length ≤ 9223372036854775807 from by simp only [List.length_append,List.length_cons,List.length_nil,List.length_map,rlen (fun _=>rfl)] at hq ⊢; omega) ?_;show Tri ..
 refine zAj (Le.rnm [(0,0),(3,2)] [] [(0,.box 137 (zA9 (.op 0 39) (.orow 2))),(2,.row 5 1 ((List.map brow) (b3 ++ [c1])))] 3 trivial ⟨rfl,⟨_,rfl,rfl⟩,rfl,⟨_,rfl,congrArg (Ob.row 5 1) (by simp [List.map_append,List.map_take,List.map_drop,irow,brow,zAQ,List.map_cons,List.map_nil,zAJ,Nd.encs_eq,Nd.enc,zAq,zAo,zAp,zAv,zAw])⟩,trivial⟩) ?_;refine zAa ?_;refine zAb [] [] rfl ?_;show Tri ..;refine zAh ?_;obtain ⟨hj1,hk1⟩:=Prod.mk.inj (Option.some.inj h)
 subst hj1;subst hk1;unfold zBV;exact ⟨_,(Le.rnm [(0,0),(2,2)] [] [(0,.box 137 (zA9 (.op 0 39) (.orow 2))),(2,.row 5 1 ((List.map brow) (b3 ++ [c1])))] 3 trivial ⟨rfl,⟨_,rfl,rfl⟩,rfl,⟨_,rfl,rfl⟩,trivial⟩),rfl,rfl,rfl,rfl,rfl,rfl,trivial⟩
def zJe (n : Nat) (xs : List AV) (os : List Ob) (x : AV) (os' : List (Option Ob)) : Prop:=∃ (a0 : Nd) (a1 : List UInt8) (z1 : List UInt8),zBo n a0 a1 = some z1 ∧ xs = [.op 0 0,.s (.pt (Nd.enc a0))] ∧ os = [.box 137 (zA9 (.op 0 39) (.orow 1)),.row 5 1 (List.map brow a1)] ∧ x = .tup [] ∧ os' = [some (.box 137 (zA9 (.op 0 39) (.orow 2))),none,some (.row 5 1 (List.map brow z1))]
def zF0 : zAt:=zB6 (fun xs os x os'=>∃ n,zJe n xs os x os')
theorem zIY : PSound Tryz.prog 97 zF0:=by
 have gok : ∀ f s,look? f [(117,zBS),(118,zGe),(98,zBy)] = some s → PSound Tryz.prog f s:=zAu (by
  simp only [List.forall_mem_cons]
  exact ⟨zCQ,zHN,zBZ,by simp⟩)
 refine PSound.withNil (zFL tokW Tryz.call97 Tryz.func97 rfl (fun xs os x os' h=>by obtain ⟨n,_,_,_,_,rfl,rfl,_,rfl⟩:=h; exact ⟨by show 2 ≤ 108; decide,by show 2 ≤ 3; decide⟩) 108 rfl ?_) _;rintro xs os x os' w0 G0 B0 ⟨n,⟨a1A,a1C,a1D,a1B⟩,b2,z1,h,rfl,rfl,rfl,rfl⟩ _;rw [zBo] at h;refine zAa ?_;refine zAa ?_;obtain ⟨x3,hj,h⟩:=zAc h;refine zAr ⟨ofL [(0,.op 0 0),(1,.s (.pt [.int .i64 a1A,.str a1C,.int .i64 a1D,.sl 4 (Nd.encs a1B)])),(16,.s (.bool x3))],ofH [(0,.box 137 (zA9 (.op 0 39) (.orow 1))),(1,.row 5 1 ((List.map brow) b2))],2⟩ ?_ (fun σ' hle=>?_)
 ·replace h:=hj;refine zAb [] [10] rfl ?_;intro b hb;cases b with
  | true =>
   replace h:=zAn hb.symm h;cases h;exact (Le.rnm [(0,0),(1,1)] _ _ _ ⟨rfl,rfl,rfl,trivial⟩ ⟨rfl,⟨_,rfl,rfl⟩,rfl,⟨_,rfl,rfl⟩,trivial⟩)
  | false =>
   replace h:=zAm hb.symm h;cases h;exact (Le.rnm [(0,0),(1,1)] _ _ _ ⟨rfl,rfl,rfl,trivial⟩ ⟨rfl,⟨_,rfl,rfl⟩,rfl,⟨_,rfl,rfl⟩,trivial⟩)
 ·show Tri ..;refine zAj hle ?_;obtain ⟨l4,hj,h⟩:=zAc h;refine zAr ⟨ofL [(0,.op 0 0),(1,.s (.pt [.int .i64 a1A,.str a1C,.int .i64 a1D,.sl 4 (Nd.encs a1B)]))],ofH [(0,.box 137 (zA9 (.op 0 39) (.orow 2))),(2,.row 5 1 ((List.map brow) l4))],3⟩ ?_ (fun σ' hle=>?_)
  ·replace h:=hj;refine zAd rfl (fun hb=>?_) (fun hb=>?_)
   ·replace h:=zAn hb h;refine zAB (by exact tokW) (by exact gok) (by exact mixed) [] [24] [12,13] rfl (by decide +kernel) ?_;intro vsp hvsp;cases hc : (a1A == 1) with
    | true =>
     replace h:=zAn hc h;obtain rfl : (1 : Int) = vsp:=(hvsp.trans (eq_of_beq hc)).symm;refine And.intro (by decide) ?_;obtain ⟨⟨y5,_,b7⟩,hy5,h⟩:=zAc h;refine ⟨_,_,⟨_,_,_,_,_,hy5,rfl,rfl,rfl,rfl⟩,?_⟩
     cases h;exact (Le.rnm [(0,0),(2,2)] _ _ _ ⟨rfl,rfl,trivial⟩ ⟨rfl,⟨_,rfl,rfl⟩,rfl,⟨_,rfl,rfl⟩,trivial⟩)
    | false =>
     replace h:=zAm hc h;cases hc : (a1A == 2) with
     | true =>
      replace h:=zAn hc h;obtain rfl : (2 : Int) = vsp:=(hvsp.trans (eq_of_beq hc)).symm;refine And.intro (by decide) ?_;obtain ⟨⟨y8,_,b10⟩,hy8,h⟩:=zAc h;refine ⟨_,_,⟨_,_,_,_,_,hy8,rfl,rfl,rfl,rfl⟩,?_⟩
      cases h;exact (Le.rnm [(0,0),(2,2)] _ _ _ ⟨rfl,rfl,trivial⟩ ⟨rfl,⟨_,rfl,rfl⟩,rfl,⟨_,rfl,rfl⟩,trivial⟩)
     | false =>
      replace h:=zAm hc h;cases hc : (a1A == 3) with
      | true =>
       replace h:=zAn hc h;obtain rfl : (3 : Int) = vsp:=(hvsp.trans (eq_of_beq hc)).symm;refine And.intro (by decide) ?_;obtain ⟨⟨y11,_,b13⟩,hy11,h⟩:=zAc h;refine ⟨_,_,⟨_,_,_,_,_,hy11,rfl,rfl,rfl,rfl⟩,?_⟩
       cases h;exact (Le.rnm [(0,0),(2,2)] _ _ _ ⟨rfl,rfl,trivial⟩ ⟨rfl,⟨_,rfl,rfl⟩,rfl,⟨_,rfl,rfl⟩,trivial⟩)
      | false =>
       replace h:=zAm hc h;cases hc : (a1A == 4) with
       | true =>
        replace h:=zAn hc h;obtain rfl : (4 : Int) = vsp:=(hvsp.trans (eq_of_beq hc)).symm;refine And.intro (by decide) ?_;obtain ⟨⟨y14,_,b16⟩,hy14,h⟩:=zAc h;refine ⟨_,_,⟨_,_,_,_,_,hy14,rfl,rfl,rfl,rfl⟩,?_⟩
        cases h;exact (Le.rnm [(0,0),(2,2)] _ _ _ ⟨rfl,rfl,trivial⟩ ⟨rfl,⟨_,rfl,rfl⟩,rfl,⟨_,rfl,rfl⟩,trivial⟩)
       | false =>
        replace h:=zAm hc h;cases hc : (a1A == 5) with
        | true =>
         replace h:=zAn hc h;obtain rfl : (5 : Int) = vsp:=(hvsp.trans (eq_of_beq hc)).symm;refine And.intro (by decide) ?_;obtain ⟨⟨y17,_,b19⟩,hy17,h⟩:=zAc h;refine ⟨_,_,⟨_,_,_,_,_,hy17,rfl,rfl,rfl,rfl⟩,?_⟩
         cases h;exact (Le.rnm [(0,0),(2,2)] _ _ _ ⟨rfl,rfl,trivial⟩ ⟨rfl,⟨_,rfl,rfl⟩,rfl,⟨_,rfl,rfl⟩,trivial⟩)
        | false =>
         replace h:=zAm hc h;cases hc : (a1A == 6) with
         | true =>
          replace h:=zAn hc h;obtain rfl : (6 : Int) = vsp:=(hvsp.trans (eq_of_beq hc)).symm;refine And.intro (by decide) ?_;obtain ⟨⟨y20,_,b22⟩,hy20,h⟩:=zAc h;refine ⟨_,_,⟨_,_,_,_,_,hy20,rfl,rfl,rfl,rfl⟩,?_⟩
          cases h;exact (Le.rnm [(0,0),(2,2)] _ _ _ ⟨rfl,rfl,trivial⟩ ⟨rfl,⟨_,rfl,rfl⟩,rfl,⟨_,rfl,rfl⟩,trivial⟩)
         | false =>
          replace h:=zAm hc h;cases hc : (a1A == 7) with
          | true =>
           replace h:=zAn hc h;obtain rfl : (7 : Int) = vsp:=(hvsp.trans (eq_of_beq hc)).symm;refine And.intro (by decide) ?_;obtain ⟨⟨y23,_,b25⟩,hy23,h⟩:=zAc h;refine ⟨_,_,⟨_,_,_,_,_,hy23,rfl,rfl,rfl,rfl⟩,?_⟩
           cases h;exact (Le.rnm [(0,0),(2,2)] _ _ _ ⟨rfl,rfl,trivial⟩ ⟨rfl,⟨_,rfl,rfl⟩,rfl,⟨_,rfl,rfl⟩,trivial⟩)
          | false =>
           replace h:=zAm hc h;cases hc : (a1A == 8) with
           | true =>
            replace h:=zAn hc h;obtain rfl : (8 : Int) = vsp:=(hvsp.trans (eq_of_beq hc)).symm;refine And.intro (by decide) ?_;obtain ⟨⟨y26,_,b28⟩,hy26,h⟩:=zAc h;refine ⟨_,_,⟨_,_,_,_,_,hy26,rfl,rfl,rfl,rfl⟩,?_⟩
            cases h;exact (Le.rnm [(0,0),(2,2)] _ _ _ ⟨rfl,rfl,trivial⟩ ⟨rfl,⟨_,rfl,rfl⟩,rfl,⟨_,rfl,rfl⟩,trivial⟩)
           | false =>
            replace h:=zAm hc h;cases hc : (a1A == 9) with
            | true =>
             replace h:=zAn hc h;obtain rfl : (9 : Int) = vsp:=(hvsp.trans (eq_of_beq hc)).symm;refine And.intro (by decide) ?_;obtain ⟨⟨y29,_,b31⟩,hy29,h⟩:=zAc h;refine ⟨_,_,⟨_,_,_,_,_,hy29,rfl,rfl,rfl,rfl⟩,?_⟩
             cases h;exact (Le.rnm [(0,0),(2,2)] _ _ _ ⟨rfl,rfl,trivial⟩ ⟨rfl,⟨_,rfl,rfl⟩,rfl,⟨_,rfl,rfl⟩,trivial⟩)
            | false =>
             replace h:=zAm hc h;cases hc : (a1A == 10) with
             | true =>
              replace h:=zAn hc h;obtain rfl : (10 : Int) = vsp:=(hvsp.trans (eq_of_beq hc)).symm;refine And.intro (by decide) ?_;obtain ⟨⟨y32,_,b34⟩,hy32,h⟩:=zAc h;refine ⟨_,_,⟨_,_,_,_,_,hy32,rfl,rfl,rfl,rfl⟩,?_⟩
              cases h;exact (Le.rnm [(0,0),(2,2)] _ _ _ ⟨rfl,rfl,trivial⟩ ⟨rfl,⟨_,rfl,rfl⟩,rfl,⟨_,rfl,rfl⟩,trivial⟩)
             | false =>
              replace h:=zAm hc h;cases hc : (a1A == 11) with
              | true =>
               replace h:=zAn hc h;obtain rfl : (11 : Int) = vsp:=(hvsp.trans (eq_of_beq hc)).symm;refine And.intro (by decide) ?_;obtain ⟨⟨y35,_,b37⟩,hy35,h⟩:=zAc h;refine ⟨_,_,⟨_,_,_,_,_,hy35,rfl,rfl,rfl,rfl⟩,?_⟩
               cases h;exact (Le.rnm [(0,0),(2,2)] _ _ _ ⟨rfl,rfl,trivial⟩ ⟨rfl,⟨_,rfl,rfl⟩,rfl,⟨_,rfl,rfl⟩,trivial⟩)
              | false =>
               replace h:=zAm hc h;cases hc : (a1A == 12) with
               | true =>
                replace h:=zAn hc h;obtain rfl : (12 : Int) = vsp:=(hvsp.trans (eq_of_beq hc)).symm;refine And.intro (by decide) ?_;obtain ⟨⟨y38,_,b40⟩,hy38,h⟩:=zAc h;refine ⟨_,_,⟨_,_,_,_,_,hy38,rfl,rfl,rfl,rfl⟩,?_⟩
                cases h;exact (Le.rnm [(0,0),(2,2)] _ _ _ ⟨rfl,rfl,trivial⟩ ⟨rfl,⟨_,rfl,rfl⟩,rfl,⟨_,rfl,rfl⟩,trivial⟩)
               | false =>
                replace h:=zAm hc h;cases h
   ·replace h:=zAm hb h;refine zAB (by exact tokW) (by exact gok) (by exact mixed) [] [] [9] rfl (by decide +kernel) ?_;obtain ⟨y41,hy41,h⟩:=zAc h;refine ⟨_,⟨_,_,hy41,rfl,rfl⟩,?_⟩
    obtain ⟨hq,h⟩:=zAR h;refine And.intro (Nat.le_trans hq (by decide)) ?_;obtain ⟨⟨y42,_,b44⟩,hy42,h⟩:=zAc h;refine ⟨_,_,⟨_,_,_,_,_,hy42,rfl,rfl,rfl,rfl⟩,?_⟩
    cases h;exact (Le.rnm [(0,0),(2,2)] _ _ _ ⟨rfl,rfl,trivial⟩ ⟨rfl,⟨_,rfl,rfl⟩,rfl,⟨_,rfl,rfl⟩,trivial⟩)
  ·show Tri ..;refine zAj hle ?_;refine zAa ?_;refine zAa ?_;refine zAb [] [] rfl ?_;show Tri ..;obtain ⟨l45,hj,h⟩:=zAc h;refine zAr ⟨ofL [(0,.op 0 0),(1,.s (.pt [.int .i64 a1A,.str a1C,.int .i64 a1D,.sl 4 (Nd.encs a1B)]))],ofH [(0,.box 137 (zA9 (.op 0 39) (.orow 2))),(2,.row 5 1 ((List.map brow) l45))],3⟩ ?_ (fun σ' hle=>?_)
   ·replace h:=hj;refine zAd rfl (fun hb=>?_) (fun hb=>?_)
    ·replace h:=zAn hb h;refine zAa ?_;refine zAb [] [] rfl ?_;obtain ⟨⟨y46,_,b48⟩,hy46,h⟩:=zAc h;refine ⟨_,_,⟨_,_,_,_,_,hy46,rfl,rfl,rfl,rfl⟩,?_⟩
     show Tri ..;refine zAa ?_;refine zAa ?_;refine zAb [] [] rfl ?_;show Tri ..;obtain ⟨l51,hl,h⟩:=zAc h;refine zAr ⟨ofL [(0,.op 0 0),(1,.s (.pt [.int .i64 a1A,.str a1C,.int .i64 a1D,.sl 4 (Nd.encs a1B)]))],ofH [(0,.box 137 (zA9 (.op 0 39) (.orow 2))),(2,.row 5 1 ((List.map brow) l51))],3⟩ ?_ (fun σ' hle=>?_)
     ·refine zAl (zAI (X:=Nat × Int × (List UInt8)) (fun y=>match y with | (k,x49,l50)=>⟨ofL [(0,.op 0 0),(1,.s (.pt [.int .i64 a1A,.str a1C,.int .i64 a1D,.sl 4 (Nd.encs a1B)])),(4,.s (.int .i64 x49))],ofH [(0,.box 137 (zA9 (.op 0 39) (.orow 2))),(2,.row 5 1 ((List.map brow) l50))],3⟩) (fun y=>zAU a1C y.1 y.2.1 y.2.2 = some l51) (fun y=>y.1) (n,0,b48) hl ?_ ?_)
      ·exact (Le.rnm [(0,0),(3,2)] _ _ _ ⟨rfl,rfl,rfl,trivial⟩ ⟨rfl,⟨_,rfl,rfl⟩,rfl,⟨_,rfl,rfl⟩,trivial⟩)
      ·rintro ⟨k,x49,l50⟩ h;cases k with
       | zero=>cases h
       | succ k =>
        replace h : zAU a1C (k+1) x49 l50 = some l51:=h;rw [zAU] at h;refine zAa ?_;refine zAa ?_;refine zAb [] [] rfl ?_;show Tri ..;refine zAd rfl (fun hb=>?_) (fun hb=>?_)
        ·replace h:=zAn hb h;refine zAg ?_;show Tri ..;refine zAa ?_;obtain ⟨l52,hj,h⟩:=zAc h;refine zAr ⟨ofL [(0,.op 0 0),(1,.s (.pt [.int .i64 a1A,.str a1C,.int .i64 a1D,.sl 4 (Nd.encs a1B)])),(4,.s (.int .i64 x49))],ofH [(0,.box 137 (zA9 (.op 0 39) (.orow 2))),(2,.row 5 1 ((List.map brow) l52))],3⟩ ?_ (fun σ' hle=>?_)
         ·replace h:=hj;refine zAl ?_;refine zAa ?_;refine zAa ?_;obtain ⟨x53,hj,h⟩:=zAc h;refine zAr ⟨ofL [(0,.op 0 0),(1,.s (.pt [.int .i64 a1A,.str a1C,.int .i64 a1D,.sl 4 (Nd.encs a1B)])),(4,.s (.int .i64 x49)),(74,.s (.bool x53))],ofH [(0,.box 137 (zA9 (.op 0 39) (.orow 2))),(2,.row 5 1 ((List.map brow) l50))],3⟩ ?_ (fun σ' hle=>?_)
          ·replace h:=hj;refine zAb [] [64,66,72] rfl ?_;obtain ⟨c54,hc54,h⟩:=zAc h;refine And.intro (zBh hc54).1 ?_;intro v55 hv55;obtain rfl : (c54.toNat : Int) = v55:=(hv55.trans (zBh hc54).2).symm;intro b hb;cases b with
           | true =>
            replace h:=zAn hb.symm h;cases h;exact (Le.rnm [(0,0),(2,2)] _ _ _ ⟨rfl,rfl,rfl,rfl,trivial⟩ ⟨rfl,⟨_,rfl,rfl⟩,rfl,⟨_,rfl,rfl⟩,trivial⟩)
           | false =>
            replace h:=zAm hb.symm h;obtain ⟨c56,hc56,h⟩:=zAc h;refine And.intro (zBh hc56).1 ?_;intro v57 hv57;obtain rfl : (c56.toNat : Int) = v57:=(hv57.trans (zBh hc56).2).symm;cases h;exact (Le.rnm [(0,0),(2,2)] _ _ _ ⟨rfl,rfl,rfl,rfl,trivial⟩ ⟨rfl,⟨_,rfl,rfl⟩,rfl,⟨_,rfl,rfl⟩,trivial⟩)
          ·show Tri ..;refine zAj hle ?_;obtain ⟨l58,hj,h⟩:=zAc h;refine zAr ⟨ofL [(0,.op 0 0),(1,.s (.pt [.int .i64 a1A,.str a1C,.int .i64 a1D,.sl 4 (Nd.encs a1B)])),(4,.s (.int .i64 x49))],ofH [(0,.box 137 (zA9 (.op 0 39) (.orow 2))),(2,.row 5 1 ((List.map brow) l58))],3⟩ ?_ (fun σ' hle=>?_)
           ·replace h:=hj;refine zAd rfl (fun hb=>?_) (fun hb=>?_)
            ·replace h:=zAn hb h;refine zAb [] [] rfl ?_;obtain ⟨⟨_,b60⟩,hy59,h⟩:=zAc h;refine ⟨_,_,⟨_,_,_,_,hy59,rfl,rfl,rfl,rfl⟩,?_⟩
             cases h;exact (Le.rnm [(0,0),(3,2)] _ _ _ ⟨rfl,rfl,rfl,trivial⟩ ⟨rfl,⟨_,rfl,rfl⟩,rfl,⟨_,rfl,rfl⟩,trivial⟩)
            ·replace h:=zAm hb h;refine zAg ?_;cases h;exact (Le.rnm [(0,0),(2,2)] _ _ _ ⟨rfl,rfl,rfl,trivial⟩ ⟨rfl,⟨_,rfl,rfl⟩,rfl,⟨_,rfl,rfl⟩,trivial⟩)
           ·show Tri ..;refine zAj hle ?_;refine zAB (by exact tokW) (by exact gok) (by exact mixed) [] [87] [9] rfl (by decide +kernel) ?_;obtain ⟨c61,hc61,h⟩:=zAc h;refine And.intro (zBh hc61).1 ?_;intro v62 hv62;obtain rfl : (c61.toNat : Int) = v62:=(hv62.trans (zBh hc61).2).symm;obtain ⟨⟨_,b64⟩,hy63,h⟩:=zAc h;refine ⟨_,_,⟨_,_,_,_,hy63,rfl,rfl,rfl,rfl⟩,?_⟩
            cases h;exact (Le.rnm [(0,0),(3,2)] _ _ _ ⟨rfl,rfl,rfl,trivial⟩ ⟨rfl,⟨_,rfl,rfl⟩,rfl,⟨_,rfl,rfl⟩,trivial⟩)
         ·show Tri ..;refine zAj hle ?_;refine zAb [] [] rfl ?_;refine ⟨(k,IntKind.i64.wrap (x49 + 1),l52),h,(Le.rnm [(0,0),(2,2)] _ _ _ ⟨rfl,rfl,rfl,trivial⟩ ⟨rfl,⟨_,rfl,rfl⟩,rfl,⟨_,rfl,rfl⟩,trivial⟩),Nat.lt_succ_self k⟩
        ·replace h:=zAm hb h;refine zAM ?_;cases h;exact (Le.rnm [(0,0),(2,2)] _ _ _ ⟨rfl,rfl,trivial⟩ ⟨rfl,⟨_,rfl,rfl⟩,rfl,⟨_,rfl,rfl⟩,trivial⟩)
     ·show Tri ..;refine zAj hle ?_;refine zAb [] [] rfl ?_;obtain ⟨⟨_,b66⟩,hy65,h⟩:=zAc h;refine ⟨_,_,⟨_,_,_,_,hy65,rfl,rfl,rfl,rfl⟩,?_⟩
      cases h;exact (Le.rnm [(0,0),(3,2)] _ _ _ ⟨rfl,rfl,trivial⟩ ⟨rfl,⟨_,rfl,rfl⟩,rfl,⟨_,rfl,rfl⟩,trivial⟩)
    ·replace h:=zAm hb h;refine zAg ?_;cases h;exact (Le.rnm [(0,0),(2,2)] _ _ _ ⟨rfl,rfl,trivial⟩ ⟨rfl,⟨_,rfl,rfl⟩,rfl,⟨_,rfl,rfl⟩,trivial⟩)
   ·show Tri ..;refine zAj hle ?_;refine zAa ?_;refine zAb [] [] rfl ?_;show Tri ..;refine zAd rfl (fun hb=>?_) (fun hb=>?_)
    ·replace h:=zAn hb h;refine zAB (by exact tokW) (by exact gok) (by exact mixed) [] [] [9] rfl (by decide +kernel) ?_;obtain ⟨y67,hy67,h⟩:=zAc h;refine ⟨_,⟨_,_,hy67,rfl,rfl⟩,?_⟩
     obtain ⟨hq,h⟩:=zAR h;refine And.intro (Nat.le_trans hq (by decide)) ?_;obtain ⟨⟨y68,_,b70⟩,hy68,h⟩:=zAc h;refine ⟨_,_,⟨_,_,_,_,_,hy68,rfl,rfl,rfl,rfl⟩,?_⟩
     have hy:=Option.some.inj h;subst hy;unfold zBV;exact ⟨_,(Le.rnm [(0,0),(3,2)] [] [(0,.box 137 (zA9 (.op 0 39) (.orow 2))),(2,.row 5 1 ((List.map brow) b70))] 3 trivial ⟨rfl,⟨_,rfl,rfl⟩,rfl,⟨_,rfl,rfl⟩,trivial⟩),rfl,rfl,rfl,rfl,rfl,rfl,trivial⟩
    ·replace h:=zAm hb h;refine zAg ?_;have hy:=Option.some.inj h;subst hy;unfold zBV;exact ⟨_,(Le.rnm [(0,0),(2,2)] [] [(0,.box 137 (zA9 (.op 0 39) (.orow 2))),(2,.row 5 1 ((List.map brow) l45))] 3 trivial ⟨rfl,⟨_,rfl,rfl⟩,rfl,⟨_,rfl,rfl⟩,trivial⟩),rfl,rfl,rfl,rfl,rfl,rfl,trivial⟩
def zEt (xs : List AV) (os : List Ob) (x : AV) (os' : List (Option Ob)) : Prop:=∃ (a0 : List UInt8) (a1 : List UInt8) (y0 : Int) (y1 : Unit) (z1 : List UInt8),zAk a0 a1 = some (y0,y1,z1) ∧ xs = [.op 0 39,.s (.str a0)] ∧ os = [.box 137 (zA9 (.s (.np)) (.orow 1)),.row 5 1 (List.map brow a1)] ∧ x = .tup [.s (.int .i64 y0),.junk] ∧ os' = [some (.box 137 (zA9 (.op 0 39) (.orow 2))),none,some (.row 5 1 (List.map brow z1))]
def zCA : zAt:=zB6 (fun xs os x os'=>zEt xs os x os')
theorem zEr : PSound Tryz.prog 117 zCA:=by
 have gok : ∀ f s,look? f [(119,zCM)] = some s → PSound Tryz.prog f s:=zAu (by
  simp only [List.forall_mem_cons]
  exact ⟨zEI,by simp⟩)
 refine PSound.withNil (zFL tokW Tryz.call117 Tryz.func117 rfl (fun xs os x os' h=>by obtain ⟨_,_,_,_,_,_,rfl,rfl,_,rfl⟩:=h; exact ⟨by show 2 ≤ 19; decide,by show 2 ≤ 3; decide⟩) 19 rfl ?_) _;rintro xs os x os' w0 G0 B0 ⟨s1,b2,y0,y1,z1,h,rfl,rfl,rfl,rfl⟩ _;rw [zAk] at h;refine zAa ?_;refine zAb [] [] rfl ?_;show Tri ..;refine zAa ?_;refine zAb [] [] rfl ?_;obtain ⟨b3,hb3,h⟩:=zAc h;refine ⟨_,_,⟨_,_,hb3,rfl,rfl,rfl,rfl⟩,?_⟩
 show Tri ..;refine zAa ?_;refine zAb [14] [] rfl ?_;obtain ⟨hq,h⟩:=zAR h;refine And.intro (show (((List.map brow) b3).length + (List.map brow s1).length) * 1 ≤ 140737488355328 ∧ ((List.map brow) b3).length + (List.map brow s1).length ≤ 9223372036854775807 from by simp only [List.length_append,List.length_cons,List.length_nil,List.length_map,rlen (fun _=>rfl)] at hq ⊢; omega) ?_;show Tri ..
 refine zAj (Le.rnm [(0,0),(3,2)] [(1,.s (.str s1))] [(0,.box 137 (zA9 (.op 0 39) (.orow 2))),(2,.row 5 1 ((List.map brow) (b3 ++ s1)))] 3 ⟨rfl,trivial⟩ ⟨rfl,⟨_,rfl,rfl⟩,rfl,⟨_,rfl,congrArg (Ob.row 5 1) (by simp [List.map_append,List.map_take,List.map_drop,irow,brow,zAQ,List.map_cons,List.map_nil,zAJ,Nd.encs_eq,Nd.enc,zAq,zAo,zAp,zAv,zAw])⟩,trivial⟩) ?_;refine zAa ?_;refine zAb [] [] rfl ?_;show Tri ..;refine zAh ?_;obtain ⟨hj1,hk1⟩:=Prod.mk.inj (Option.some.inj h)
 subst hj1;obtain ⟨hj2,hk2⟩:=Prod.mk.inj hk1;subst hj2;subst hk2;unfold zBV;exact ⟨_,(Le.rnm [(0,0),(2,2)] [(4,.s (.int .i64 (s1.length : Int)))] [(0,.box 137 (zA9 (.op 0 39) (.orow 2))),(2,.row 5 1 ((List.map brow) (b3 ++ s1)))] 3 ⟨rfl,trivial⟩ ⟨rfl,⟨_,rfl,rfl⟩,rfl,⟨_,rfl,rfl⟩,trivial⟩),rfl,rfl,rfl,rfl,rfl,rfl,trivial⟩
def zHn (n : Nat) (xs : List AV) (os : List Ob) (x : AV) (os' : List (Option Ob)) : Prop:=∃ (a0 : Nd) (a1 : List UInt8) (z1 : List UInt8),zBo n a0 a1 = some z1 ∧ xs = [.op 0 0,.s (.pt (Nd.enc a0))] ∧ os = [.box 137 (zA9 (.s (.np)) (.orow 1)),.row 5 1 (List.map brow a1)] ∧ x = .tup [] ∧ os' = [some (.box 137 (zA9 (.op 0 39) (.orow 2))),none,some (.row 5 1 (List.map brow z1))]
def zES : zAt:=zB6 (fun xs os x os'=>∃ n,zHn n xs os x os')
theorem zHk : PSound Tryz.prog 97 zES:=by
 have gok : ∀ f s,look? f [(117,orS zBS zCA),(118,zGe),(98,zBy)] = some s → PSound Tryz.prog f s:=zAu (by
  simp only [List.forall_mem_cons]
  exact ⟨(zQC zCQ zEr),zHN,zBZ,by simp⟩)
 refine PSound.withNil (zFL tokW Tryz.call97 Tryz.func97 rfl (fun xs os x os' h=>by obtain ⟨n,_,_,_,_,rfl,rfl,_,rfl⟩:=h; exact ⟨by show 2 ≤ 108; decide,by show 2 ≤ 3; decide⟩) 108 rfl ?_) _;rintro xs os x os' w0 G0 B0 ⟨n,⟨a1A,a1C,a1D,a1B⟩,b2,z1,h,rfl,rfl,rfl,rfl⟩ _;rw [zBo] at h;refine zAa ?_;refine zAa ?_;obtain ⟨x3,hj,h⟩:=zAc h;refine zAr ⟨ofL [(0,.op 0 0),(1,.s (.pt [.int .i64 a1A,.str a1C,.int .i64 a1D,.sl 4 (Nd.encs a1B)])),(16,.s (.bool x3))],ofH [(0,.box 137 (zA9 (.s (.np)) (.orow 1))),(1,.row 5 1 ((List.map brow) b2))],2⟩ ?_ (fun σ' hle=>?_)
 ·replace h:=hj;refine zAb [] [10] rfl ?_;intro b hb;cases b with
  | true =>
   replace h:=zAn hb.symm h;cases h;exact (Le.rnm [(0,0),(1,1)] _ _ _ ⟨rfl,rfl,rfl,trivial⟩ ⟨rfl,⟨_,rfl,rfl⟩,rfl,⟨_,rfl,rfl⟩,trivial⟩)
  | false =>
   replace h:=zAm hb.symm h;cases h;exact (Le.rnm [(0,0),(1,1)] _ _ _ ⟨rfl,rfl,rfl,trivial⟩ ⟨rfl,⟨_,rfl,rfl⟩,rfl,⟨_,rfl,rfl⟩,trivial⟩)
 ·show Tri ..;refine zAj hle ?_;obtain ⟨l4,hj,h⟩:=zAc h;refine zAr ⟨ofL [(0,.op 0 0),(1,.s (.pt [.int .i64 a1A,.str a1C,.int .i64 a1D,.sl 4 (Nd.encs a1B)]))],ofH [(0,.box 137 (zA9 (.op 0 39) (.orow 2))),(2,.row 5 1 ((List.map brow) l4))],3⟩ ?_ (fun σ' hle=>?_)
  ·replace h:=hj;refine zAd rfl (fun hb=>?_) (fun hb=>?_)
   ·replace h:=zAn hb h;refine zAB (by exact tokW) (by exact gok) (by exact mixed) [] [24] [12,13] rfl (by decide +kernel) ?_;intro vsp hvsp;cases hc : (a1A == 1) with
    | true =>
     replace h:=zAn hc h;obtain rfl : (1 : Int) = vsp:=(hvsp.trans (eq_of_beq hc)).symm;refine And.intro (by decide) ?_;obtain ⟨⟨y5,_,b7⟩,hy5,h⟩:=zAc h;refine ⟨_,_,(Or.inr ⟨_,_,_,_,_,hy5,rfl,rfl,rfl,rfl⟩),?_⟩
     cases h;exact (Le.rnm [(0,0),(2,2)] _ _ _ ⟨rfl,rfl,trivial⟩ ⟨rfl,⟨_,rfl,rfl⟩,rfl,⟨_,rfl,rfl⟩,trivial⟩)
    | false =>
     replace h:=zAm hc h;cases hc : (a1A == 2) with
     | true =>
      replace h:=zAn hc h;obtain rfl : (2 : Int) = vsp:=(hvsp.trans (eq_of_beq hc)).symm;refine And.intro (by decide) ?_;obtain ⟨⟨y8,_,b10⟩,hy8,h⟩:=zAc h;refine ⟨_,_,(Or.inr ⟨_,_,_,_,_,hy8,rfl,rfl,rfl,rfl⟩),?_⟩
      cases h;exact (Le.rnm [(0,0),(2,2)] _ _ _ ⟨rfl,rfl,trivial⟩ ⟨rfl,⟨_,rfl,rfl⟩,rfl,⟨_,rfl,rfl⟩,trivial⟩)
     | false =>
      replace h:=zAm hc h;cases hc : (a1A == 3) with
      | true =>
       replace h:=zAn hc h;obtain rfl : (3 : Int) = vsp:=(hvsp.trans (eq_of_beq hc)).symm;refine And.intro (by decide) ?_;obtain ⟨⟨y11,_,b13⟩,hy11,h⟩:=zAc h;refine ⟨_,_,(Or.inr ⟨_,_,_,_,_,hy11,rfl,rfl,rfl,rfl⟩),?_⟩
       cases h;exact (Le.rnm [(0,0),(2,2)] _ _ _ ⟨rfl,rfl,trivial⟩ ⟨rfl,⟨_,rfl,rfl⟩,rfl,⟨_,rfl,rfl⟩,trivial⟩)
      | false =>
       replace h:=zAm hc h;cases hc : (a1A == 4) with
       | true =>
        replace h:=zAn hc h;obtain rfl : (4 : Int) = vsp:=(hvsp.trans (eq_of_beq hc)).symm;refine And.intro (by decide) ?_;obtain ⟨⟨y14,_,b16⟩,hy14,h⟩:=zAc h;refine ⟨_,_,(Or.inr ⟨_,_,_,_,_,hy14,rfl,rfl,rfl,rfl⟩),?_⟩
        cases h;exact (Le.rnm [(0,0),(2,2)] _ _ _ ⟨rfl,rfl,trivial⟩ ⟨rfl,⟨_,rfl,rfl⟩,rfl,⟨_,rfl,rfl⟩,trivial⟩)
       | false =>
        replace h:=zAm hc h;cases hc : (a1A == 5) with
        | true =>
         replace h:=zAn hc h;obtain rfl : (5 : Int) = vsp:=(hvsp.trans (eq_of_beq hc)).symm;refine And.intro (by decide) ?_;obtain ⟨⟨y17,_,b19⟩,hy17,h⟩:=zAc h;refine ⟨_,_,(Or.inr ⟨_,_,_,_,_,hy17,rfl,rfl,rfl,rfl⟩),?_⟩
         cases h;exact (Le.rnm [(0,0),(2,2)] _ _ _ ⟨rfl,rfl,trivial⟩ ⟨rfl,⟨_,rfl,rfl⟩,rfl,⟨_,rfl,rfl⟩,trivial⟩)
        | false =>
         replace h:=zAm hc h;cases hc : (a1A == 6) with
         | true =>
          replace h:=zAn hc h;obtain rfl : (6 : Int) = vsp:=(hvsp.trans (eq_of_beq hc)).symm;refine And.intro (by decide) ?_;obtain ⟨⟨y20,_,b22⟩,hy20,h⟩:=zAc h;refine ⟨_,_,(Or.inr ⟨_,_,_,_,_,hy20,rfl,rfl,rfl,rfl⟩),?_⟩
          cases h;exact (Le.rnm [(0,0),(2,2)] _ _ _ ⟨rfl,rfl,trivial⟩ ⟨rfl,⟨_,rfl,rfl⟩,rfl,⟨_,rfl,rfl⟩,trivial⟩)
         | false =>
          replace h:=zAm hc h;cases hc : (a1A == 7) with
          | true =>
           replace h:=zAn hc h;obtain rfl : (7 : Int) = vsp:=(hvsp.trans (eq_of_beq hc)).symm;refine And.intro (by decide) ?_;obtain ⟨⟨y23,_,b25⟩,hy23,h⟩:=zAc h;refine ⟨_,_,(Or.inr ⟨_,_,_,_,_,hy23,rfl,rfl,rfl,rfl⟩),?_⟩
           cases h;exact (Le.rnm [(0,0),(2,2)] _ _ _ ⟨rfl,rfl,trivial⟩ ⟨rfl,⟨_,rfl,rfl⟩,rfl,⟨_,rfl,rfl⟩,trivial⟩)
          | false =>
           replace h:=zAm hc h;cases hc : (a1A == 8) with
           | true =>
            replace h:=zAn hc h;obtain rfl : (8 : Int) = vsp:=(hvsp.trans (eq_of_beq hc)).symm;refine And.intro (by decide) ?_;obtain ⟨⟨y26,_,b28⟩,hy26,h⟩:=zAc h;refine ⟨_,_,(Or.inr ⟨_,_,_,_,_,hy26,rfl,rfl,rfl,rfl⟩),?_⟩
            cases h;exact (Le.rnm [(0,0),(2,2)] _ _ _ ⟨rfl,rfl,trivial⟩ ⟨rfl,⟨_,rfl,rfl⟩,rfl,⟨_,rfl,rfl⟩,trivial⟩)
           | false =>
            replace h:=zAm hc h;cases hc : (a1A == 9) with
            | true =>
             replace h:=zAn hc h;obtain rfl : (9 : Int) = vsp:=(hvsp.trans (eq_of_beq hc)).symm;refine And.intro (by decide) ?_;obtain ⟨⟨y29,_,b31⟩,hy29,h⟩:=zAc h;refine ⟨_,_,(Or.inr ⟨_,_,_,_,_,hy29,rfl,rfl,rfl,rfl⟩),?_⟩
             cases h;exact (Le.rnm [(0,0),(2,2)] _ _ _ ⟨rfl,rfl,trivial⟩ ⟨rfl,⟨_,rfl,rfl⟩,rfl,⟨_,rfl,rfl⟩,trivial⟩)
            | false =>
             replace h:=zAm hc h;cases hc : (a1A == 10) with
             | true =>
              replace h:=zAn hc h;obtain rfl : (10 : Int) = vsp:=(hvsp.trans (eq_of_beq hc)).symm;refine And.intro (by decide) ?_;obtain ⟨⟨y32,_,b34⟩,hy32,h⟩:=zAc h;refine ⟨_,_,(Or.inr ⟨_,_,_,_,_,hy32,rfl,rfl,rfl,rfl⟩),?_⟩
              cases h;exact (Le.rnm [(0,0),(2,2)] _ _ _ ⟨rfl,rfl,trivial⟩ ⟨rfl,⟨_,rfl,rfl⟩,rfl,⟨_,rfl,rfl⟩,trivial⟩)
             | false =>
              replace h:=zAm hc h;cases hc : (a1A == 11) with
              | true =>
               replace h:=zAn hc h;obtain rfl : (11 : Int) = vsp:=(hvsp.trans (eq_of_beq hc)).symm;refine And.intro (by decide) ?_;obtain ⟨⟨y35,_,b37⟩,hy35,h⟩:=zAc h;refine ⟨_,_,(Or.inr ⟨_,_,_,_,_,hy35,rfl,rfl,rfl,rfl⟩),?_⟩
               cases h;exact (Le.rnm [(0,0),(2,2)] _ _ _ ⟨rfl,rfl,trivial⟩ ⟨rfl,⟨_,rfl,rfl⟩,rfl,⟨_,rfl,rfl⟩,trivial⟩)
              | false =>
               replace h:=zAm hc h;cases hc : (a1A == 12) with
               | true =>
                replace h:=zAn hc h;obtain rfl : (12 : Int) = vsp:=(hvsp.trans (eq_of_beq hc)).symm;refine And.intro (by decide) ?_;obtain ⟨⟨y38,_,b40⟩,hy38,h⟩:=zAc h;refine ⟨_,_,(Or.inr ⟨_,_,_,_,_,hy38,rfl,rfl,rfl,rfl⟩),?_⟩
                cases h;exact (Le.rnm [(0,0),(2,2)] _ _ _ ⟨rfl,rfl,trivial⟩ ⟨rfl,⟨_,rfl,rfl⟩,rfl,⟨_,rfl,rfl⟩,trivial⟩)
               | false =>
                replace h:=zAm hc h;cases h
   ·replace h:=zAm hb h;refine zAB (by exact tokW) (by exact gok) (by exact mixed) [] [] [9] rfl (by decide +kernel) ?_;obtain ⟨y41,hy41,h⟩:=zAc h;refine ⟨_,⟨_,_,hy41,rfl,rfl⟩,?_⟩
    obtain ⟨hq,h⟩:=zAR h;refine And.intro (Nat.le_trans hq (by decide)) ?_;obtain ⟨⟨y42,_,b44⟩,hy42,h⟩:=zAc h;refine ⟨_,_,(Or.inr ⟨_,_,_,_,_,hy42,rfl,rfl,rfl,rfl⟩),?_⟩
    cases h;exact (Le.rnm [(0,0),(2,2)] _ _ _ ⟨rfl,rfl,trivial⟩ ⟨rfl,⟨_,rfl,rfl⟩,rfl,⟨_,rfl,rfl⟩,trivial⟩)
  ·show Tri ..;refine zAj hle ?_;refine zAa ?_;refine zAa ?_;refine zAb [] [] rfl ?_;show Tri ..;obtain ⟨l45,hj,h⟩:=zAc h;refine zAr ⟨ofL [(0,.op 0 0),(1,.s (.pt [.int .i64 a1A,.str a1C,.int .i64 a1D,.sl 4 (Nd.encs a1B)]))],ofH [(0,.box 137 (zA9 (.op 0 39) (.orow 2))),(2,.row 5 1 ((List.map brow) l45))],3⟩ ?_ (fun σ' hle=>?_)
   ·replace h:=hj;refine zAd rfl (fun hb=>?_) (fun hb=>?_)
    ·replace h:=zAn hb h;refine zAa ?_;refine zAb [] [] rfl ?_;obtain ⟨⟨y46,_,b48⟩,hy46,h⟩:=zAc h;refine ⟨_,_,(Or.inl ⟨_,_,_,_,_,hy46,rfl,rfl,rfl,rfl⟩),?_⟩
     show Tri ..;refine zAa ?_;refine zAa ?_;refine zAb [] [] rfl ?_;show Tri ..;obtain ⟨l51,hl,h⟩:=zAc h;refine zAr ⟨ofL [(0,.op 0 0),(1,.s (.pt [.int .i64 a1A,.str a1C,.int .i64 a1D,.sl 4 (Nd.encs a1B)]))],ofH [(0,.box 137 (zA9 (.op 0 39) (.orow 2))),(2,.row 5 1 ((List.map brow) l51))],3⟩ ?_ (fun σ' hle=>?_)
     ·refine zAl (zAI (X:=Nat × Int × (List UInt8)) (fun y=>match y with | (k,x49,l50)=>⟨ofL [(0,.op 0 0),(1,.s (.pt [.int .i64 a1A,.str a1C,.int .i64 a1D,.sl 4 (Nd.encs a1B)])),(4,.s (.int .i64 x49))],ofH [(0,.box 137 (zA9 (.op 0 39) (.orow 2))),(2,.row 5 1 ((List.map brow) l50))],3⟩) (fun y=>zAU a1C y.1 y.2.1 y.2.2 = some l51) (fun y=>y.1) (n,0,b48) hl ?_ ?_)
      ·exact (Le.rnm [(0,0),(3,2)] _ _ _ ⟨rfl,rfl,rfl,trivial⟩ ⟨rfl,⟨_,rfl,rfl⟩,rfl,⟨_,rfl,rfl⟩,trivial⟩)
      ·rintro ⟨k,x49,l50⟩ h;cases k with
       | zero=>cases h
       | succ k =>
        replace h : zAU a1C (k+1) x49 l50 = some l51:=h;rw [zAU] at h;refine zAa ?_;refine zAa ?_;refine zAb [] [] rfl ?_;show Tri ..;refine zAd rfl (fun hb=>?_) (fun hb=>?_)
        ·replace h:=zAn hb h;refine zAg ?_;show Tri ..;refine zAa ?_;obtain ⟨l52,hj,h⟩:=zAc h;refine zAr ⟨ofL [(0,.op 0 0),(1,.s (.pt [.int .i64 a1A,.str a1C,.int .i64 a1D,.sl 4 (Nd.encs a1B)])),(4,.s (.int .i64 x49))],ofH [(0,.box 137 (zA9 (.op 0 39) (.orow 2))),(2,.row 5 1 ((List.map brow) l52))],3⟩ ?_ (fun σ' hle=>?_)
         ·replace h:=hj;refine zAl ?_;refine zAa ?_;refine zAa ?_;obtain ⟨x53,hj,h⟩:=zAc h;refine zAr ⟨ofL [(0,.op 0 0),(1,.s (.pt [.int .i64 a1A,.str a1C,.int .i64 a1D,.sl 4 (Nd.encs a1B)])),(4,.s (.int .i64 x49)),(74,.s (.bool x53))],ofH [(0,.box 137 (zA9 (.op 0 39) (.orow 2))),(2,.row 5 1 ((List.map brow) l50))],3⟩ ?_ (fun σ' hle=>?_)
          ·replace h:=hj;refine zAb [] [64,66,72] rfl ?_;obtain ⟨c54,hc54,h⟩:=zAc h;refine And.intro (zBh hc54).1 ?_;intro v55 hv55;obtain rfl : (c54.toNat : Int) = v55:=(hv55.trans (zBh hc54).2).symm;intro b hb;cases b with
           | true =>
            replace h:=zAn hb.symm h;cases h;exact (Le.rnm [(0,0),(2,2)] _ _ _ ⟨rfl,rfl,rfl,rfl,trivial⟩ ⟨rfl,⟨_,rfl,rfl⟩,rfl,⟨_,rfl,rfl⟩,trivial⟩)
           | false =>
            replace h:=zAm hb.symm h;obtain ⟨c56,hc56,h⟩:=zAc h;refine And.intro (zBh hc56).1 ?_;intro v57 hv57;obtain rfl : (c56.toNat : Int) = v57:=(hv57.trans (zBh hc56).2).symm;cases h;exact (Le.rnm [(0,0),(2,2)] _ _ _ ⟨rfl,rfl,rfl,rfl,trivial⟩ ⟨rfl,⟨_,rfl,rfl⟩,rfl,⟨_,rfl,rfl⟩,trivial⟩)
          ·show Tri ..;refine zAj hle ?_;obtain ⟨l58,hj,h⟩:=zAc h;refine zAr ⟨ofL [(0,.op 0 0),(1,.s (.pt [.int .i64 a1A,.str a1C,.int .i64 a1D,.sl 4 (Nd.encs a1B)])),(4,.s (.int .i64 x49))],ofH [(0,.box 137 (zA9 (.op 0 39) (.orow 2))),(2,.row 5 1 ((List.map brow) l58))],3⟩ ?_ (fun σ' hle=>?_)
           ·replace h:=hj;refine zAd rfl (fun hb=>?_) (fun hb=>?_)
            ·replace h:=zAn hb h;refine zAb [] [] rfl ?_;obtain ⟨⟨_,b60⟩,hy59,h⟩:=zAc h;refine ⟨_,_,⟨_,_,_,_,hy59,rfl,rfl,rfl,rfl⟩,?_⟩
             cases h;exact (Le.rnm [(0,0),(3,2)] _ _ _ ⟨rfl,rfl,rfl,trivial⟩ ⟨rfl,⟨_,rfl,rfl⟩,rfl,⟨_,rfl,rfl⟩,trivial⟩)
            ·replace h:=zAm hb h;refine zAg ?_;cases h;exact (Le.rnm [(0,0),(2,2)] _ _ _ ⟨rfl,rfl,rfl,trivial⟩ ⟨rfl,⟨_,rfl,rfl⟩,rfl,⟨_,rfl,rfl⟩,trivial⟩)
           ·show Tri ..;refine zAj hle ?_;refine zAB (by exact tokW) (by exact gok) (by exact mixed) [] [87] [9] rfl (by decide +kernel) ?_;obtain ⟨c61,hc61,h⟩:=zAc h;refine And.intro (zBh hc61).1 ?_;intro v62 hv62;obtain rfl : (c61.toNat : Int) = v62:=(hv62.trans (zBh hc61).2).symm;obtain ⟨⟨_,b64⟩,hy63,h⟩:=zAc h;refine ⟨_,_,⟨_,_,_,_,hy63,rfl,rfl,rfl,rfl⟩,?_⟩
            cases h;exact (Le.rnm [(0,0),(3,2)] _ _ _ ⟨rfl,rfl,rfl,trivial⟩ ⟨rfl,⟨_,rfl,rfl⟩,rfl,⟨_,rfl,rfl⟩,trivial⟩)
         ·show Tri ..;refine zAj hle ?_;refine zAb [] [] rfl ?_;refine ⟨(k,IntKind.i64.wrap (x49 + 1),l52),h,(Le.rnm [(0,0),(2,2)] _ _ _ ⟨rfl,rfl,rfl,trivial⟩ ⟨rfl,⟨_,rfl,rfl⟩,rfl,⟨_,rfl,rfl⟩,trivial⟩),Nat.lt_succ_self k⟩
        ·replace h:=zAm hb h;refine zAM ?_;cases h;exact (Le.rnm [(0,0),(2,2)] _ _ _ ⟨rfl,rfl,trivial⟩ ⟨rfl,⟨_,rfl,rfl⟩,rfl,⟨_,rfl,rfl⟩,trivial⟩)
     ·show Tri ..;refine zAj hle ?_;refine zAb [] [] rfl ?_;obtain ⟨⟨_,b66⟩,hy65,h⟩:=zAc h;refine ⟨_,_,⟨_,_,_,_,hy65,rfl,rfl,rfl,rfl⟩,?_⟩
      cases h;exact (Le.rnm [(0,0),(3,2)] _ _ _ ⟨rfl,rfl,trivial⟩ ⟨rfl,⟨_,rfl,rfl⟩,rfl,⟨_,rfl,rfl⟩,trivial⟩)
    ·replace h:=zAm hb h;refine zAg ?_;cases h;exact (Le.rnm [(0,0),(2,2)] _ _ _ ⟨rfl,rfl,trivial⟩ ⟨rfl,⟨_,rfl,rfl⟩,rfl,⟨_,rfl,rfl⟩,trivial⟩)
   ·show Tri ..;refine zAj hle ?_;refine zAa ?_;refine zAb [] [] rfl ?_;show Tri ..;refine zAd rfl (fun hb=>?_) (fun hb=>?_)
    ·replace h:=zAn hb h;refine zAB (by exact tokW) (by exact gok) (by exact mixed) [] [] [9] rfl (by decide +kernel) ?_;obtain ⟨y67,hy67,h⟩:=zAc h;refine ⟨_,⟨_,_,hy67,rfl,rfl⟩,?_⟩
     obtain ⟨hq,h⟩:=zAR h;refine And.intro (Nat.le_trans hq (by decide)) ?_;obtain ⟨⟨y68,_,b70⟩,hy68,h⟩:=zAc h;refine ⟨_,_,(Or.inl ⟨_,_,_,_,_,hy68,rfl,rfl,rfl,rfl⟩),?_⟩
     have hy:=Option.some.inj h;subst hy;unfold zBV;exact ⟨_,(Le.rnm [(0,0),(3,2)] [] [(0,.box 137 (zA9 (.op 0 39) (.orow 2))),(2,.row 5 1 ((List.map brow) b70))] 3 trivial ⟨rfl,⟨_,rfl,rfl⟩,rfl,⟨_,rfl,rfl⟩,trivial⟩),rfl,rfl,rfl,rfl,rfl,rfl,trivial⟩
    ·replace h:=zAm hb h;refine zAg ?_;have hy:=Option.some.inj h;subst hy;unfold zBV;exact ⟨_,(Le.rnm [(0,0),(2,2)] [] [(0,.box 137 (zA9 (.op 0 39) (.orow 2))),(2,.row 5 1 ((List.map brow) l45))] 3 trivial ⟨rfl,⟨_,rfl,rfl⟩,rfl,⟨_,rfl,rfl⟩,trivial⟩),rfl,rfl,rfl,rfl,rfl,rfl,trivial⟩
def zAs (p : (Nd × Int)) : List S:=[.pt (Nd.enc p.1),.int .i64 p.2]
def zQ8 (n : Nat) (xs : List AV) (r : Ret) : Prop:=∃ (a0 : Nd) (y0 : List UInt8),zEF n a0 = some y0 ∧ xs = [.agg ((Nd.enc a0).map .s)] ∧ r = .val (.s (.str y0))
def zLv : zAt:=zAG fun xs r=>∃ n,zQ8 n xs r
set_option maxHeartbeats 8000000 in
theorem zQo : PSound Tryz.prog 67 zLv:=by
 have gok : ∀ f s,look? f [(53,zHs),(97,orS zF0 zES),(98,zBy),(99,zD2)] = some s → PSound Tryz.prog f s:=zAu (by
  simp only [List.forall_mem_cons]
  exact ⟨zJI,(zQC zIY zHk),zBZ,zGj,by simp⟩)
 refine zAK tokW Tryz.call67 Tryz.func67 rfl (fun xs r h=>by obtain ⟨n,_,_,_,rfl,_⟩:=h; show 1 ≤ 83; decide) 83 rfl ?_;rintro xs r w0 G0 ⟨n,⟨a1A,a1C,a1D,a1B⟩,y0,h,rfl,rfl⟩ _;rw [zEF] at h;refine zAa ?_;refine zAb [] [] rfl ?_;show Tri ..;refine zAa ?_;refine zAb [10] [] rfl ?_;obtain ⟨_,hy2,h⟩:=zAc h;refine ⟨_,⟨_,hy2,rfl,rfl⟩,?_⟩
 show Tri ..;refine zAj (Le.trans (Le.rnm [(0,0)] [(1,.s (.pt [.int .i64 a1A,.str a1C,.int .i64 a1D,.sl 4 (Nd.encs a1B)])),(3,.op 0 0)] [(0,.box 137 (zA9 (.s (.np)) (.nl 1)))] 1 ⟨rfl,rfl,trivial⟩ ⟨rfl,⟨_,rfl,rfl⟩,trivial⟩) (Le.takeNil 0 40 5 rfl rfl (by decide))) ?_;refine zAa ?_;refine zAb [] [] rfl ?_;obtain ⟨b3,hb3,h⟩:=zAc h;refine ⟨_,_,(Or.inr ⟨_,_,_,_,hb3,rfl,rfl,rfl,rfl⟩),?_⟩
 show Tri ..;refine zAa ?_;refine zAb [14] [] rfl ?_;show Tri ..;refine zAj (Le.rnm [(0,0),(2,1),(3,2)] [(3,.op 0 0),(4,.orow 2)] [(0,.box 137 (zA9 (.op 0 39) (.orow 1))),(1,.row 5 1 ((List.map brow) b3)),(2,.row 140 2 ((List.map zAs) [(Nd.mk a1A a1C a1D a1B,0)]))] 3 ⟨rfl,rfl,trivial⟩ ⟨rfl,⟨_,rfl,rfl⟩,rfl,⟨_,rfl,rfl⟩,rfl,⟨_,rfl,congrArg (Ob.row 140 2) (by simp [List.map_append,List.map_take,List.map_drop,irow,brow,zAQ,List.map_cons,List.map_nil,zAJ,Nd.encs_eq,Nd.enc,zAq,zAo,zAp,zAv,zAw,zAs])⟩,trivial⟩) ?_;refine zAa ?_
 obtain ⟨l7,hl,h⟩:=zAc h;refine zAr ⟨ofL [(3,.op 0 0)],ofH [(0,.box 137 (zA9 (.op 0 39) (.orow 1))),(1,.row 5 1 ((List.map brow) l7))],2⟩ ?_ (fun σ' hle=>?_)
 ·refine zAl (zAI (X:=Nat × (List UInt8) × (List (Nd × Int))) (fun y=>match y with | (k,l5,l6)=>⟨ofL [(3,.op 0 0),(4,.orow 2)],ofH [(0,.box 137 (zA9 (.op 0 39) (.orow 1))),(1,.row 5 1 ((List.map brow) l5)),(2,.row 140 2 ((List.map zAs) l6))],3⟩) (fun y=>zB1 n y.1 y.2.1 y.2.2 = some l7) (fun y=>y.1) (n,b3,[(Nd.mk a1A a1C a1D a1B,0)]) hl ?_ ?_)
  ·exact (Le.rnm [(0,0),(1,1),(2,2)] _ _ _ ⟨rfl,rfl,trivial⟩ ⟨rfl,⟨_,rfl,rfl⟩,rfl,⟨_,rfl,rfl⟩,rfl,⟨_,rfl,rfl⟩,trivial⟩)
  ·rintro ⟨k,l5,l6⟩ h;cases k with
   | zero=>cases h
   | succ k =>
    replace h : zB1 n (k+1) l5 l6 = some l7:=h;rw [zB1] at h;refine zAa ?_;refine zAa ?_;refine zAb [] [16] rfl ?_;intro n8 hn8;obtain rfl : (l6.length : Int) = n8:=(hn8.trans (congrArg (fun m : Nat=>(m : Int)) (rlen (fun _=>rfl) l6))).symm;show Tri ..;refine zAd rfl (fun hb=>?_) (fun hb=>?_)
    ·replace h:=zAn hb h;refine zAg ?_;show Tri ..;refine zAl ?_;refine zAa ?_;refine zAb [] [20] rfl ?_;intro n9 hn9;obtain rfl : (l6.length : Int) = n9:=(hn9.trans (congrArg (fun m : Nat=>(m : Int)) (rlen (fun _=>rfl) l6))).symm;obtain ⟨⟨⟨e10As,e10At,e10Au,e10Ah⟩,e10B⟩,he10,h⟩:=zAc h;refine And.intro (zAC (fun _=>rfl) he10).1 ?_;show Tri ..;refine zAa ?_;refine zAb [] [] rfl ?_;refine And.intro (zAC (fun _=>rfl) he10).2.2 ?_;refine ⟨_,(zAC (fun _=>rfl) he10).2.1,?_⟩
     show Tri ..;refine zAa ?_;refine zAa ?_;refine zAb [] [35] rfl ?_;refine And.intro (zAC (fun _=>rfl) he10).2.2 ?_;refine ⟨_,(zAC (fun _=>rfl) he10).2.1,?_⟩
     intro n11 hn11;obtain rfl : (e10Ah.length : Int) = n11:=(hn11.trans (congrArg (fun m : Nat=>(m : Int)) (rlen Nd.encs_eq e10Ah))).symm;show Tri ..;refine zAd rfl (fun hb=>?_) (fun hb=>?_)
     ·replace h:=zAn hb h;refine zAa ?_;refine zAa ?_;refine zAb [] [] rfl ?_;show Tri ..;obtain ⟨l12,hj,h⟩:=zAc h;refine zAr ⟨ofL [(3,.op 0 0),(4,.orow 2)],ofH [(0,.box 137 (zA9 (.op 0 39) (.orow 1))),(1,.row 5 1 ((List.map brow) l12)),(2,.row 140 2 ((List.map zAs) l6))],3⟩ ?_ (fun σ' hle=>?_)
      ·replace h:=hj;refine zAd rfl (fun hb=>?_) (fun hb=>?_)
       ·replace h:=zAn hb h;refine zAb [] [] rfl ?_;obtain ⟨⟨_,b14⟩,hy13,h⟩:=zAc h;refine ⟨_,_,⟨_,_,_,_,hy13,rfl,rfl,rfl,rfl⟩,?_⟩
        cases h;exact (Le.rnm [(0,0),(3,1),(2,2)] _ _ _ ⟨rfl,rfl,trivial⟩ ⟨rfl,⟨_,rfl,rfl⟩,rfl,⟨_,rfl,rfl⟩,rfl,⟨_,rfl,rfl⟩,trivial⟩)
       ·replace h:=zAm hb h;refine zAg ?_;cases h;exact (Le.rnm [(0,0),(1,1),(2,2)] _ _ _ ⟨rfl,rfl,trivial⟩ ⟨rfl,⟨_,rfl,rfl⟩,rfl,⟨_,rfl,rfl⟩,rfl,⟨_,rfl,rfl⟩,trivial⟩)
      ·show Tri ..;refine zAj hle ?_;refine zAa ?_;refine zAb [47] [45] rfl ?_;intro n15 hn15;obtain rfl : (l6.length : Int) = n15:=(hn15.trans (congrArg (fun m : Nat=>(m : Int)) (rlen (fun _=>rfl) l6))).symm;obtain ⟨hq,h⟩:=zAR h;refine And.intro ⟨hq.1,Int.le_trans hq.2 (Int.ofNat_le.2 (Nat.le_of_eq (rlen (fun _=>rfl) _).symm))⟩ ?_;show Tri ..
       refine zAj (Le.rnm [(0,0),(1,1),(3,2)] [(3,.op 0 0),(4,.orow 2)] [(0,.box 137 (zA9 (.op 0 39) (.orow 1))),(1,.row 5 1 ((List.map brow) l12)),(2,.row 140 2 ((List.map zAs) (l6.take (IntKind.i64.wrap ((l6.length : Int) - 1)).toNat)))] 3 ⟨rfl,rfl,trivial⟩ ⟨rfl,⟨_,rfl,rfl⟩,rfl,⟨_,rfl,rfl⟩,rfl,⟨_,rfl,congrArg (Ob.row 140 2) (by simp [List.map_append,List.map_take,List.map_drop,irow,brow,zAQ,List.map_cons,List.map_nil,zAJ,Nd.encs_eq,Nd.enc,zAq,zAo,zAp,zAv,zAw,zAs])⟩,trivial⟩) ?_;refine zAM ?_
       refine ⟨(k,l12,l6.take (IntKind.i64.wrap ((l6.length : Int) - 1)).toNat),h,(Le.rnm [(0,0),(1,1),(2,2)] _ _ _ ⟨rfl,rfl,trivial⟩ ⟨rfl,⟨_,rfl,rfl⟩,rfl,⟨_,rfl,rfl⟩,rfl,⟨_,rfl,rfl⟩,trivial⟩),Nat.lt_succ_self k⟩
     ·replace h:=zAm hb h;refine zAg ?_;show Tri ..;refine zAa ?_;refine zAb [] [] rfl ?_;refine And.intro (zAC (fun _=>rfl) he10).2.2 ?_;refine ⟨_,(zAC (fun _=>rfl) he10).2.1,?_⟩
      have hset16:=(rset (R:=(List.map zAs)) (f:=zAs) (fun _=>rfl) he10 (Nd.mk e10As e10At e10Au e10Ah,IntKind.i64.wrap (e10B + 1)) 1 2 [.int .i64 (IntKind.i64.wrap (e10B + 1))] rfl)
      have hat16:=at_set he10 (Nd.mk e10As e10At e10Au e10Ah,IntKind.i64.wrap (e10B + 1))
      refine And.intro (zAC (fun _=>rfl) he10).2.2 ?_;show Tri ..;refine zAa ?_;refine zAb [] [63] rfl ?_;refine And.intro ((congrArg (fun r : List (List S)=>(IntKind.i64.wrap ((l6.length : Int) - 1)).toNat < r.length) hset16).mpr (zAC (fun _=>rfl) hat16).2.2) ?_;refine ⟨_,(congrArg (fun r : List (List S)=>r.getD (IntKind.i64.wrap ((l6.length : Int) - 1)).toNat []) hset16).trans (zAC (fun _=>rfl) hat16).2.1,?_⟩
      obtain ⟨⟨e17A,e17C,e17D,e17B⟩,he17,h⟩:=zAc h;refine And.intro (zAC Nd.encs_eq he17).1 ?_;intro r18 hr18;obtain rfl : [.int .i64 e17A,.str e17C,.int .i64 e17D,.sl 4 (Nd.encs e17B)] = r18:=(hr18.trans (zAC Nd.encs_eq he17).2.1).symm;show Tri ..
      refine zAj (Le.rnm [(0,0),(1,1),(2,2)] [(3,.op 0 0),(4,.orow 2),(6,.s (.int .i64 e10B)),(7,.s (.pt [.int .i64 e17A,.str e17C,.int .i64 e17D,.sl 4 (Nd.encs e17B)]))] [(0,.box 137 (zA9 (.op 0 39) (.orow 1))),(1,.row 5 1 ((List.map brow) l5)),(2,.row 140 2 ((List.map zAs) (l6.set (IntKind.i64.wrap ((l6.length : Int) - 1)).toNat (Nd.mk e10As e10At e10Au e10Ah,IntKind.i64.wrap (e10B + 1)))))] 3 ⟨rfl,rfl,rfl,rfl,trivial⟩ ⟨rfl,⟨_,rfl,rfl⟩,rfl,⟨_,rfl,rfl⟩,rfl,⟨_,rfl,congrArg (Ob.row 140 2) hset16⟩,trivial⟩) ?_;refine zAa ?_
      refine zAB (by exact tokW) (by exact gok) (by exact mixed) [] [69] [6] rfl (by decide +kernel) ?_;obtain ⟨c19,hc19,h⟩:=zAc h;refine And.intro (zBh hc19).1 ?_;intro v20 hv20;obtain rfl : (c19.toNat : Int) = v20:=(hv20.trans (zBh hc19).2).symm;obtain ⟨⟨_,b22⟩,hy21,h⟩:=zAc h;refine ⟨_,_,⟨_,_,_,_,hy21,rfl,rfl,rfl,rfl⟩,?_⟩
      show Tri ..;refine zAa ?_;refine zAb [] [] rfl ?_;obtain ⟨b23,hb23,h⟩:=zAc h;refine ⟨_,_,(Or.inl ⟨_,_,_,_,hb23,rfl,rfl,rfl,rfl⟩),?_⟩
      show Tri ..;refine zAb [78] [77] rfl ?_;intro r24 hr24;obtain rfl : (List.map zAs) [(Nd.mk e17A e17C e17D e17B,0)] = r24:=(hr24.trans (by simp [List.map_append,List.map_take,List.map_drop,irow,brow,zAQ,List.map_cons,List.map_nil,zAJ,Nd.encs_eq,Nd.enc,zAq,zAo,zAp,zAv,zAw,zAs])).symm;obtain ⟨hq,h⟩:=zAR h
      refine And.intro (show (((List.map zAs) (l6.set (IntKind.i64.wrap ((l6.length : Int) - 1)).toNat (Nd.mk e10As e10At e10Au e10Ah,IntKind.i64.wrap (e10B + 1)))).length + ((List.map zAs) [(Nd.mk e17A e17C e17D e17B,0)]).length) * 16 ≤ 140737488355328 ∧ ((List.map zAs) (l6.set (IntKind.i64.wrap ((l6.length : Int) - 1)).toNat (Nd.mk e10As e10At e10Au e10Ah,IntKind.i64.wrap (e10B + 1)))).length + ((List.map zAs) [(Nd.mk e17A e17C e17D e17B,0)]).length ≤ 9223372036854775807 from by simp only [List.length_append,List.length_cons,List.length_nil,List.length_map,rlen (fun _=>rfl)] at hq ⊢; omega) ?_
      refine ⟨(k,b23,(l6.set (IntKind.i64.wrap ((l6.length : Int) - 1)).toNat (Nd.mk e10As e10At e10Au e10Ah,IntKind.i64.wrap (e10B + 1))) ++ [(Nd.mk e17A e17C e17D e17B,0)]),h,(Le.trans (Le.rnm [(0,0),(4,1),(5,2)] [(3,.op 0 0),(4,.orow 2)] [(0,.box 137 (zA9 (.op 0 39) (.orow 1))),(1,.row 5 1 ((List.map brow) b23)),(2,.row 140 2 ((List.map zAs) ((l6.set (IntKind.i64.wrap ((l6.length : Int) - 1)).toNat (Nd.mk e10As e10At e10Au e10Ah,IntKind.i64.wrap (e10B + 1))) ++ [(Nd.mk e17A e17C e17D e17B,0)])))] 3 ⟨rfl,rfl,trivial⟩ ⟨rfl,⟨_,rfl,rfl⟩,rfl,⟨_,rfl,rfl⟩,rfl,⟨_,rfl,congrArg (Ob.row 140 2) (by simp [List.map_append,List.map_take,List.map_drop,irow,brow,zAQ,List.map_cons,List.map_nil,zAJ,Nd.encs_eq,Nd.enc,zAq,zAo,zAp,zAv,zAw,zAs])⟩,trivial⟩) (Le.rnm [(0,0),(1,1),(2,2)] _ _ _ ⟨rfl,rfl,trivial⟩ ⟨rfl,⟨_,rfl,rfl⟩,rfl,⟨_,rfl,rfl⟩,rfl,⟨_,rfl,rfl⟩,trivial⟩)),Nat.lt_succ_self k⟩
    ·replace h:=zAm hb h;refine zAM ?_;cases h;exact (Le.rnm [(0,0),(1,1)] _ _ _ ⟨rfl,trivial⟩ ⟨rfl,⟨_,rfl,rfl⟩,rfl,⟨_,rfl,rfl⟩,trivial⟩)
 ·show Tri ..;refine zAj hle ?_;refine zAa ?_;refine zAb [] [] rfl ?_;obtain ⟨y25,hy25,h⟩:=zAc h;refine ⟨_,_,⟨_,_,hy25,rfl,rfl,rfl,rfl⟩,?_⟩
  show Tri ..;refine zAh ?_;have hy:=Option.some.inj h;subst hy;unfold zAA;exact ⟨_,Le.refl _ _,rfl,rfl⟩
def zAy (p : (Int × Int)) : List S:=[.int .i64 p.1,.int .i64 p.2]
def zPc (n : Nat) (xs : List AV) (r : Ret) : Prop:=∃ (a0 : List Nd) (a1 : List Nd) (y0 : List (Int × Int)),zD7 n a0 a1 = some y0 ∧ xs = [.s (.sl 4 (Nd.encs a0)),.s (.sl 4 (Nd.encs a1))] ∧ r = .row 83 2 ((List.map zAy) y0)
def zHq : zAt:=zAG fun xs r=>∃ n,zPc n xs r
theorem zJD : PSound Tryz.prog 45 zHq:=by
 have gok : ∀ f s,look? f [(37,zIJ),(67,zLv)] = some s → PSound Tryz.prog f s:=zAu (by
  simp only [List.forall_mem_cons]
  exact ⟨zKJ,zQo,by simp⟩)
 refine zAK tokW Tryz.call45 Tryz.func45 rfl (fun xs r h=>by obtain ⟨n,_,_,_,_,rfl,_⟩:=h; show 2 ≤ 134; decide) 134 rfl ?_;rintro xs r w0 G0 ⟨n,a1,a2,y0,h,rfl,rfl⟩ _;rw [zD7] at h;refine zAa ?_;refine zAb [4] [] rfl ?_;show Tri ..;refine zAj (Le.rnm [] [(0,.s (.sl 4 (Nd.encs a1))),(1,.s (.sl 4 (Nd.encs a2)))] [] 0 ⟨rfl,rfl,trivial⟩ trivial) ?_;refine zAa ?_;refine zAb [5] [] rfl ?_;obtain ⟨⟨y3Ai,y3Aj,y3Ak,y3Al⟩,hy3,h⟩:=zAc h;refine ⟨_,⟨_,_,_,_,hy3,rfl,rfl⟩,?_⟩
 show Tri ..;refine zAj (Le.giveBox 0 [.sl 1 ((List.map zAw) y3Ai),.sl 1 ((List.map zAw) y3Aj),.sl 1 ((List.map (irow .i64)) y3Ak),.sl 1 ((List.map (irow .i64)) y3Al)] rfl rfl) ?_;refine zAa ?_;refine zAb [6] [] rfl ?_;show Tri ..
 refine zAj (Le.rnm [(1,0)] [(0,.s (.sl 4 (Nd.encs a1))),(1,.s (.sl 4 (Nd.encs a2))),(5,.s (.pt [.sl 1 ((List.map zAw) y3Ai),.sl 1 ((List.map zAw) y3Aj),.sl 1 ((List.map (irow .i64)) y3Ak),.sl 1 ((List.map (irow .i64)) y3Al)])),(6,.orow 0)] [(0,.row 83 2 ((List.map zAy) []))] 1 ⟨rfl,rfl,rfl,rfl,trivial⟩ ⟨rfl,⟨_,rfl,congrArg (Ob.row 83 2) (by simp [List.map_append,List.map_take,List.map_drop,irow,brow,zAQ,List.map_cons,List.map_nil,zAJ,Nd.encs_eq,Nd.enc,zAq,zAo,zAp,zAv,zAw,zAs,zAy])⟩,trivial⟩) ?_;refine zAa ?_;refine zAa ?_
 refine zAb [] [] rfl ?_;show Tri ..;obtain ⟨l8,hl,h⟩:=zAc h;refine zAr ⟨ofL [(6,.orow 0)],ofH [(0,.row 83 2 ((List.map zAy) l8))],1⟩ ?_ (fun σ' hle=>?_)
 ·refine zAl (zAI (X:=Nat × Int × Int × (List (Int × Int))) (fun y=>match y with | (k,x5,x6,l7)=>⟨ofL [(0,.s (.sl 4 (Nd.encs a1))),(1,.s (.sl 4 (Nd.encs a2))),(5,.s (.pt [.sl 1 ((List.map zAw) y3Ai),.sl 1 ((List.map zAw) y3Aj),.sl 1 ((List.map (irow .i64)) y3Ak),.sl 1 ((List.map (irow .i64)) y3Al)])),(6,.orow 0),(7,.s (.int .i64 x5)),(8,.s (.int .i64 x6))],ofH [(0,.row 83 2 ((List.map zAy) l7))],1⟩) (fun y=>zBA n a1 a2 y3Ai y3Aj y3Ak y3Al y.1 y.2.1 y.2.2.1 y.2.2.2 = some l8) (fun y=>y.1) (n,0,0,[]) hl ?_ ?_)
  ·exact (Le.rnm [(0,0)] _ _ _ ⟨rfl,rfl,rfl,rfl,rfl,rfl,trivial⟩ ⟨rfl,⟨_,rfl,rfl⟩,trivial⟩)
  ·rintro ⟨k,x5,x6,l7⟩ h;cases k with
   | zero=>cases h
   | succ k =>
    replace h : zBA n a1 a2 y3Ai y3Aj y3Ak y3Al (k+1) x5 x6 l7 = some l8:=h;rw [zBA] at h;refine zAa ?_;refine zAa ?_;obtain ⟨x9,hj,h⟩:=zAc h;refine zAr ⟨ofL [(0,.s (.sl 4 (Nd.encs a1))),(1,.s (.sl 4 (Nd.encs a2))),(5,.s (.pt [.sl 1 ((List.map zAw) y3Ai),.sl 1 ((List.map zAw) y3Aj),.sl 1 ((List.map (irow .i64)) y3Ak),.sl 1 ((List.map (irow .i64)) y3Al)])),(6,.orow 0),(7,.s (.int .i64 x5)),(8,.s (.int .i64 x6)),(24,.s (.bool x9))],ofH [(0,.row 83 2 ((List.map zAy) l7))],1⟩ ?_ (fun σ' hle=>?_)
    ·replace h:=hj;refine zAb [] [17,19,22] rfl ?_;intro n10 hn10;obtain rfl : (a1.length : Int) = n10:=(hn10.trans (congrArg (fun m : Nat=>(m : Int)) (rlen Nd.encs_eq a1))).symm;intro b hb;cases b with
     | true =>
      replace h:=zAn hb.symm h;intro n11 hn11;obtain rfl : (a2.length : Int) = n11:=(hn11.trans (congrArg (fun m : Nat=>(m : Int)) (rlen Nd.encs_eq a2))).symm;cases h;exact (Le.rnm [(0,0)] _ _ _ ⟨rfl,rfl,rfl,rfl,rfl,rfl,rfl,trivial⟩ ⟨rfl,⟨_,rfl,rfl⟩,trivial⟩)
     | false =>
      replace h:=zAm hb.symm h;cases h;exact (Le.rnm [(0,0)] _ _ _ ⟨rfl,rfl,rfl,rfl,rfl,rfl,rfl,trivial⟩ ⟨rfl,⟨_,rfl,rfl⟩,trivial⟩)
    ·show Tri ..;refine zAj hle ?_;refine zAd rfl (fun hb=>?_) (fun hb=>?_)
     ·replace h:=zAn hb h;refine zAg ?_;show Tri ..;refine zAl ?_;refine zAa ?_;refine zAb [] [28,31] rfl ?_;obtain ⟨e12,he12,h⟩:=zAc h;refine And.intro (zAC (fun _=>rfl) he12).1 ?_;intro r13 hr13;obtain rfl : [.sl 1 ((List.map (irow .i64)) e12)] = r13:=(hr13.trans (zAC (fun _=>rfl) he12).2.1).symm;obtain ⟨e14,he14,h⟩:=zAc h;refine And.intro (zAC (fun _=>rfl) he14).1 ?_;intro r15 hr15;obtain rfl : [.int .i64 e14] = r15:=(hr15.trans (zAC (fun _=>rfl) he14).2.1).symm;show Tri ..;refine zAa ?_;refine zAB (by exact tokW) (by exact gok) (by exact mixed) [] [38,41,46] [] rfl (by decide +kernel) ?_
      obtain ⟨e16,he16,h⟩:=zAc h;refine And.intro (zAC (fun _=>rfl) he16).1 ?_;intro r17 hr17;obtain rfl : [.sl 1 ((List.map (irow .i64)) e16)] = r17:=(hr17.trans (zAC (fun _=>rfl) he16).2.1).symm;obtain ⟨e18,he18,h⟩:=zAc h;refine And.intro (zAC (fun _=>rfl) he18).1 ?_;intro r19 hr19;obtain rfl : [.int .i64 e18] = r19:=(hr19.trans (zAC (fun _=>rfl) he18).2.1).symm;obtain ⟨e20,he20,h⟩:=zAc h;refine And.intro (zAC (fun _=>rfl) he20).1 ?_;intro r21 hr21;obtain rfl : [.int .i64 e20] = r21:=(hr21.trans (zAC (fun _=>rfl) he20).2.1).symm;show Tri ..;refine zAa ?_
      refine zAB (by exact tokW) (by exact gok) (by exact mixed) [] [54,58,63] [] rfl (by decide +kernel) ?_;obtain ⟨e22,he22,h⟩:=zAc h;refine And.intro (zAC (fun _=>rfl) he22).1 ?_;intro r23 hr23;obtain rfl : [.sl 1 ((List.map (irow .i64)) e22)] = r23:=(hr23.trans (zAC (fun _=>rfl) he22).2.1).symm;obtain ⟨e24,he24,h⟩:=zAc h;refine And.intro (zAC (fun _=>rfl) he24).1 ?_;intro r25 hr25;obtain rfl : [.int .i64 e24] = r25:=(hr25.trans (zAC (fun _=>rfl) he24).2.1).symm;obtain ⟨e26,he26,h⟩:=zAc h;refine And.intro (zAC (fun _=>rfl) he26).1 ?_;intro r27 hr27
      obtain rfl : [.int .i64 e26] = r27:=(hr27.trans (zAC (fun _=>rfl) he26).2.1).symm;show Tri ..;refine zAl ?_;refine zAa ?_;obtain ⟨x28,hj,h⟩:=zAc h
      refine zAr ⟨ofL [(0,.s (.sl 4 (Nd.encs a1))),(1,.s (.sl 4 (Nd.encs a2))),(5,.s (.pt [.sl 1 ((List.map zAw) y3Ai),.sl 1 ((List.map zAw) y3Aj),.sl 1 ((List.map (irow .i64)) y3Ak),.sl 1 ((List.map (irow .i64)) y3Al)])),(6,.orow 0),(7,.s (.int .i64 x5)),(8,.s (.int .i64 x6)),(10,.s (.bool (e14 == (IntKind.i64.wrap (e18 + e20))))),(11,.s (.bool (e14 == (IntKind.i64.wrap (e24 + e26))))),(69,.s (.bool x28))],ofH [(0,.row 83 2 ((List.map zAy) l7))],1⟩ ?_ (fun σ' hle=>?_)
      ·replace h:=hj;refine zAB (by exact tokW) (by exact gok) (by exact mixed) [] [73,76,79,85,89,94,97] [] rfl (by decide +kernel) ?_;obtain ⟨e29,he29,h⟩:=zAc h;refine And.intro (zAC (fun _=>rfl) he29).1 ?_;intro r30 hr30;obtain rfl : [.sl 1 ((List.map (irow .i64)) e29)] = r30:=(hr30.trans (zAC (fun _=>rfl) he29).2.1).symm;obtain ⟨e31,he31,h⟩:=zAc h;refine And.intro (zAC (fun _=>rfl) he31).1 ?_;intro r32 hr32;obtain rfl : [.int .i64 e31] = r32:=(hr32.trans (zAC (fun _=>rfl) he31).2.1).symm;intro b hb;cases b with
       | true =>
        replace h:=zAn hb.symm h;obtain ⟨e33,he33,h⟩:=zAc h;refine And.intro (zAC (fun _=>rfl) he33).1 ?_;intro r34 hr34;obtain rfl : [.sl 1 ((List.map (irow .i64)) e33)] = r34:=(hr34.trans (zAC (fun _=>rfl) he33).2.1).symm;obtain ⟨e35,he35,h⟩:=zAc h;refine And.intro (zAC (fun _=>rfl) he35).1 ?_;intro r36 hr36;obtain rfl : [.int .i64 e35] = r36:=(hr36.trans (zAC (fun _=>rfl) he35).2.1).symm;obtain ⟨e37,he37,h⟩:=zAc h;refine And.intro (zAC (fun _=>rfl) he37).1 ?_;intro r38 hr38;obtain rfl : [.sl 1 ((List.map (irow .i64)) e37)] = r38:=(hr38.trans (zAC (fun _=>rfl) he37).2.1).symm;obtain ⟨e39,he39,h⟩:=zAc h
        refine And.intro (zAC (fun _=>rfl) he39).1 ?_;intro r40 hr40;obtain rfl : [.int .i64 e39] = r40:=(hr40.trans (zAC (fun _=>rfl) he39).2.1).symm;cases h;exact (Le.rnm [(0,0)] _ _ _ ⟨rfl,rfl,rfl,rfl,rfl,rfl,rfl,rfl,rfl,trivial⟩ ⟨rfl,⟨_,rfl,rfl⟩,trivial⟩)
       | false =>
        replace h:=zAm hb.symm h;cases h;exact (Le.rnm [(0,0)] _ _ _ ⟨rfl,rfl,rfl,rfl,rfl,rfl,rfl,rfl,rfl,trivial⟩ ⟨rfl,⟨_,rfl,rfl⟩,trivial⟩)
      ·show Tri ..;refine zAj hle ?_;refine zAd rfl (fun hb=>?_) (fun hb=>?_)
       ·replace h:=zAn hb h;refine zAa ?_;refine zAb [107] [106] rfl ?_;intro r41 hr41;obtain rfl : (List.map zAy) [(x5,x6)] = r41:=(hr41.trans (by simp [List.map_append,List.map_take,List.map_drop,irow,brow,zAQ,List.map_cons,List.map_nil,zAJ,Nd.encs_eq,Nd.enc,zAq,zAo,zAp,zAv,zAw,zAs,zAy])).symm;obtain ⟨hq,h⟩:=zAR h
        refine And.intro (show (((List.map zAy) l7).length + ((List.map zAy) [(x5,x6)]).length) * 16 ≤ 140737488355328 ∧ ((List.map zAy) l7).length + ((List.map zAy) [(x5,x6)]).length ≤ 9223372036854775807 from by simp only [List.length_append,List.length_cons,List.length_nil,List.length_map,rlen (fun _=>rfl)] at hq ⊢; omega) ?_;show Tri ..
        refine zAj (Le.rnm [(1,0)] [(0,.s (.sl 4 (Nd.encs a1))),(1,.s (.sl 4 (Nd.encs a2))),(5,.s (.pt [.sl 1 ((List.map zAw) y3Ai),.sl 1 ((List.map zAw) y3Aj),.sl 1 ((List.map (irow .i64)) y3Ak),.sl 1 ((List.map (irow .i64)) y3Al)])),(6,.orow 0),(7,.s (.int .i64 x5)),(8,.s (.int .i64 x6))] [(0,.row 83 2 ((List.map zAy) (l7 ++ [(x5,x6)])))] 1 ⟨rfl,rfl,rfl,rfl,rfl,rfl,trivial⟩ ⟨rfl,⟨_,rfl,congrArg (Ob.row 83 2) (by simp [List.map_append,List.map_take,List.map_drop,irow,brow,zAQ,List.map_cons,List.map_nil,zAJ,Nd.encs_eq,Nd.enc,zAq,zAo,zAp,zAv,zAw,zAs,zAy])⟩,trivial⟩) ?_
        refine zAb [] [] rfl ?_;refine ⟨(k,IntKind.i64.wrap (x5 + 1),IntKind.i64.wrap (x6 + 1),l7 ++ [(x5,x6)]),h,(Le.rnm [(0,0)] _ _ _ ⟨rfl,rfl,rfl,rfl,rfl,rfl,trivial⟩ ⟨rfl,⟨_,rfl,rfl⟩,trivial⟩),Nat.lt_succ_self k⟩
       ·replace h:=zAm hb h;refine zAa ?_;obtain ⟨x42,hj,h⟩:=zAc h;refine zAr ⟨ofL [(0,.s (.sl 4 (Nd.encs a1))),(1,.s (.sl 4 (Nd.encs a2))),(5,.s (.pt [.sl 1 ((List.map zAw) y3Ai),.sl 1 ((List.map zAw) y3Aj),.sl 1 ((List.map (irow .i64)) y3Ak),.sl 1 ((List.map (irow .i64)) y3Al)])),(6,.orow 0),(7,.s (.int .i64 x5)),(8,.s (.int .i64 x6)),(112,.s (.bool x42))],ofH [(0,.row 83 2 ((List.map zAy) l7))],1⟩ ?_ (fun σ' hle=>?_)
        ·replace h:=hj;refine zAB (by exact tokW) (by exact gok) (by exact mixed) [] [114,117,120,125] [] rfl (by decide +kernel) ?_;intro b hb;cases b with
         | true =>
          replace h:=zAn hb.symm h;intro b hb;cases b with
          | true =>
           replace h:=zAn hb.symm h;cases h;exact (Le.rnm [(0,0)] _ _ _ ⟨rfl,rfl,rfl,rfl,rfl,rfl,rfl,trivial⟩ ⟨rfl,⟨_,rfl,rfl⟩,trivial⟩)
          | false =>
           replace h:=zAm hb.symm h;obtain ⟨⟨e43A,e43C,e43D,e43B⟩,he43,h⟩:=zAc h;refine And.intro (zAC Nd.encs_eq he43).1 ?_;intro r44 hr44;obtain rfl : [.int .i64 e43A,.str e43C,.int .i64 e43D,.sl 4 (Nd.encs e43B)] = r44:=(hr44.trans (zAC Nd.encs_eq he43).2.1).symm;obtain ⟨y45,hy45,h⟩:=zAc h;refine ⟨_,⟨_,_,_,hy45,rfl,rfl⟩,?_⟩
           obtain ⟨⟨e46A,e46C,e46D,e46B⟩,he46,h⟩:=zAc h;refine And.intro (zAC Nd.encs_eq he46).1 ?_;intro r47 hr47;obtain rfl : [.int .i64 e46A,.str e46C,.int .i64 e46D,.sl 4 (Nd.encs e46B)] = r47:=(hr47.trans (zAC Nd.encs_eq he46).2.1).symm;obtain ⟨y48,hy48,h⟩:=zAc h;refine ⟨_,⟨_,_,_,hy48,rfl,rfl⟩,?_⟩
           cases h;exact (Le.rnm [(0,0)] _ _ _ ⟨rfl,rfl,rfl,rfl,rfl,rfl,rfl,trivial⟩ ⟨rfl,⟨_,rfl,rfl⟩,trivial⟩)
         | false =>
          replace h:=zAm hb.symm h;cases h;exact (Le.rnm [(0,0)] _ _ _ ⟨rfl,rfl,rfl,rfl,rfl,rfl,rfl,trivial⟩ ⟨rfl,⟨_,rfl,rfl⟩,trivial⟩)
        ·show Tri ..;refine zAj hle ?_;refine zAd rfl (fun hb=>?_) (fun hb=>?_)
         ·replace h:=zAn hb h;refine zAb [] [] rfl ?_;refine ⟨(k,IntKind.i64.wrap (x5 + 1),x6,l7),h,(Le.rnm [(0,0)] _ _ _ ⟨rfl,rfl,rfl,rfl,rfl,rfl,trivial⟩ ⟨rfl,⟨_,rfl,rfl⟩,trivial⟩),Nat.lt_succ_self k⟩
         ·replace h:=zAm hb h;refine zAb [] [] rfl ?_;refine ⟨(k,x5,IntKind.i64.wrap (x6 + 1),l7),h,(Le.rnm [(0,0)] _ _ _ ⟨rfl,rfl,rfl,rfl,rfl,rfl,trivial⟩ ⟨rfl,⟨_,rfl,rfl⟩,trivial⟩),Nat.lt_succ_self k⟩
     ·replace h:=zAm hb h;refine zAM ?_;cases h;exact (Le.rnm [(0,0)] _ _ _ ⟨rfl,trivial⟩ ⟨rfl,⟨_,rfl,rfl⟩,trivial⟩)
 ·show Tri ..;refine zAj hle ?_;refine zAa ?_;refine zAb [] [] rfl ?_;show Tri ..;refine zAh ?_;have hy:=Option.some.inj h;subst hy;unfold zAA;exact ⟨_,Le.refl _ _,0,rfl,rfl⟩
end Go.Proofs.YtjdhkpdjecegnaaGreatDoor
namespace Go.Proofs.YtjdhkpdjecegnaaGreatDoor
open Go.Abs
def zAi (p : zO8) : List S:=[.int .i64 p.1,.sl 1 ((List.map (irow .i64)) p.2.1),.int .i64 p.2.2.1,.int .i64 p.2.2.2.1,.sl 4 (Nd.encs p.2.2.2.2.1),.int .i64 p.2.2.2.2.2.1,.str p.2.2.2.2.2.2.1,.str p.2.2.2.2.2.2.2]
def zPe (n : Nat) (xs : List AV) (r : Ret) : Prop:=∃ (a0 : Nd) (a1 : Nd) (y0 : Bool),zD9 n a0 a1 = some y0 ∧ xs = [.agg ((Nd.enc a0).map .s),.agg ((Nd.enc a1).map .s)] ∧ r = .val (.s (.bool y0))
def zHr : zAt:=zAG fun xs r=>∃ n,zPe n xs r
theorem zJF : PSound Tryz.prog 22 zHr:=by
 have gok : ∀ f s,look? f [(33,zCL)] = some s → PSound Tryz.prog f s:=zAu (by
  simp only [List.forall_mem_cons]
  exact ⟨zC0,by simp⟩)
 refine zAK tokW Tryz.call22 Tryz.func22 rfl (fun xs r h=>by obtain ⟨n,_,_,_,_,rfl,_⟩:=h; show 2 ≤ 11; decide) 11 rfl ?_;rintro xs r w0 G0 ⟨n,⟨a1A,a1C,a1D,a1B⟩,⟨b2A,b2C,b2D,b2B⟩,y0,h,rfl,rfl⟩ _;rw [zD9] at h;refine zAa ?_;refine zAb [] [] rfl ?_;show Tri ..;refine zAa ?_;obtain ⟨x3,hj,h⟩:=zAc h;refine zAr ⟨ofL [(4,.s (.bool x3))],fun _=>none,0⟩ ?_ (fun σ' hle=>?_)
 ·replace h:=hj;refine zAb [] [7] rfl ?_;obtain ⟨y4,hy4,h⟩:=zAc h;refine ⟨_,⟨_,_,_,hy4,rfl,rfl⟩,?_⟩
  intro b hb;cases b with
  | true =>
   replace h:=zAn hb.symm h;obtain ⟨y5,hy5,h⟩:=zAc h;refine ⟨_,⟨_,_,_,hy5,rfl,rfl⟩,?_⟩
   cases h;exact (Le.forget _ ⟨rfl,trivial⟩)
  | false =>
   replace h:=zAm hb.symm h;cases h;exact (Le.forget _ ⟨rfl,trivial⟩)
 ·show Tri ..;refine zAj hle ?_;refine zAh ?_;have hy:=Option.some.inj h;subst hy;unfold zAA;exact ⟨_,Le.refl _ _,rfl,rfl⟩
def zQ6 (n : Nat) (xs : List AV) (r : Ret) : Prop:=∃ (a0 : Nd) (a1 : Nd) (y0 : Int) (y1 : Int),zIV n a0 a1 = some (y0,y1) ∧ xs = [.agg ((Nd.enc a0).map .s),.agg ((Nd.enc a1).map .s)] ∧ r = .val (.tup [.s (.int .i64 y0),.s (.int .i64 y1)])
def zLt : zAt:=zAG fun xs r=>∃ n,zQ6 n xs r
theorem zQm : PSound Tryz.prog 14 zLt:=by
 have gok : ∀ f s,look? f [(22,zHr),(37,zIJ)] = some s → PSound Tryz.prog f s:=zAu (by
  simp only [List.forall_mem_cons]
  exact ⟨zJF,zKJ,by simp⟩)
 refine zAK tokW Tryz.call14 Tryz.func14 rfl (fun xs r h=>by obtain ⟨n,_,_,_,_,_,rfl,_⟩:=h; show 2 ≤ 20; decide) 20 rfl ?_;rintro xs r w0 G0 ⟨n,⟨a1A,a1C,a1D,a1B⟩,⟨b2A,b2C,b2D,b2B⟩,y0,y1,h,rfl,rfl⟩ _;rw [zIV] at h;refine zAa ?_;refine zAb [] [] rfl ?_;show Tri ..;refine zAa ?_;refine zAa ?_;refine zAb [] [] rfl ?_;obtain ⟨y3,hy3,h⟩:=zAc h;refine ⟨_,⟨_,_,_,_,hy3,rfl,rfl⟩,?_⟩
 show Tri ..;refine zAd rfl (fun hb=>?_) (fun hb=>?_)
 ·replace h:=zAn hb h;refine zAa ?_;refine zAb [] [] rfl ?_;show Tri ..;refine zAh ?_;obtain ⟨hj1,hk1⟩:=Prod.mk.inj (Option.some.inj h)
  subst hj1;subst hk1;unfold zAA;exact ⟨_,Le.refl _ _,rfl,rfl⟩
 ·replace h:=zAm hb h;refine zAg ?_;show Tri ..;refine zAa ?_;refine zAb [] [16,18] rfl ?_;obtain ⟨⟨y4Ai,y4Aj,y4Ak,y4Al⟩,hy4,h⟩:=zAc h;refine ⟨_,⟨_,_,_,_,hy4,rfl,rfl⟩,?_⟩
  obtain ⟨e5,he5,h⟩:=zAc h;refine And.intro (zAC (fun _=>rfl) he5).1 ?_;intro r6 hr6;obtain rfl : [.sl 1 ((List.map (irow .i64)) e5)] = r6:=(hr6.trans (zAC (fun _=>rfl) he5).2.1).symm;obtain ⟨e7,he7,h⟩:=zAc h;refine And.intro (zAC (fun _=>rfl) he7).1 ?_;intro r8 hr8;obtain rfl : [.int .i64 e7] = r8:=(hr8.trans (zAC (fun _=>rfl) he7).2.1).symm;show Tri ..;refine zAh ?_;obtain ⟨hj1,hk1⟩:=Prod.mk.inj (Option.some.inj h)
  subst hj1;subst hk1;unfold zAA;exact ⟨_,Le.refl _ _,rfl,rfl⟩
def zFt (n : Nat) (xs : List AV) (r : Ret) : Prop:=∃ (a0 : Nd) (y0 : Int),zCW n a0 = some y0 ∧ xs = [.agg ((Nd.enc a0).map .s)] ∧ r = .val (.s (.int .i64 y0))
theorem zM6 (n : Nat) (ih : PSound Tryz.prog 28 (zAG (zFt n))) : PSound Tryz.prog 28 (zAG (zFt (n + 1))):=by
 have gok : ∀ f s,look? f [(28,zAG (zFt n))] = some s → PSound Tryz.prog f s:=zAu (by
  simp only [List.forall_mem_cons]
  exact ⟨ih,by simp⟩)
 refine zAK tokW Tryz.call28 Tryz.func28 rfl (fun xs r h=>by obtain ⟨_,_,_,rfl,_⟩:=h; show 1 ≤ 21; decide) 21 rfl ?_;rintro xs r w0 G0 ⟨⟨n1A,n1C,n1D,n1B⟩,y0,h,rfl,rfl⟩ _;rw [zCW] at h;refine zAa ?_;refine zAb [] [] rfl ?_;show Tri ..;refine zAa ?_;refine zAb [] [] rfl ?_;show Tri ..;refine zAa ?_;refine zAa ?_;refine zAb [] [] rfl ?_;show Tri ..;obtain ⟨out4,hl,h⟩:=zAc h;refine zAr ⟨ofL [(3,.s (.int .i64 out4))],fun _=>none,0⟩ ?_ (fun σ' hle=>?_)
 ·refine zAl (zAI (X:=Nat × Int × Int) (fun y=>match y with | (k,out2,i3)=>⟨ofL [(1,.s (.pt [.int .i64 n1A,.str n1C,.int .i64 n1D,.sl 4 (Nd.encs n1B)])),(3,.s (.int .i64 out2)),(4,.s (.int .i64 i3))],fun _=>none,0⟩) (fun y=>zCx (zCW n) n1B y.1 y.2.1 y.2.2 = some out4) (fun y=>y.1) (n,1,0) hl ?_ ?_)
  ·exact (Le.forget _ ⟨rfl,rfl,rfl,trivial⟩)
  ·rintro ⟨k,out2,i3⟩ h;cases k with
   | zero=>cases h
   | succ k =>
    replace h : zCx (zCW n) n1B (k+1) out2 i3 = some out4:=h;rw [zCx] at h;refine zAa ?_;refine zAa ?_;refine zAb [] [8] rfl ?_;intro n5 hn5;obtain rfl : (n1B.length : Int) = n5:=(hn5.trans (congrArg (fun m : Nat=>(m : Int)) (rlen Nd.encs_eq n1B))).symm;show Tri ..;refine zAd rfl (fun hb=>?_) (fun hb=>?_)
    ·replace h:=zAn hb h;refine zAg ?_;show Tri ..;refine zAa ?_;refine zAl ?_;refine zAb [] [16] rfl ?_;obtain ⟨⟨e6A,e6C,e6D,e6B⟩,he6,h⟩:=zAc h;refine And.intro (zAC Nd.encs_eq he6).1 ?_;intro r7 hr7;obtain rfl : [.int .i64 e6A,.str e6C,.int .i64 e6D,.sl 4 (Nd.encs e6B)] = r7:=(hr7.trans (zAC Nd.encs_eq he6).2.1).symm;obtain ⟨y8,hy8,h⟩:=zAc h;refine ⟨_,⟨_,_,hy8,rfl,rfl⟩,?_⟩
     show Tri ..;refine zAb [] [] rfl ?_;refine ⟨(k,IntKind.i64.wrap (out2 + y8),IntKind.i64.wrap (i3 + 1)),h,(Le.forget _ ⟨rfl,rfl,rfl,trivial⟩),Nat.lt_succ_self k⟩
    ·replace h:=zAm hb h;refine zAM ?_;cases h;exact (Le.forget _ ⟨rfl,trivial⟩)
 ·show Tri ..;refine zAj hle ?_;refine zAa ?_;refine zAb [] [] rfl ?_;show Tri ..;refine zAh ?_;have hy:=Option.some.inj h;subst hy;unfold zAA;exact ⟨_,Le.refl _ _,rfl,rfl⟩
theorem zOd : ∀ n,PSound Tryz.prog 28 (zAG (zFt n)):=by
 intro n
 induction n with
 | zero=>exact zCz Tryz.call28 (fun xs r h=>by obtain ⟨_,_,h,_⟩:=h; cases h)
 | succ n ih=>exact zM6 n ih
def zLz : zAt:=zAG fun xs r=>∃ n,zFt n xs r
theorem zQs : PSound Tryz.prog 28 zLz:=zEd zOd
def zPn (xs : List AV) (r : Ret) : Prop:=∃ (a0 : Int) (y0 : Bool),zEb a0 = some y0 ∧ xs = [.s (.int .u8 a0)] ∧ r = .val (.s (.bool y0))
def zHu : zAt:=zAG fun xs r=>zPn xs r
theorem zJJ : PSound Tryz.prog 101 zHu:=by
 have gok : ∀ (f : Nat) (s : zAt),(fun _=>none : Nat → Option zAt) f = some s → PSound Tryz.prog f s:=fun _ _ h=>by cases h
 refine zAK tokW Tryz.call101 Tryz.func101 rfl (fun xs r h=>by obtain ⟨_,_,_,rfl,_⟩:=h; show 1 ≤ 17; decide) 17 rfl ?_;rintro xs r w0 G0 ⟨c1,y0,h,rfl,rfl⟩ _;rw [zEb] at h;refine zAa ?_;refine zAb [] [] rfl ?_;show Tri ..;refine zAa ?_;obtain ⟨x2,hj,h⟩:=zAc h;refine zAr ⟨ofL [(2,.s (.bool x2))],fun _=>none,0⟩ ?_ (fun σ' hle=>?_)
 ·replace h:=hj;refine zAb [] [5,9,12] rfl ?_;intro b hb;cases b with
  | true =>
   replace h:=zAn hb.symm h;intro b hb;cases b with
   | true =>
    replace h:=zAn hb.symm h;cases h;exact (Le.forget _ ⟨rfl,trivial⟩)
   | false =>
    replace h:=zAm hb.symm h;intro b hb;cases b with
    | true =>
     replace h:=zAn hb.symm h;cases h;exact (Le.forget _ ⟨rfl,trivial⟩)
    | false =>
     replace h:=zAm hb.symm h;cases h;exact (Le.forget _ ⟨rfl,trivial⟩)
  | false =>
   replace h:=zAm hb.symm h;intro b hb;subst hb;intro b hb;cases b with
   | true =>
    replace h:=zAn hb.symm h;cases h;exact (Le.forget _ ⟨rfl,trivial⟩)
   | false =>
    replace h:=zAm hb.symm h;cases h;exact (Le.forget _ ⟨rfl,trivial⟩)
 ·show Tri ..;refine zAj hle ?_;refine zAh ?_;have hy:=Option.some.inj h;subst hy;unfold zAA;exact ⟨_,Le.refl _ _,rfl,rfl⟩
def zTh (n : Nat) (xs : List AV) (r : Ret) : Prop:=∃ (a0 : List UInt8) (a1 : Int) (y0 : Bool),zDs n a0 a1 = some y0 ∧ xs = [.s (.str a0),.s (.int .u8 a1)] ∧ r = .val (.s (.bool y0))
def zLE : zAt:=zAG fun xs r=>∃ n,zTh n xs r
theorem zND : PSound Tryz.prog 75 zLE:=by
 have gok : ∀ (f : Nat) (s : zAt),(fun _=>none : Nat → Option zAt) f = some s → PSound Tryz.prog f s:=fun _ _ h=>by cases h
 refine zAK tokW Tryz.call75 Tryz.func75 rfl (fun xs r h=>by obtain ⟨n,_,_,_,_,rfl,_⟩:=h; show 2 ≤ 17; decide) 17 rfl ?_;rintro xs r w0 G0 ⟨n,s1,c2,y0,h,rfl,rfl⟩ _;rw [zDs] at h;refine zAa ?_;refine zAb [] [] rfl ?_;show Tri ..;refine zAa ?_;refine zAa ?_;refine zAb [] [] rfl ?_;show Tri ..;obtain ⟨fl,hl,ho1⟩:=zAc h;refine zEs (fl:=fl) (fun z=>match z with | _=>⟨ofL [],fun _=>none,0⟩) ?_ (fun z σ' hz hle=>?_)
 ·refine zAl (zAI (X:=Nat × Int) (fun y=>match y with | (k,i3)=>⟨ofL [(0,.s (.str s1)),(1,.s (.int .u8 c2)),(5,.s (.int .i64 i3))],fun _=>none,0⟩) (fun y=>zCP s1 c2 y.1 y.2 = some fl) (fun y=>y.1) (n,0) hl ?_ ?_)
  ·exact (Le.forget _ ⟨rfl,rfl,rfl,trivial⟩)
  ·rintro ⟨k,i3⟩ h;cases k with
   | zero=>cases h
   | succ k =>
    replace h : zCP s1 c2 (k+1) i3 = some fl:=h;rw [zCP] at h;refine zAa ?_;refine zAa ?_;refine zAb [] [] rfl ?_;show Tri ..;refine zAd rfl (fun hb=>?_) (fun hb=>?_)
    ·replace h:=zAn hb h;refine zAg ?_;show Tri ..;refine zAa ?_;refine zAl ?_;refine zAa ?_;refine zAb [] [14] rfl ?_;obtain ⟨c4,hc4,h⟩:=zAc h;refine And.intro (zBh hc4).1 ?_;intro v5 hv5;obtain rfl : (c4.toNat : Int) = v5:=(hv5.trans (zBh hc4).2).symm;show Tri ..;refine zAd rfl (fun hb=>?_) (fun hb=>?_)
     ·replace h:=zAn hb h;refine zAa ?_;refine zAb [] [] rfl ?_;show Tri ..;refine zAh ?_;cases h;replace h : some _ = some _:=ho1;have hy:=Option.some.inj h;subst hy;unfold zAA;exact ⟨_,Le.refl _ _,rfl,rfl⟩
     ·replace h:=zAm hb h;refine zAg ?_;show Tri ..;refine zAb [] [] rfl ?_;refine ⟨(k,IntKind.i64.wrap (i3 + 1)),h,(Le.forget _ ⟨rfl,rfl,rfl,trivial⟩),Nat.lt_succ_self k⟩
    ·replace h:=zAm hb h;refine zAM ?_;cases h;exact ⟨_,rfl,(Le.forget _ trivial)⟩
 ·subst hz;obtain _:=z;replace h:=ho1;show Tri ..;refine zAj hle ?_;refine zAa ?_;refine zAb [] [] rfl ?_;show Tri ..;refine zAh ?_;have hy:=Option.some.inj h;subst hy;unfold zAA;exact ⟨_,Le.refl _ _,rfl,rfl⟩
def zLr (n : Nat) (xs : List AV) (r : Ret) : Prop:=∃ (a0 : Int) (y0 : Bool),zEn n a0 = some y0 ∧ xs = [.s (.int .u8 a0)] ∧ r = .val (.s (.bool y0))
def zHt : zAt:=zAG fun xs r=>∃ n,zLr n xs r
theorem zK0 : PSound Tryz.prog 100 zHt:=by
 have gok : ∀ f s,look? f [(101,zHu),(75,zLE)] = some s → PSound Tryz.prog f s:=zAu (by
  simp only [List.forall_mem_cons]
  exact ⟨zJJ,zND,by simp⟩)
 refine zAK tokW Tryz.call100 Tryz.func100 rfl (fun xs r h=>by obtain ⟨n,_,_,_,rfl,_⟩:=h; show 1 ≤ 9; decide) 9 rfl ?_;rintro xs r w0 G0 ⟨n,c1,y0,h,rfl,rfl⟩ _;rw [zEn] at h;refine zAa ?_;refine zAb [] [] rfl ?_;show Tri ..;refine zAa ?_;obtain ⟨x2,hj,h⟩:=zAc h;refine zAr ⟨ofL [(2,.s (.bool x2))],fun _=>none,0⟩ ?_ (fun σ' hle=>?_)
 ·replace h:=hj;refine zAb [] [5] rfl ?_;obtain ⟨y3,hy3,h⟩:=zAc h;refine ⟨_,⟨_,_,hy3,rfl,rfl⟩,?_⟩
  intro b hb;cases b with
  | true =>
   replace h:=zAn hb.symm h;cases h;exact (Le.forget _ ⟨rfl,trivial⟩)
  | false =>
   replace h:=zAm hb.symm h;obtain ⟨y4,hy4,h⟩:=zAc h;refine ⟨_,⟨_,_,_,_,hy4,rfl,rfl⟩,?_⟩
   cases h;exact (Le.forget _ ⟨rfl,trivial⟩)
 ·show Tri ..;refine zAj hle ?_;refine zAh ?_;have hy:=Option.some.inj h;subst hy;unfold zAA;exact ⟨_,Le.refl _ _,rfl,rfl⟩
def zAN (p : List UInt8) : List S:=[.str p]
def zMG (xs : List AV) (r : Ret) : Prop:=∃ (y0 : List (List UInt8)),zEP = some y0 ∧ xs = [] ∧ r = .val (.s (.sl 1 ((List.map zAN) y0)))
def zIs : zAt:=zAG fun xs r=>zMG xs r
theorem zMa : PSound Tryz.prog 102 zIs:=by
 have gok : ∀ (f : Nat) (s : zAt),(fun _=>none : Nat → Option zAt) f = some s → PSound Tryz.prog f s:=fun _ _ h=>by cases h
 refine zAK tokW Tryz.call102 Tryz.func102 rfl (fun xs r h=>by obtain ⟨_,_,rfl,_⟩:=h; show 0 ≤ 2; decide) 2 rfl ?_;rintro xs r w0 G0 ⟨y0,h,rfl,rfl⟩ _;rw [zEP] at h;refine zAa ?_;refine zAb [] [] rfl ?_;show Tri ..;refine zAa ?_;refine zAb [] [1] rfl ?_;intro r1 hr1
 obtain rfl : (List.map zAN) [[102,114,97,99],[114,111,111,116],[109,97,116,114,105,120],[102,101,110,99,101]] = r1:=(hr1.trans (by simp [List.map_append,List.map_take,List.map_drop,irow,brow,zAQ,List.map_cons,List.map_nil,zAJ,Nd.encs_eq,Nd.enc,zAq,zAo,zAp,zAv,zAw,zAs,zAy,zAi,zAN])).symm;show Tri ..;refine zAh ?_;have hy:=Option.some.inj h;subst hy;unfold zAA;exact ⟨_,Le.refl _ _,rfl,rfl⟩
def zUN (n : Nat) (xs : List AV) (r : Ret) : Prop:=∃ (a0 : List (List UInt8)) (a1 : List UInt8) (y0 : Bool),zEO n a0 a1 = some y0 ∧ xs = [.s (.sl 1 ((List.map zAN) a0)),.s (.str a1)] ∧ r = .val (.s (.bool y0))
def zOa : zAt:=zAG fun xs r=>∃ n,zUN n xs r
theorem zQw : PSound Tryz.prog 73 zOa:=by
 have gok : ∀ (f : Nat) (s : zAt),(fun _=>none : Nat → Option zAt) f = some s → PSound Tryz.prog f s:=fun _ _ h=>by cases h
 refine zAK tokW Tryz.call73 Tryz.func73 rfl (fun xs r h=>by obtain ⟨n,_,_,_,_,rfl,_⟩:=h; show 2 ≤ 18; decide) 18 rfl ?_;rintro xs r w0 G0 ⟨n,l1,s2,y0,h,rfl,rfl⟩ _;rw [zEO] at h;refine zAa ?_;refine zAb [] [] rfl ?_;show Tri ..;refine zAa ?_;refine zAa ?_;refine zAb [] [] rfl ?_;show Tri ..;obtain ⟨fl,hl,ho1⟩:=zAc h;refine zEs (fl:=fl) (fun z=>match z with | _=>⟨ofL [],fun _=>none,0⟩) ?_ (fun z σ' hz hle=>?_)
 ·refine zAl (zAI (X:=Nat × Int) (fun y=>match y with | (k,i3)=>⟨ofL [(0,.s (.sl 1 ((List.map zAN) l1))),(1,.s (.str s2)),(5,.s (.int .i64 i3))],fun _=>none,0⟩) (fun y=>zDq l1 s2 y.1 y.2 = some fl) (fun y=>y.1) (n,0) hl ?_ ?_)
  ·exact (Le.forget _ ⟨rfl,rfl,rfl,trivial⟩)
  ·rintro ⟨k,i3⟩ h;cases k with
   | zero=>cases h
   | succ k =>
    replace h : zDq l1 s2 (k+1) i3 = some fl:=h;rw [zDq] at h;refine zAa ?_;refine zAa ?_;refine zAb [] [8] rfl ?_;intro n4 hn4;obtain rfl : (l1.length : Int) = n4:=(hn4.trans (congrArg (fun m : Nat=>(m : Int)) (rlen (fun _=>rfl) l1))).symm;show Tri ..;refine zAd rfl (fun hb=>?_) (fun hb=>?_)
    ·replace h:=zAn hb h;refine zAg ?_;show Tri ..;refine zAa ?_;refine zAl ?_;refine zAa ?_;refine zAb [] [14] rfl ?_;obtain ⟨e5,he5,h⟩:=zAc h;refine And.intro (zAC (fun _=>rfl) he5).1 ?_;intro r6 hr6;obtain rfl : [.str e5] = r6:=(hr6.trans (zAC (fun _=>rfl) he5).2.1).symm;show Tri ..;refine zAd rfl (fun hb=>?_) (fun hb=>?_)
     ·replace h:=zAn hb h;refine zAa ?_;refine zAb [] [] rfl ?_;show Tri ..;refine zAh ?_;cases h;replace h : some _ = some _:=ho1;have hy:=Option.some.inj h;subst hy;unfold zAA;exact ⟨_,Le.refl _ _,rfl,rfl⟩
     ·replace h:=zAm hb h;refine zAg ?_;show Tri ..;refine zAb [] [] rfl ?_;refine ⟨(k,IntKind.i64.wrap (i3 + 1)),h,(Le.forget _ ⟨rfl,rfl,rfl,trivial⟩),Nat.lt_succ_self k⟩
    ·replace h:=zAm hb h;refine zAM ?_;cases h;exact ⟨_,rfl,(Le.forget _ trivial)⟩
 ·subst hz;obtain _:=z;replace h:=ho1;show Tri ..;refine zAj hle ?_;refine zAa ?_;refine zAb [] [] rfl ?_;show Tri ..;refine zAh ?_;have hy:=Option.some.inj h;subst hy;unfold zAA;exact ⟨_,Le.refl _ _,rfl,rfl⟩
def zN8 (xs : List AV) (r : Ret) : Prop:=∃ (y0 : List (List UInt8)),zDC = some y0 ∧ xs = [] ∧ r = .val (.s (.sl 1 ((List.map zAN) y0)))
def zGP : zAt:=zAG fun xs r=>zN8 xs r
theorem zIz : PSound Tryz.prog 74 zGP:=by
 have gok : ∀ (f : Nat) (s : zAt),(fun _=>none : Nat → Option zAt) f = some s → PSound Tryz.prog f s:=fun _ _ h=>by cases h
 refine zAK tokW Tryz.call74 Tryz.func74 rfl (fun xs r h=>by obtain ⟨_,_,rfl,_⟩:=h; show 0 ≤ 2; decide) 2 rfl ?_;rintro xs r w0 G0 ⟨y0,h,rfl,rfl⟩ _;rw [zDC] at h;refine zAa ?_;refine zAb [] [] rfl ?_;show Tri ..;refine zAa ?_;refine zAb [] [1] rfl ?_;intro r1 hr1
 obtain rfl : (List.map zAN) [[104,97,116],[98,97,114],[118,101,99],[100,111,116],[116,105,108,100,101],[99,104,101,99,107]] = r1:=(hr1.trans (by simp [List.map_append,List.map_take,List.map_drop,irow,brow,zAQ,List.map_cons,List.map_nil,zAJ,Nd.encs_eq,Nd.enc,zAq,zAo,zAp,zAv,zAw,zAs,zAy,zAi,zAN])).symm;show Tri ..;refine zAh ?_;have hy:=Option.some.inj h;subst hy;unfold zAA;exact ⟨_,Le.refl _ _,rfl,rfl⟩
end Go.Proofs.YtjdhkpdjecegnaaGreatDoor
