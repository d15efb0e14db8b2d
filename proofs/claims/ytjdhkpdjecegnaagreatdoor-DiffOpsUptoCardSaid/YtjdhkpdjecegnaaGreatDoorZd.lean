/-
  Joined out of: DzVA, DzVB.
-/
import Derived.Test.YtjdhkpdjecegnaaGreatDoorZc
set_option linter.unusedVariables false
set_option linter.unusedSimpArgs false
set_option maxHeartbeats 2000000
set_option maxRecDepth 100000
namespace Go.Proofs.YtjdhkpdjecegnaaGreatDoor
open Go.Abs
def zNK (xs : List AV) (r : Ret) : Prop:=∃ (a0 : List UInt8) (y0 : Bool),zBR a0 = some y0 ∧ xs = [.s (.str a0)] ∧ r = .val (.s (.bool y0))
def zI2 : zAx:=zAG fun xs r => zNK xs r
theorem zM4 : PSound Tryz.prog 80 zI2:=by
 have gok : ∀ (f : Nat) (s : zAx),(fun _ => none : Nat → Option zAx) f = some s → PSound Tryz.prog f s:=fun _ _ h => by cases h
 refine zAS tokW Tryz.call80 Tryz.func80 rfl (fun xs r h => by obtain ⟨_,_,_,rfl,_⟩:=h; show 1 ≤ 5; decide) 5 rfl ?_;rintro xs r w0 G0 ⟨s1,y0,h,rfl,rfl⟩ _;rw [zBR] at h;refine zAa ?_;refine zAb [] [] rfl ?_;show Tri _ _ _ _;refine zAa ?_;refine zAb [] [] rfl ?_;show Tri _ _ _ _;refine zAv ?_;have hy:=Option.some.inj h;subst hy;unfold zAO;exact ⟨_,Le.refl _ _,rfl,rfl⟩
def zK7 (n : Nat) (xs : List AV) (r : Ret) : Prop:=∃ (a0 : List UInt8) (y0 : Bool),zCJ n a0 = some y0 ∧ xs = [.s (.str a0)] ∧ r = .val (.s (.bool y0))
def zG8 : zAx:=zAG fun xs r => ∃ n,zK7 n xs r
theorem zKB : PSound Tryz.prog 106 zG8:=by
 have gok : ∀ (f : Nat) (s : zAx),(fun _ => none : Nat → Option zAx) f = some s → PSound Tryz.prog f s:=fun _ _ h => by cases h
 refine zAS tokW Tryz.call106 Tryz.func106 rfl (fun xs r h => by obtain ⟨n,_,_,_,rfl,_⟩:=h; show 1 ≤ 21; decide) 21 rfl ?_;rintro xs r w0 G0 ⟨n,s1,y0,h,rfl,rfl⟩ _;rw [zCJ] at h;refine zAa ?_;refine zAb [] [] rfl ?_;show Tri _ _ _ _;refine zAa ?_;refine zAa ?_;refine zAb [] [] rfl ?_;show Tri _ _ _ _;obtain ⟨fl,hl,ho1⟩:=zAc h;refine zDP (fl:=fl) (fun z => match z with | _ => ⟨ofL [],fun _ => none,0⟩) ?_ (fun z σ' hz hle => ?_)
 ·refine zAk (zAA (X:=Nat × Int) (fun y => match y with | (k,i2) => ⟨ofL [(0,.s (.str s1)),(3,.s (.int .i64 i2))],fun _ => none,0⟩) (fun y => zBo s1 y.1 y.2 = some fl) (fun y => y.1) (n,0) hl ?_ ?_)
  ·exact (Le.forget _ ⟨rfl,rfl,trivial⟩)
  ·rintro ⟨k,i2⟩ h;cases k with
   | zero => cases h
   | succ k =>
    replace h : zBo s1 (k+1) i2 = some fl:=h;rw [zBo] at h;refine zAa ?_;refine zAa ?_;refine zAb [] [] rfl ?_;show Tri _ _ _ _;refine zAe rfl (fun hb => ?_) (fun hb => ?_)
    ·replace h:=zAr hb h;refine zAj ?_;show Tri _ _ _ _;refine zAa ?_;refine zAk ?_;refine zAa ?_;refine zAb [] [13] rfl ?_;obtain ⟨c3,hc3,h⟩:=zAc h;refine And.intro (zA4 hc3).1 ?_;intro v4 hv4;obtain rfl : (c3.toNat : Int) = v4:=(hv4.trans (zA4 hc3).2).symm;show Tri _ _ _ _;refine zAa ?_;obtain ⟨x5,hj,h⟩:=zAc h;refine zAp ⟨ofL [(0,.s (.str s1)),(3,.s (.int .i64 i2)),(20,.s (.bool x5))],fun _ => none,0⟩ ?_ (fun σ' hle => ?_)
     ·replace h:=hj;refine zAb [] [17] rfl ?_;intro b hb;cases b with
      | true =>
       replace h:=zAr hb.symm h;cases h;exact (Le.forget _ ⟨rfl,rfl,rfl,trivial⟩)
      | false =>
       replace h:=zAq hb.symm h;cases h;exact (Le.forget _ ⟨rfl,rfl,rfl,trivial⟩)
     ·show Tri _ _ _ _;refine zAm hle ?_;refine zAe rfl (fun hb => ?_) (fun hb => ?_)
      ·replace h:=zAr hb h;refine zAa ?_;refine zAb [] [] rfl ?_;show Tri _ _ _ _;refine zAv ?_;cases h;replace h : some _ = some _:=ho1;have hy:=Option.some.inj h;subst hy;unfold zAO;exact ⟨_,Le.refl _ _,rfl,rfl⟩
      ·replace h:=zAq hb h;refine zAj ?_;show Tri _ _ _ _;refine zAb [] [] rfl ?_;refine ⟨(k,IntKind.i64.wrap (i2 + 1)),h,(Le.forget _ ⟨rfl,rfl,trivial⟩),Nat.lt_succ_self k⟩
    ·replace h:=zAq hb h;refine zAC ?_;cases h;exact ⟨_,rfl,(Le.forget _ trivial)⟩
 ·subst hz;obtain _:=z;replace h:=ho1;show Tri _ _ _ _;refine zAm hle ?_;refine zAa ?_;refine zAb [] [] rfl ?_;show Tri _ _ _ _;refine zAv ?_;have hy:=Option.some.inj h;subst hy;unfold zAO;exact ⟨_,Le.refl _ _,rfl,rfl⟩
def zK6 (xs : List AV) (r : Ret) : Prop:=∃ (a0 : List UInt8) (y0 : Bool),zDi a0 = some y0 ∧ xs = [.s (.str a0)] ∧ r = .val (.s (.bool y0))
def zG7 : zAx:=zAG fun xs r => zK6 xs r
theorem zKA : PSound Tryz.prog 108 zG7:=by
 have gok : ∀ (f : Nat) (s : zAx),(fun _ => none : Nat → Option zAx) f = some s → PSound Tryz.prog f s:=fun _ _ h => by cases h
 refine zAS tokW Tryz.call108 Tryz.func108 rfl (fun xs r h => by obtain ⟨_,_,_,rfl,_⟩:=h; show 1 ≤ 9; decide) 9 rfl ?_;rintro xs r w0 G0 ⟨s1,y0,h,rfl,rfl⟩ _;rw [zDi] at h;refine zAa ?_;refine zAb [] [] rfl ?_;show Tri _ _ _ _;refine zAa ?_;refine zAa ?_;refine zAb [] [] rfl ?_;show Tri _ _ _ _;obtain ⟨fl,hj,ho1⟩:=zAc h;refine zDP (fl:=fl) (fun z => match z with | _ => ⟨ofL [],fun _ => none,0⟩) ?_ (fun z σ' hz hle => ?_)
 ·replace h:=hj;refine zAk ?_;refine zAa ?_;refine zAa ?_;refine zAb [] [] rfl ?_;show Tri _ _ _ _;obtain ⟨x2,hj,h⟩:=zAc h;refine zAp ⟨ofL [(4,.s (.bool x2))],fun _ => none,0⟩ ?_ (fun σ' hle => ?_)
  ·replace h:=hj;refine zAe rfl (fun hb => ?_) (fun hb => ?_)
   ·replace h:=zAr hb h;refine zAj ?_;cases h;exact (Le.forget _ ⟨rfl,trivial⟩)
   ·replace h:=zAq hb h;refine zAa ?_;refine zAb [] [] rfl ?_;show Tri _ _ _ _;refine zAe rfl (fun hb => ?_) (fun hb => ?_)
    ·replace h:=zAr hb h;refine zAj ?_;cases h;exact (Le.forget _ ⟨rfl,trivial⟩)
    ·replace h:=zAq hb h;refine zAa ?_;refine zAb [] [] rfl ?_;show Tri _ _ _ _;refine zAe rfl (fun hb => ?_) (fun hb => ?_)
     ·replace h:=zAr hb h;refine zAj ?_;cases h;exact (Le.forget _ ⟨rfl,trivial⟩)
     ·replace h:=zAq hb h;refine zAb [] [] rfl ?_;cases h;exact (Le.forget _ ⟨rfl,trivial⟩)
  ·show Tri _ _ _ _;refine zAm hle ?_;refine zAe rfl (fun hb => ?_) (fun hb => ?_)
   ·replace h:=zAr hb h;refine zAa ?_;refine zAb [] [] rfl ?_;show Tri _ _ _ _;refine zAv ?_;cases h;replace h : some _ = some _:=ho1;have hy:=Option.some.inj h;subst hy;unfold zAO;exact ⟨_,Le.refl _ _,rfl,rfl⟩
   ·replace h:=zAq hb h;refine zAj ?_;cases h;exact ⟨_,rfl,(Le.forget _ trivial)⟩
 ·subst hz;obtain _:=z;replace h:=ho1;show Tri _ _ _ _;refine zAm hle ?_;refine zAa ?_;refine zAb [] [] rfl ?_;show Tri _ _ _ _;refine zAv ?_;have hy:=Option.some.inj h;subst hy;unfold zAO;exact ⟨_,Le.refl _ _,rfl,rfl⟩
def zMr (xs : List AV) (r : Ret) : Prop:=∃ (a0 : List UInt8) (y0 : Bool),zC5 a0 = some y0 ∧ xs = [.s (.str a0)] ∧ r = .val (.s (.bool y0))
def zFN : zAx:=zAG fun xs r => zMr xs r
theorem zHd : PSound Tryz.prog 84 zFN:=by
 have gok : ∀ (f : Nat) (s : zAx),(fun _ => none : Nat → Option zAx) f = some s → PSound Tryz.prog f s:=fun _ _ h => by cases h
 refine zAS tokW Tryz.call84 Tryz.func84 rfl (fun xs r h => by obtain ⟨_,_,_,rfl,_⟩:=h; show 1 ≤ 11; decide) 11 rfl ?_;rintro xs r w0 G0 ⟨s1,y0,h,rfl,rfl⟩ _;rw [zC5] at h;refine zAa ?_;refine zAb [] [] rfl ?_;show Tri _ _ _ _;refine zAa ?_;refine zAa ?_;refine zAb [] [] rfl ?_;show Tri _ _ _ _;obtain ⟨fl,hj,ho1⟩:=zAc h;refine zDP (fl:=fl) (fun z => match z with | _ => ⟨ofL [],fun _ => none,0⟩) ?_ (fun z σ' hz hle => ?_)
 ·replace h:=hj;refine zAk ?_;refine zAa ?_;refine zAa ?_;refine zAb [] [] rfl ?_;show Tri _ _ _ _;obtain ⟨x2,hj,h⟩:=zAc h;refine zAp ⟨ofL [(4,.s (.bool x2))],fun _ => none,0⟩ ?_ (fun σ' hle => ?_)
  ·replace h:=hj;refine zAe rfl (fun hb => ?_) (fun hb => ?_)
   ·replace h:=zAr hb h;refine zAj ?_;cases h;exact (Le.forget _ ⟨rfl,trivial⟩)
   ·replace h:=zAq hb h;refine zAa ?_;refine zAb [] [] rfl ?_;show Tri _ _ _ _;refine zAe rfl (fun hb => ?_) (fun hb => ?_)
    ·replace h:=zAr hb h;refine zAj ?_;cases h;exact (Le.forget _ ⟨rfl,trivial⟩)
    ·replace h:=zAq hb h;refine zAa ?_;refine zAb [] [] rfl ?_;show Tri _ _ _ _;refine zAe rfl (fun hb => ?_) (fun hb => ?_)
     ·replace h:=zAr hb h;refine zAj ?_;cases h;exact (Le.forget _ ⟨rfl,trivial⟩)
     ·replace h:=zAq hb h;refine zAa ?_;refine zAb [] [] rfl ?_;show Tri _ _ _ _;refine zAe rfl (fun hb => ?_) (fun hb => ?_)
      ·replace h:=zAr hb h;refine zAj ?_;cases h;exact (Le.forget _ ⟨rfl,trivial⟩)
      ·replace h:=zAq hb h;refine zAa ?_;refine zAb [] [] rfl ?_;show Tri _ _ _ _;refine zAe rfl (fun hb => ?_) (fun hb => ?_)
       ·replace h:=zAr hb h;refine zAj ?_;cases h;exact (Le.forget _ ⟨rfl,trivial⟩)
       ·replace h:=zAq hb h;refine zAb [] [] rfl ?_;cases h;exact (Le.forget _ ⟨rfl,trivial⟩)
  ·show Tri _ _ _ _;refine zAm hle ?_;refine zAe rfl (fun hb => ?_) (fun hb => ?_)
   ·replace h:=zAr hb h;refine zAa ?_;refine zAb [] [] rfl ?_;show Tri _ _ _ _;refine zAv ?_;cases h;replace h : some _ = some _:=ho1;have hy:=Option.some.inj h;subst hy;unfold zAO;exact ⟨_,Le.refl _ _,rfl,rfl⟩
   ·replace h:=zAq hb h;refine zAj ?_;cases h;exact ⟨_,rfl,(Le.forget _ trivial)⟩
 ·subst hz;obtain _:=z;replace h:=ho1;show Tri _ _ _ _;refine zAm hle ?_;refine zAa ?_;refine zAb [] [] rfl ?_;show Tri _ _ _ _;refine zAv ?_;have hy:=Option.some.inj h;subst hy;unfold zAO;exact ⟨_,Le.refl _ _,rfl,rfl⟩
def zMq (n : Nat) (xs : List AV) (r : Ret) : Prop:=∃ (a0 : List UInt8) (y0 : Bool),zDI n a0 = some y0 ∧ xs = [.s (.str a0)] ∧ r = .val (.s (.bool y0))
def zHR : zAx:=zAG fun xs r => ∃ n,zMq n xs r
theorem zLl : PSound Tryz.prog 81 zHR:=by
 have gok : ∀ f s,look? f [(106,zG8),(107,zE8),(108,zG7),(84,zFN)] = some s → PSound Tryz.prog f s:=zAB (by
  simp only [List.forall_mem_cons]
  exact ⟨zKB,zHB,zKA,zHd,by simp⟩)
 refine zAS tokW Tryz.call81 Tryz.func81 rfl (fun xs r h => by obtain ⟨n,_,_,_,rfl,_⟩:=h; show 1 ≤ 34; decide) 34 rfl ?_;rintro xs r w0 G0 ⟨n,s1,y0,h,rfl,rfl⟩ _;rw [zDI] at h;refine zAa ?_;refine zAb [] [] rfl ?_;show Tri _ _ _ _;refine zAa ?_;refine zAa ?_;refine zAb [] [] rfl ?_;show Tri _ _ _ _;refine zAe rfl (fun hb => ?_) (fun hb => ?_)
 ·replace h:=zAr hb h;refine zAa ?_;obtain ⟨x2,hj,h⟩:=zAc h;refine zAp ⟨ofL [(2,.s (.bool x2))],fun _ => none,0⟩ ?_ (fun σ' hle => ?_)
  ·replace h:=hj;refine zAb [] [8] rfl ?_;obtain ⟨y3,hy3,h⟩:=zAc h;refine ⟨_,⟨_,_,_,hy3,rfl,rfl⟩,?_⟩
   intro b hb;cases b with
   | true =>
    replace h:=zAr hb.symm h;cases h;exact (Le.forget _ ⟨rfl,trivial⟩)
   | false =>
    replace h:=zAq hb.symm h;obtain ⟨y4,hy4,h⟩:=zAc h;refine ⟨_,⟨_,_,_,hy4,rfl,rfl⟩,?_⟩
    cases h;exact (Le.forget _ ⟨rfl,trivial⟩)
  ·show Tri _ _ _ _;refine zAm hle ?_;refine zAv ?_;have hy:=Option.some.inj h;subst hy;unfold zAO;exact ⟨_,Le.refl _ _,rfl,rfl⟩
 ·replace h:=zAq hb h;refine zAj ?_;show Tri _ _ _ _;refine zAa ?_;obtain ⟨x5,hj,h⟩:=zAc h;refine zAp ⟨ofL [(2,.s (.bool x5))],fun _ => none,0⟩ ?_ (fun σ' hle => ?_)
  ·replace h:=hj;refine zAb [] [15,20,24,29] rfl ?_;intro b hb;cases b with
   | true =>
    replace h:=zAr hb.symm h;intro b hb;cases b with
    | true =>
     replace h:=zAr hb.symm h;obtain ⟨y6,hy6,h⟩:=zAc h;refine ⟨_,⟨_,_,_,hy6,rfl,rfl⟩,?_⟩
     intro b hb;cases b with
     | true =>
      replace h:=zAr hb.symm h;obtain ⟨y7,hy7,h⟩:=zAc h;refine ⟨_,⟨_,_,hy7,rfl,rfl⟩,?_⟩
      intro b hb;cases b with
      | true =>
       replace h:=zAr hb.symm h;obtain ⟨y8,hy8,h⟩:=zAc h;refine ⟨_,⟨_,_,hy8,rfl,rfl⟩,?_⟩
       cases h;exact (Le.forget _ ⟨rfl,trivial⟩)
      | false =>
       replace h:=zAq hb.symm h;cases h;exact (Le.forget _ ⟨rfl,trivial⟩)
     | false =>
      replace h:=zAq hb.symm h;intro b hb;subst hb;cases h;exact (Le.forget _ ⟨rfl,trivial⟩)
    | false =>
     replace h:=zAq hb.symm h;intro b hb;subst hb;intro b hb;subst hb;cases h;exact (Le.forget _ ⟨rfl,trivial⟩)
   | false =>
    replace h:=zAq hb.symm h;intro b hb;subst hb;intro b hb;subst hb;intro b hb;subst hb;cases h;exact (Le.forget _ ⟨rfl,trivial⟩)
  ·show Tri _ _ _ _;refine zAm hle ?_;refine zAv ?_;have hy:=Option.some.inj h;subst hy;unfold zAO;exact ⟨_,Le.refl _ _,rfl,rfl⟩
def zIv (xs : List AV) (r : Ret) : Prop:=∃ (a0 : List UInt8) (a1 : List UInt8) (y0 : List UInt8) (y1 : List UInt8) (y2 : Bool),zCk a0 a1 = some (y0,y1,y2) ∧ xs = [.s (.str a0),.s (.str a1)] ∧ r = .val (.tup [.s (.str y0),.s (.str y1),.s (.bool y2)])
def zFt : zAx:=zAG fun xs r => zIv xs r
theorem zIj : PSound Tryz.prog 121 zFt:=by
 have gok : ∀ f s,look? f [(126,zES)] = some s → PSound Tryz.prog f s:=zAB (by
  simp only [List.forall_mem_cons]
  exact ⟨zG3,by simp⟩)
 refine zAS tokW Tryz.call121 Tryz.func121 rfl (fun xs r h => by obtain ⟨_,_,_,_,_,_,rfl,_⟩:=h; show 2 ≤ 23; decide) 23 rfl ?_;rintro xs r w0 G0 ⟨s1,sep2,y0,y1,y2,h,rfl,rfl⟩ _;rw [zCk] at h;refine zAa ?_;refine zAb [] [] rfl ?_;show Tri _ _ _ _;refine zAa ?_;refine zAa ?_;refine zAb [] [] rfl ?_;obtain ⟨y3,hy3,h⟩:=zAc h;refine ⟨_,⟨_,_,_,hy3,rfl,rfl⟩,?_⟩
 show Tri _ _ _ _;refine zAa ?_;refine zAb [] [] rfl ?_;show Tri _ _ _ _;refine zAe rfl (fun hb => ?_) (fun hb => ?_)
 ·replace h:=zAr hb h;refine zAa ?_;refine zAz (by exact tokW) (by exact gok) (by exact mixed) [] [] [] rfl (by decide +kernel) ?_;obtain ⟨hq,h⟩:=zAJ h;refine And.intro hq ?_;obtain ⟨hq,h⟩:=zAJ h;refine And.intro hq ?_;show Tri _ _ _ _;refine zAv ?_;obtain ⟨hj1,hk1⟩:=Prod.mk.inj (Option.some.inj h)
  subst hj1;obtain ⟨hj2,hk2⟩:=Prod.mk.inj hk1;subst hj2;subst hk2;unfold zAO;exact ⟨_,Le.refl _ _,rfl,rfl⟩
 ·replace h:=zAq hb h;refine zAj ?_;show Tri _ _ _ _;refine zAa ?_;refine zAb [] [] rfl ?_;show Tri _ _ _ _;refine zAv ?_;obtain ⟨hj1,hk1⟩:=Prod.mk.inj (Option.some.inj h)
  subst hj1;obtain ⟨hj2,hk2⟩:=Prod.mk.inj hk1;subst hj2;subst hk2;unfold zAO;exact ⟨_,Le.refl _ _,rfl,rfl⟩
def zMv (xs : List AV) (r : Ret) : Prop:=∃ (a0 : List UInt8) (a1 : List UInt8) (y0 : List UInt8) (y1 : List UInt8) (y2 : Bool),zDN a0 a1 = some (y0,y1,y2) ∧ xs = [.s (.str a0),.s (.str a1)] ∧ r = .val (.tup [.s (.str y0),.s (.str y1),.s (.bool y2)])
def zHV : zAx:=zAG fun xs r => zMv xs r
theorem zLp : PSound Tryz.prog 109 zHV:=by
 have gok : ∀ f s,look? f [(121,zFt)] = some s → PSound Tryz.prog f s:=zAB (by
  simp only [List.forall_mem_cons]
  exact ⟨zIj,by simp⟩)
 refine zAS tokW Tryz.call109 Tryz.func109 rfl (fun xs r h => by obtain ⟨_,_,_,_,_,_,rfl,_⟩:=h; show 2 ≤ 13; decide) 13 rfl ?_;rintro xs r w0 G0 ⟨s1,sep2,y0,y1,y2,h,rfl,rfl⟩ _;rw [zDN] at h;refine zAa ?_;refine zAb [] [] rfl ?_;show Tri _ _ _ _;refine zAa ?_;refine zAb [] [] rfl ?_;obtain ⟨⟨y3,y4,y5⟩,hy3,h⟩:=zAc h;refine ⟨_,⟨_,_,_,_,_,hy3,rfl,rfl⟩,?_⟩
 show Tri _ _ _ _;refine zAv ?_;obtain ⟨hj1,hk1⟩:=Prod.mk.inj (Option.some.inj h)
 subst hj1;obtain ⟨hj2,hk2⟩:=Prod.mk.inj hk1;subst hj2;subst hk2;unfold zAO;exact ⟨_,Le.refl _ _,rfl,rfl⟩
def zMs (n : Nat) (xs : List AV) (r : Ret) : Prop:=∃ (a0 : List UInt8) (y0 : Bool),zC6 n a0 = some y0 ∧ xs = [.s (.str a0)] ∧ r = .val (.s (.bool y0))
def zHS : zAx:=zAG fun xs r => ∃ n,zMs n xs r
theorem zLm : PSound Tryz.prog 110 zHS:=by
 have gok : ∀ (f : Nat) (s : zAx),(fun _ => none : Nat → Option zAx) f = some s → PSound Tryz.prog f s:=fun _ _ h => by cases h
 refine zAS tokW Tryz.call110 Tryz.func110 rfl (fun xs r h => by obtain ⟨n,_,_,_,rfl,_⟩:=h; show 1 ≤ 22; decide) 22 rfl ?_;rintro xs r w0 G0 ⟨n,s1,y0,h,rfl,rfl⟩ _;rw [zC6] at h;refine zAa ?_;refine zAb [] [] rfl ?_;show Tri _ _ _ _;refine zAa ?_;refine zAa ?_;refine zAb [] [] rfl ?_;show Tri _ _ _ _;obtain ⟨fl,hl,ho1⟩:=zAc h;refine zDP (fl:=fl) (fun z => match z with | _ => ⟨ofL [(0,.s (.str s1))],fun _ => none,0⟩) ?_ (fun z σ' hz hle => ?_)
 ·refine zAk (zAA (X:=Nat × Int) (fun y => match y with | (k,i2) => ⟨ofL [(0,.s (.str s1)),(3,.s (.int .i64 i2))],fun _ => none,0⟩) (fun y => zBy s1 y.1 y.2 = some fl) (fun y => y.1) (n,0) hl ?_ ?_)
  ·exact (Le.forget _ ⟨rfl,rfl,trivial⟩)
  ·rintro ⟨k,i2⟩ h;cases k with
   | zero => cases h
   | succ k =>
    replace h : zBy s1 (k+1) i2 = some fl:=h;rw [zBy] at h;refine zAa ?_;refine zAa ?_;refine zAb [] [] rfl ?_;show Tri _ _ _ _;refine zAe rfl (fun hb => ?_) (fun hb => ?_)
    ·replace h:=zAr hb h;refine zAj ?_;show Tri _ _ _ _;refine zAa ?_;refine zAk ?_;refine zAa ?_;obtain ⟨x3,hj,h⟩:=zAc h;refine zAp ⟨ofL [(0,.s (.str s1)),(3,.s (.int .i64 i2)),(19,.s (.bool x3))],fun _ => none,0⟩ ?_ (fun σ' hle => ?_)
     ·replace h:=hj;refine zAb [] [12,14,17] rfl ?_;obtain ⟨c4,hc4,h⟩:=zAc h;refine And.intro (zA4 hc4).1 ?_;intro v5 hv5;obtain rfl : (c4.toNat : Int) = v5:=(hv5.trans (zA4 hc4).2).symm;intro b hb;cases b with
      | true =>
       replace h:=zAr hb.symm h;cases h;exact (Le.forget _ ⟨rfl,rfl,rfl,trivial⟩)
      | false =>
       replace h:=zAq hb.symm h;obtain ⟨c6,hc6,h⟩:=zAc h;refine And.intro (zA4 hc6).1 ?_;intro v7 hv7;obtain rfl : (c6.toNat : Int) = v7:=(hv7.trans (zA4 hc6).2).symm;cases h;exact (Le.forget _ ⟨rfl,rfl,rfl,trivial⟩)
     ·show Tri _ _ _ _;refine zAm hle ?_;refine zAe rfl (fun hb => ?_) (fun hb => ?_)
      ·replace h:=zAr hb h;refine zAa ?_;refine zAb [] [] rfl ?_;show Tri _ _ _ _;refine zAv ?_;cases h;replace h : some _ = some _:=ho1;have hy:=Option.some.inj h;subst hy;unfold zAO;exact ⟨_,Le.refl _ _,rfl,rfl⟩
      ·replace h:=zAq hb h;refine zAj ?_;show Tri _ _ _ _;refine zAb [] [] rfl ?_;refine ⟨(k,IntKind.i64.wrap (i2 + 1)),h,(Le.forget _ ⟨rfl,rfl,trivial⟩),Nat.lt_succ_self k⟩
    ·replace h:=zAq hb h;refine zAC ?_;cases h;exact ⟨_,rfl,(Le.forget _ ⟨rfl,trivial⟩)⟩
 ·subst hz;obtain _:=z;replace h:=ho1;show Tri _ _ _ _;refine zAm hle ?_;refine zAa ?_;refine zAb [] [] rfl ?_;show Tri _ _ _ _;refine zAv ?_;have hy:=Option.some.inj h;subst hy;unfold zAO;exact ⟨_,Le.refl _ _,rfl,rfl⟩
def zMp (n : Nat) (xs : List AV) (r : Ret) : Prop:=∃ (a0 : List UInt8) (y0 : Bool),zC4 n a0 = some y0 ∧ xs = [.s (.str a0)] ∧ r = .val (.s (.bool y0))
def zHQ : zAx:=zAG fun xs r => ∃ n,zMp n xs r
theorem zLk : PSound Tryz.prog 82 zHQ:=by
 have gok : ∀ f s,look? f [(109,zHV),(110,zHS)] = some s → PSound Tryz.prog f s:=zAB (by
  simp only [List.forall_mem_cons]
  exact ⟨zLp,zLm,by simp⟩)
 refine zAS tokW Tryz.call82 Tryz.func82 rfl (fun xs r h => by obtain ⟨n,_,_,_,rfl,_⟩:=h; show 1 ≤ 27; decide) 27 rfl ?_;rintro xs r w0 G0 ⟨n,s1,y0,h,rfl,rfl⟩ _;rw [zC4] at h;refine zAa ?_;refine zAb [] [] rfl ?_;show Tri _ _ _ _;refine zAa ?_;refine zAb [] [] rfl ?_;obtain ⟨⟨y2,y3,y4⟩,hy2,h⟩:=zAc h;refine ⟨_,⟨_,_,_,_,_,hy2,rfl,rfl⟩,?_⟩
 show Tri _ _ _ _;refine zAa ?_;obtain ⟨x5,hj,h⟩:=zAc h;refine zAp ⟨ofL [(2,.s (.bool x5))],fun _ => none,0⟩ ?_ (fun σ' hle => ?_)
 ·replace h:=hj;refine zAb [] [15,19,22] rfl ?_;intro b hb;cases b with
  | true =>
   replace h:=zAr hb.symm h;obtain ⟨y6,hy6,h⟩:=zAc h;refine ⟨_,⟨_,_,_,hy6,rfl,rfl⟩,?_⟩
   intro b hb;cases b with
   | true =>
    replace h:=zAr hb.symm h;intro b hb;cases b with
    | true =>
     replace h:=zAr hb.symm h;cases h;exact (Le.forget _ ⟨rfl,trivial⟩)
    | false =>
     replace h:=zAq hb.symm h;obtain ⟨y7,hy7,h⟩:=zAc h;refine ⟨_,⟨_,_,_,hy7,rfl,rfl⟩,?_⟩
     cases h;exact (Le.forget _ ⟨rfl,trivial⟩)
   | false =>
    replace h:=zAq hb.symm h;cases h;exact (Le.forget _ ⟨rfl,trivial⟩)
  | false =>
   replace h:=zAq hb.symm h;intro b hb;subst hb;cases h;exact (Le.forget _ ⟨rfl,trivial⟩)
 ·show Tri _ _ _ _;refine zAm hle ?_;refine zAv ?_;have hy:=Option.some.inj h;subst hy;unfold zAO;exact ⟨_,Le.refl _ _,rfl,rfl⟩
def zNN (n : Nat) (xs : List AV) (r : Ret) : Prop:=∃ (a0 : List UInt8) (y0 : Bool),zEh n a0 = some y0 ∧ xs = [.s (.str a0)] ∧ r = .val (.s (.bool y0))
def zI4 : zAx:=zAG fun xs r => ∃ n,zNN n xs r
theorem zM6 : PSound Tryz.prog 83 zI4:=by
 have gok : ∀ (f : Nat) (s : zAx),(fun _ => none : Nat → Option zAx) f = some s → PSound Tryz.prog f s:=fun _ _ h => by cases h
 refine zAS tokW Tryz.call83 Tryz.func83 rfl (fun xs r h => by obtain ⟨n,_,_,_,rfl,_⟩:=h; show 1 ≤ 23; decide) 23 rfl ?_;rintro xs r w0 G0 ⟨n,s1,y0,h,rfl,rfl⟩ _;rw [zEh] at h;refine zAa ?_;refine zAb [] [] rfl ?_;show Tri _ _ _ _;refine zAa ?_;refine zAa ?_;refine zAb [] [] rfl ?_;show Tri _ _ _ _;obtain ⟨fl,hl,ho1⟩:=zAc h;refine zDP (fl:=fl) (fun z => match z with | _ => ⟨ofL [(0,.s (.str s1))],fun _ => none,0⟩) ?_ (fun z σ' hz hle => ?_)
 ·refine zAk (zAA (X:=Nat × Int) (fun y => match y with | (k,i2) => ⟨ofL [(0,.s (.str s1)),(3,.s (.int .i64 i2))],fun _ => none,0⟩) (fun y => zBF s1 y.1 y.2 = some fl) (fun y => y.1) (n,0) hl ?_ ?_)
  ·exact (Le.forget _ ⟨rfl,rfl,trivial⟩)
  ·rintro ⟨k,i2⟩ h;cases k with
   | zero => cases h
   | succ k =>
    replace h : zBF s1 (k+1) i2 = some fl:=h;rw [zBF] at h;refine zAa ?_;refine zAa ?_;refine zAb [] [] rfl ?_;show Tri _ _ _ _;refine zAe rfl (fun hb => ?_) (fun hb => ?_)
    ·replace h:=zAr hb h;refine zAj ?_;show Tri _ _ _ _;refine zAa ?_;refine zAk ?_;refine zAa ?_;obtain ⟨x3,hj,h⟩:=zAc h;refine zAp ⟨ofL [(0,.s (.str s1)),(3,.s (.int .i64 i2)),(19,.s (.bool x3))],fun _ => none,0⟩ ?_ (fun σ' hle => ?_)
     ·replace h:=hj;refine zAb [] [12,14,17] rfl ?_;obtain ⟨c4,hc4,h⟩:=zAc h;refine And.intro (zA4 hc4).1 ?_;intro v5 hv5;obtain rfl : (c4.toNat : Int) = v5:=(hv5.trans (zA4 hc4).2).symm;intro b hb;cases b with
      | true =>
       replace h:=zAr hb.symm h;cases h;exact (Le.forget _ ⟨rfl,rfl,rfl,trivial⟩)
      | false =>
       replace h:=zAq hb.symm h;obtain ⟨c6,hc6,h⟩:=zAc h;refine And.intro (zA4 hc6).1 ?_;intro v7 hv7;obtain rfl : (c6.toNat : Int) = v7:=(hv7.trans (zA4 hc6).2).symm;cases h;exact (Le.forget _ ⟨rfl,rfl,rfl,trivial⟩)
     ·show Tri _ _ _ _;refine zAm hle ?_;refine zAe rfl (fun hb => ?_) (fun hb => ?_)
      ·replace h:=zAr hb h;refine zAa ?_;refine zAb [] [] rfl ?_;show Tri _ _ _ _;refine zAv ?_;cases h;replace h : some _ = some _:=ho1;have hy:=Option.some.inj h;subst hy;unfold zAO;exact ⟨_,Le.refl _ _,rfl,rfl⟩
      ·replace h:=zAq hb h;refine zAj ?_;show Tri _ _ _ _;refine zAb [] [] rfl ?_;refine ⟨(k,IntKind.i64.wrap (i2 + 1)),h,(Le.forget _ ⟨rfl,rfl,trivial⟩),Nat.lt_succ_self k⟩
    ·replace h:=zAq hb h;refine zAC ?_;cases h;exact ⟨_,rfl,(Le.forget _ ⟨rfl,trivial⟩)⟩
 ·subst hz;obtain _:=z;replace h:=ho1;show Tri _ _ _ _;refine zAm hle ?_;refine zAa ?_;refine zAb [] [] rfl ?_;show Tri _ _ _ _;refine zAv ?_;have hy:=Option.some.inj h;subst hy;unfold zAO;exact ⟨_,Le.refl _ _,rfl,rfl⟩
def zNL (xs : List AV) (r : Ret) : Prop:=∃ (a0 : List UInt8) (y0 : Bool),zEg a0 = some y0 ∧ xs = [.s (.str a0)] ∧ r = .val (.s (.bool y0))
def zI3 : zAx:=zAG fun xs r => zNL xs r
theorem zM5 : PSound Tryz.prog 85 zI3:=by
 have gok : ∀ f s,look? f [(111,zER)] = some s → PSound Tryz.prog f s:=zAB (by
  simp only [List.forall_mem_cons]
  exact ⟨zG2,by simp⟩)
 refine zAS tokW Tryz.call85 Tryz.func85 rfl (fun xs r h => by obtain ⟨_,_,_,rfl,_⟩:=h; show 1 ≤ 18; decide) 18 rfl ?_;rintro xs r w0 G0 ⟨s1,y0,h,rfl,rfl⟩ _;rw [zEg] at h;refine zAa ?_;refine zAb [] [] rfl ?_;show Tri _ _ _ _;refine zAa ?_;obtain ⟨x2,hj,h⟩:=zAc h;refine zAp ⟨ofL [(2,.s (.bool x2))],fun _ => none,0⟩ ?_ (fun σ' hle => ?_)
 ·replace h:=hj;refine zAb [] [6,8,12,14] rfl ?_;intro b hb;cases b with
  | true =>
   replace h:=zAr hb.symm h;obtain ⟨c3,hc3,h⟩:=zAc h;refine And.intro (zA4 hc3).1 ?_;intro v4 hv4;obtain rfl : (c3.toNat : Int) = v4:=(hv4.trans (zA4 hc3).2).symm;obtain ⟨y5,hy5,h⟩:=zAc h;refine ⟨_,⟨_,_,_,hy5,rfl,rfl⟩,?_⟩
   intro b hb;cases b with
   | true =>
    replace h:=zAr hb.symm h;obtain ⟨c6,hc6,h⟩:=zAc h;refine And.intro (zA4 hc6).1 ?_;intro v7 hv7;obtain rfl : (c6.toNat : Int) = v7:=(hv7.trans (zA4 hc6).2).symm;obtain ⟨y8,hy8,h⟩:=zAc h;refine ⟨_,⟨_,_,_,hy8,rfl,rfl⟩,?_⟩
    cases h;exact (Le.forget _ ⟨rfl,trivial⟩)
   | false =>
    replace h:=zAq hb.symm h;cases h;exact (Le.forget _ ⟨rfl,trivial⟩)
  | false =>
   replace h:=zAq hb.symm h;intro b hb;subst hb;cases h;exact (Le.forget _ ⟨rfl,trivial⟩)
 ·show Tri _ _ _ _;refine zAm hle ?_;refine zAv ?_;have hy:=Option.some.inj h;subst hy;unfold zAO;exact ⟨_,Le.refl _ _,rfl,rfl⟩
def zAh (p : Unit) : List S:=[.str [],.int .i64 0,.nf,.str [114,111,119],.int .i64 0,.fn 80,.str [115,121,109],.int .i64 0,.fn 81,.str [110,117,109],.int .i64 0,.fn 82,.str [116,101,120,116],.int .i64 0,.fn 83,.str [102,114,97,99],.int .i64 2,.fn 80,.str [114,111,111,116],.int .i64 2,.fn 80,.str [115,117,98],.int .i64 2,.fn 80,.str [115,117,112],.int .i64 2,.fn 80,.str [98,111,116,104],.int .i64 3,.fn 80,.str [97,99,99,101,110,116],.int .i64 1,.fn 84,.str [102,101,110,99,101],.int .i64 1,.fn 85,.str [109,97,116,114,105,120],.int .i64 0,.fn 80]
def zNM (xs : List AV) (r : Ret) : Prop:=∃ (y0 : Unit),zDx = some y0 ∧ xs = [] ∧ r = .val (.agg ((zAh y0).map .s))
def zGf : zAx:=zAG fun xs r => zNM xs r
theorem zIh : PSound Tryz.prog 53 zGf:=by
 have gok : ∀ (f : Nat) (s : zAx),(fun _ => none : Nat → Option zAx) f = some s → PSound Tryz.prog f s:=fun _ _ h => by cases h
 refine zAS tokW Tryz.call53 Tryz.func53 rfl (fun xs r h => by obtain ⟨_,_,rfl,_⟩:=h; show 0 ≤ 14; decide) 14 rfl ?_;rintro xs r w0 G0 ⟨y0,h,rfl,rfl⟩ _;rw [zDx] at h;refine zAa ?_;refine zAb [0] [] rfl ?_;show Tri _ _ _ _;refine zAa ?_;refine zAb [] [] rfl ?_;show Tri _ _ _ _;refine zAv ?_;have hy:=Option.some.inj h;subst hy;unfold zAO;exact ⟨_,Le.refl _ _,rfl,rfl⟩
def zAg (p : (Unit × Int)) : List S:=[.str [],.int .i64 0,.nf,.str [114,111,119],.int .i64 0,.fn 80,.str [115,121,109],.int .i64 0,.fn 81,.str [110,117,109],.int .i64 0,.fn 82,.str [116,101,120,116],.int .i64 0,.fn 83,.str [102,114,97,99],.int .i64 2,.fn 80,.str [114,111,111,116],.int .i64 2,.fn 80,.str [115,117,98],.int .i64 2,.fn 80,.str [115,117,112],.int .i64 2,.fn 80,.str [98,111,116,104],.int .i64 3,.fn 80,.str [97,99,99,101,110,116],.int .i64 1,.fn 84,.str [102,101,110,99,101],.int .i64 1,.fn 85,.str [109,97,116,114,105,120],.int .i64 0,.fn 80,.int .i64 p.2]
def zHK (n : Nat) (xs : List AV) (os : List Ob) (x : AV) (os' : List (Option Ob)) : Prop:=∃ (a0 : (Unit × Int)) (a1 : Nd) (y0 : Bool) (z0 : (Unit × Int)),zB5 n a0 a1 = some (y0,z0) ∧ xs = [.op 0 0,.s (.pt (Nd.enc a1))] ∧ os = [.box 94 ((zAg a0).map .s)] ∧ x = .s (.bool y0) ∧ os' = [some (.box 94 ((zAg z0).map .s))]
def zE4 : zAx:=zCl (fun xs os x os' => ∃ n,zHK n xs os x os')
theorem zHx : PSound Tryz.prog 86 zE4:=by
 have gok : ∀ f s,look? f [(80,zI2),(81,zHR),(82,zHQ),(83,zI4),(84,zFN),(85,zI3)] = some s → PSound Tryz.prog f s:=zAB (by
  simp only [List.forall_mem_cons]
  exact ⟨zM4,zLl,zLk,zM6,zHd,zM5,by simp⟩)
 refine PSound.withNil (zGB tokW Tryz.call86 Tryz.func86 rfl (fun xs os x os' h => by obtain ⟨n,_,_,_,_,_,rfl,rfl,_,rfl⟩:=h; exact ⟨by show 2 ≤ 120; decide,by show 1 ≤ 1; decide⟩) 120 rfl ?_) _;rintro xs os x os' w0 G0 B0 ⟨n,⟨_,o1_nodes⟩,⟨a2_kind,a2_text,a2_cols,a2_kids⟩,y0,z0,h,rfl,rfl,rfl,rfl⟩ _;rw [zB5] at h;refine zAa ?_;refine zAb [] [] rfl ?_;show Tri _ _ _ _;refine zAa ?_;refine zAa ?_;obtain ⟨x3,hj,h⟩:=zAc h
 refine zAp ⟨ofL [(0,.op 0 0),(1,.s (.pt [.int .i64 a2_kind,.str a2_text,.int .i64 a2_cols,.sl 4 (Nd.encs a2_kids)])),(34,.s (.bool x3))],ofH [(0,.box 94 [.s (.str []),.s (.int .i64 0),.s (.nf),.s (.str [114,111,119]),.s (.int .i64 0),.s (.fn 80),.s (.str [115,121,109]),.s (.int .i64 0),.s (.fn 81),.s (.str [110,117,109]),.s (.int .i64 0),.s (.fn 82),.s (.str [116,101,120,116]),.s (.int .i64 0),.s (.fn 83),.s (.str [102,114,97,99]),.s (.int .i64 2),.s (.fn 80),.s (.str [114,111,111,116]),.s (.int .i64 2),.s (.fn 80),.s (.str [115,117,98]),.s (.int .i64 2),.s (.fn 80),.s (.str [115,117,112]),.s (.int .i64 2),.s (.fn 80),.s (.str [98,111,116,104]),.s (.int .i64 3),.s (.fn 80),.s (.str [97,99,99,101,110,116]),.s (.int .i64 1),.s (.fn 84),.s (.str [102,101,110,99,101]),.s (.int .i64 1),.s (.fn 85),.s (.str [109,97,116,114,105,120]),.s (.int .i64 0),.s (.fn 80),.s (.int .i64 o1_nodes)])],1⟩ ?_ (fun σ' hle => ?_)
 ·replace h:=hj;refine zAz (by exact tokW) (by exact gok) (by exact mixed) [] [10,17,22] [22] rfl (by decide +kernel) ?_;intro b hb;cases b with
  | true =>
   replace h:=zAr hb.symm h;intro b hb;subst hb;cases h;exact (Le.rename [(0,0)] _ _ _ ⟨rfl,rfl,rfl,trivial⟩ ⟨rfl,⟨_,rfl,rfl⟩,trivial⟩ rfl rfl rfl rfl rfl)
  | false =>
   replace h:=zAq hb.symm h;intro b hb;cases b with
   | true =>
    replace h:=zAr hb.symm h;cases h;exact (Le.rename [(0,0)] _ _ _ ⟨rfl,rfl,rfl,trivial⟩ ⟨rfl,⟨_,rfl,rfl⟩,trivial⟩ rfl rfl rfl rfl rfl)
   | false =>
    replace h:=zAq hb.symm h;intro vsp hvsp;cases hc : (a2_kind == 1) with
    | true =>
     replace h:=zAr hc h;obtain rfl : (1 : Int) = vsp:=(hvsp.trans (eq_of_beq hc)).symm;refine And.intro (by decide) ?_;obtain ⟨y4,hy4,h⟩:=zAc h;refine ⟨_,⟨_,_,hy4,rfl,rfl⟩,?_⟩
     cases h;exact (Le.rename [(0,0)] _ _ _ ⟨rfl,rfl,rfl,trivial⟩ ⟨rfl,⟨_,rfl,rfl⟩,trivial⟩ rfl rfl rfl rfl rfl)
    | false =>
     replace h:=zAq hc h;cases hc : (a2_kind == 2) with
     | true =>
      replace h:=zAr hc h;obtain rfl : (2 : Int) = vsp:=(hvsp.trans (eq_of_beq hc)).symm;refine And.intro (by decide) ?_;obtain ⟨y5,hy5,h⟩:=zAc h;refine ⟨_,⟨_,_,_,hy5,rfl,rfl⟩,?_⟩
      cases h;exact (Le.rename [(0,0)] _ _ _ ⟨rfl,rfl,rfl,trivial⟩ ⟨rfl,⟨_,rfl,rfl⟩,trivial⟩ rfl rfl rfl rfl rfl)
     | false =>
      replace h:=zAq hc h;cases hc : (a2_kind == 3) with
      | true =>
       replace h:=zAr hc h;obtain rfl : (3 : Int) = vsp:=(hvsp.trans (eq_of_beq hc)).symm;refine And.intro (by decide) ?_;obtain ⟨y6,hy6,h⟩:=zAc h;refine ⟨_,⟨_,_,_,hy6,rfl,rfl⟩,?_⟩
       cases h;exact (Le.rename [(0,0)] _ _ _ ⟨rfl,rfl,rfl,trivial⟩ ⟨rfl,⟨_,rfl,rfl⟩,trivial⟩ rfl rfl rfl rfl rfl)
      | false =>
       replace h:=zAq hc h;cases hc : (a2_kind == 4) with
       | true =>
        replace h:=zAr hc h;obtain rfl : (4 : Int) = vsp:=(hvsp.trans (eq_of_beq hc)).symm;refine And.intro (by decide) ?_;obtain ⟨y7,hy7,h⟩:=zAc h;refine ⟨_,⟨_,_,_,hy7,rfl,rfl⟩,?_⟩
        cases h;exact (Le.rename [(0,0)] _ _ _ ⟨rfl,rfl,rfl,trivial⟩ ⟨rfl,⟨_,rfl,rfl⟩,trivial⟩ rfl rfl rfl rfl rfl)
       | false =>
        replace h:=zAq hc h;cases hc : (a2_kind == 5) with
        | true =>
         replace h:=zAr hc h;obtain rfl : (5 : Int) = vsp:=(hvsp.trans (eq_of_beq hc)).symm;refine And.intro (by decide) ?_;obtain ⟨y8,hy8,h⟩:=zAc h;refine ⟨_,⟨_,_,hy8,rfl,rfl⟩,?_⟩
         cases h;exact (Le.rename [(0,0)] _ _ _ ⟨rfl,rfl,rfl,trivial⟩ ⟨rfl,⟨_,rfl,rfl⟩,trivial⟩ rfl rfl rfl rfl rfl)
        | false =>
         replace h:=zAq hc h;cases hc : (a2_kind == 6) with
         | true =>
          replace h:=zAr hc h;obtain rfl : (6 : Int) = vsp:=(hvsp.trans (eq_of_beq hc)).symm;refine And.intro (by decide) ?_;obtain ⟨y9,hy9,h⟩:=zAc h;refine ⟨_,⟨_,_,hy9,rfl,rfl⟩,?_⟩
          cases h;exact (Le.rename [(0,0)] _ _ _ ⟨rfl,rfl,rfl,trivial⟩ ⟨rfl,⟨_,rfl,rfl⟩,trivial⟩ rfl rfl rfl rfl rfl)
         | false =>
          replace h:=zAq hc h;cases hc : (a2_kind == 7) with
          | true =>
           replace h:=zAr hc h;obtain rfl : (7 : Int) = vsp:=(hvsp.trans (eq_of_beq hc)).symm;refine And.intro (by decide) ?_;obtain ⟨y10,hy10,h⟩:=zAc h;refine ⟨_,⟨_,_,hy10,rfl,rfl⟩,?_⟩
           cases h;exact (Le.rename [(0,0)] _ _ _ ⟨rfl,rfl,rfl,trivial⟩ ⟨rfl,⟨_,rfl,rfl⟩,trivial⟩ rfl rfl rfl rfl rfl)
          | false =>
           replace h:=zAq hc h;cases hc : (a2_kind == 8) with
           | true =>
            replace h:=zAr hc h;obtain rfl : (8 : Int) = vsp:=(hvsp.trans (eq_of_beq hc)).symm;refine And.intro (by decide) ?_;obtain ⟨y11,hy11,h⟩:=zAc h;refine ⟨_,⟨_,_,hy11,rfl,rfl⟩,?_⟩
            cases h;exact (Le.rename [(0,0)] _ _ _ ⟨rfl,rfl,rfl,trivial⟩ ⟨rfl,⟨_,rfl,rfl⟩,trivial⟩ rfl rfl rfl rfl rfl)
           | false =>
            replace h:=zAq hc h;cases hc : (a2_kind == 9) with
            | true =>
             replace h:=zAr hc h;obtain rfl : (9 : Int) = vsp:=(hvsp.trans (eq_of_beq hc)).symm;refine And.intro (by decide) ?_;obtain ⟨y12,hy12,h⟩:=zAc h;refine ⟨_,⟨_,_,hy12,rfl,rfl⟩,?_⟩
             cases h;exact (Le.rename [(0,0)] _ _ _ ⟨rfl,rfl,rfl,trivial⟩ ⟨rfl,⟨_,rfl,rfl⟩,trivial⟩ rfl rfl rfl rfl rfl)
            | false =>
             replace h:=zAq hc h;cases hc : (a2_kind == 10) with
             | true =>
              replace h:=zAr hc h;obtain rfl : (10 : Int) = vsp:=(hvsp.trans (eq_of_beq hc)).symm;refine And.intro (by decide) ?_;obtain ⟨y13,hy13,h⟩:=zAc h;refine ⟨_,⟨_,_,hy13,rfl,rfl⟩,?_⟩
              cases h;exact (Le.rename [(0,0)] _ _ _ ⟨rfl,rfl,rfl,trivial⟩ ⟨rfl,⟨_,rfl,rfl⟩,trivial⟩ rfl rfl rfl rfl rfl)
             | false =>
              replace h:=zAq hc h;cases hc : (a2_kind == 11) with
              | true =>
               replace h:=zAr hc h;obtain rfl : (11 : Int) = vsp:=(hvsp.trans (eq_of_beq hc)).symm;refine And.intro (by decide) ?_;obtain ⟨y14,hy14,h⟩:=zAc h;refine ⟨_,⟨_,_,hy14,rfl,rfl⟩,?_⟩
               cases h;exact (Le.rename [(0,0)] _ _ _ ⟨rfl,rfl,rfl,trivial⟩ ⟨rfl,⟨_,rfl,rfl⟩,trivial⟩ rfl rfl rfl rfl rfl)
              | false =>
               replace h:=zAq hc h;cases hc : (a2_kind == 12) with
               | true =>
                replace h:=zAr hc h;obtain rfl : (12 : Int) = vsp:=(hvsp.trans (eq_of_beq hc)).symm;refine And.intro (by decide) ?_;obtain ⟨y15,hy15,h⟩:=zAc h;refine ⟨_,⟨_,_,hy15,rfl,rfl⟩,?_⟩
                cases h;exact (Le.rename [(0,0)] _ _ _ ⟨rfl,rfl,rfl,trivial⟩ ⟨rfl,⟨_,rfl,rfl⟩,trivial⟩ rfl rfl rfl rfl rfl)
               | false =>
                replace h:=zAq hc h;cases h
 ·show Tri _ _ _ _;refine zAm hle ?_;refine zAe rfl (fun hb => ?_) (fun hb => ?_)
  ·replace h:=zAr hb h;refine zAa ?_;refine zAb [] [] rfl ?_;show Tri _ _ _ _;refine zAv ?_;obtain ⟨hj1,hk1⟩:=Prod.mk.inj (Option.some.inj h)
   subst hj1;subst hk1;unfold zCM
   exact ⟨_,(Le.rename [(0,0)] [(4,.s (.bool false))] [(0,.box 94 [.s (.str []),.s (.int .i64 0),.s (.nf),.s (.str [114,111,119]),.s (.int .i64 0),.s (.fn 80),.s (.str [115,121,109]),.s (.int .i64 0),.s (.fn 81),.s (.str [110,117,109]),.s (.int .i64 0),.s (.fn 82),.s (.str [116,101,120,116]),.s (.int .i64 0),.s (.fn 83),.s (.str [102,114,97,99]),.s (.int .i64 2),.s (.fn 80),.s (.str [114,111,111,116]),.s (.int .i64 2),.s (.fn 80),.s (.str [115,117,98]),.s (.int .i64 2),.s (.fn 80),.s (.str [115,117,112]),.s (.int .i64 2),.s (.fn 80),.s (.str [98,111,116,104]),.s (.int .i64 3),.s (.fn 80),.s (.str [97,99,99,101,110,116]),.s (.int .i64 1),.s (.fn 84),.s (.str [102,101,110,99,101]),.s (.int .i64 1),.s (.fn 85),.s (.str [109,97,116,114,105,120]),.s (.int .i64 0),.s (.fn 80),.s (.int .i64 o1_nodes)])] 1 ⟨rfl,trivial⟩ ⟨rfl,⟨_,rfl,rfl⟩,trivial⟩ rfl rfl rfl rfl rfl),rfl,rfl,rfl,rfl,trivial⟩
  ·replace h:=zAq hb h;refine zAj ?_;show Tri _ _ _ _;refine zAa ?_;refine zAa ?_;refine zAb [] [] rfl ?_;show Tri _ _ _ _;refine zAk ?_;refine zAa ?_;refine zAb [] [] rfl ?_;show Tri _ _ _ _;refine zAe rfl (fun hb => ?_) (fun hb => ?_)
   ·replace h:=zAr hb h;refine zAa ?_;obtain ⟨x16,hj,h⟩:=zAc h
    refine zAp ⟨ofL [(4,.s (.bool x16))],ofH [(0,.box 94 [.s (.str []),.s (.int .i64 0),.s (.nf),.s (.str [114,111,119]),.s (.int .i64 0),.s (.fn 80),.s (.str [115,121,109]),.s (.int .i64 0),.s (.fn 81),.s (.str [110,117,109]),.s (.int .i64 0),.s (.fn 82),.s (.str [116,101,120,116]),.s (.int .i64 0),.s (.fn 83),.s (.str [102,114,97,99]),.s (.int .i64 2),.s (.fn 80),.s (.str [114,111,111,116]),.s (.int .i64 2),.s (.fn 80),.s (.str [115,117,98]),.s (.int .i64 2),.s (.fn 80),.s (.str [115,117,112]),.s (.int .i64 2),.s (.fn 80),.s (.str [98,111,116,104]),.s (.int .i64 3),.s (.fn 80),.s (.str [97,99,99,101,110,116]),.s (.int .i64 1),.s (.fn 84),.s (.str [102,101,110,99,101]),.s (.int .i64 1),.s (.fn 85),.s (.str [109,97,116,114,105,120]),.s (.int .i64 0),.s (.fn 80),.s (.int .i64 o1_nodes)])],1⟩ ?_ (fun σ' hle => ?_)
    ·replace h:=hj;refine zAb [] [46,51] rfl ?_;intro b hb;cases b with
     | true =>
      replace h:=zAr hb.symm h;intro n17 hn17;obtain rfl : (a2_kids.length : Int) = n17:=(hn17.trans (congrArg (fun m : Nat => (m : Int)) (rlen Nd.encs_eq a2_kids))).symm;cases h;exact (Le.rename [(0,0)] _ _ _ ⟨rfl,trivial⟩ ⟨rfl,⟨_,rfl,rfl⟩,trivial⟩ rfl rfl rfl rfl rfl)
     | false =>
      replace h:=zAq hb.symm h;cases h;exact (Le.rename [(0,0)] _ _ _ ⟨rfl,trivial⟩ ⟨rfl,⟨_,rfl,rfl⟩,trivial⟩ rfl rfl rfl rfl rfl)
    ·show Tri _ _ _ _;refine zAm hle ?_;refine zAv ?_;obtain ⟨hj1,hk1⟩:=Prod.mk.inj (Option.some.inj h)
     subst hj1;subst hk1;unfold zCM
     exact ⟨_,(Le.rename [(0,0)] [(4,.s (.bool x16))] [(0,.box 94 [.s (.str []),.s (.int .i64 0),.s (.nf),.s (.str [114,111,119]),.s (.int .i64 0),.s (.fn 80),.s (.str [115,121,109]),.s (.int .i64 0),.s (.fn 81),.s (.str [110,117,109]),.s (.int .i64 0),.s (.fn 82),.s (.str [116,101,120,116]),.s (.int .i64 0),.s (.fn 83),.s (.str [102,114,97,99]),.s (.int .i64 2),.s (.fn 80),.s (.str [114,111,111,116]),.s (.int .i64 2),.s (.fn 80),.s (.str [115,117,98]),.s (.int .i64 2),.s (.fn 80),.s (.str [115,117,112]),.s (.int .i64 2),.s (.fn 80),.s (.str [98,111,116,104]),.s (.int .i64 3),.s (.fn 80),.s (.str [97,99,99,101,110,116]),.s (.int .i64 1),.s (.fn 84),.s (.str [102,101,110,99,101]),.s (.int .i64 1),.s (.fn 85),.s (.str [109,97,116,114,105,120]),.s (.int .i64 0),.s (.fn 80),.s (.int .i64 o1_nodes)])] 1 ⟨rfl,trivial⟩ ⟨rfl,⟨_,rfl,rfl⟩,trivial⟩ rfl rfl rfl rfl rfl),rfl,rfl,rfl,rfl,trivial⟩
   ·replace h:=zAq hb h;refine zAa ?_;refine zAb [] [] rfl ?_;show Tri _ _ _ _;refine zAe rfl (fun hb => ?_) (fun hb => ?_)
    ·replace h:=zAr hb h;refine zAa ?_;obtain ⟨x18,hj,h⟩:=zAc h
     refine zAp ⟨ofL [(4,.s (.bool x18))],ofH [(0,.box 94 [.s (.str []),.s (.int .i64 0),.s (.nf),.s (.str [114,111,119]),.s (.int .i64 0),.s (.fn 80),.s (.str [115,121,109]),.s (.int .i64 0),.s (.fn 81),.s (.str [110,117,109]),.s (.int .i64 0),.s (.fn 82),.s (.str [116,101,120,116]),.s (.int .i64 0),.s (.fn 83),.s (.str [102,114,97,99]),.s (.int .i64 2),.s (.fn 80),.s (.str [114,111,111,116]),.s (.int .i64 2),.s (.fn 80),.s (.str [115,117,98]),.s (.int .i64 2),.s (.fn 80),.s (.str [115,117,112]),.s (.int .i64 2),.s (.fn 80),.s (.str [98,111,116,104]),.s (.int .i64 3),.s (.fn 80),.s (.str [97,99,99,101,110,116]),.s (.int .i64 1),.s (.fn 84),.s (.str [102,101,110,99,101]),.s (.int .i64 1),.s (.fn 85),.s (.str [109,97,116,114,105,120]),.s (.int .i64 0),.s (.fn 80),.s (.int .i64 o1_nodes)])],1⟩ ?_ (fun σ' hle => ?_)
     ·replace h:=hj;refine zAz (by exact tokW) (by exact gok) (by exact mixed) [] [61,68,73,76,81,84,89] [] rfl (by decide +kernel) ?_;intro b hb;cases b with
      | true =>
       replace h:=zAr hb.symm h;intro b hb;cases b with
       | true =>
        replace h:=zAr hb.symm h;intro n19 hn19;obtain rfl : (a2_kids.length : Int) = n19:=(hn19.trans (congrArg (fun m : Nat => (m : Int)) (rlen Nd.encs_eq a2_kids))).symm;intro b hb;cases b with
        | true =>
         replace h:=zAr hb.symm h;intro n20 hn20;obtain rfl : (a2_kids.length : Int) = n20:=(hn20.trans (congrArg (fun m : Nat => (m : Int)) (rlen Nd.encs_eq a2_kids))).symm;intro b hb;cases b with
         | true =>
          replace h:=zAr hb.symm h;intro n21 hn21;obtain rfl : (a2_kids.length : Int) = n21:=(hn21.trans (congrArg (fun m : Nat => (m : Int)) (rlen Nd.encs_eq a2_kids))).symm;obtain ⟨hq,h⟩:=zAJ h;refine And.intro hq ?_;cases h;exact (Le.rename [(0,0)] _ _ _ ⟨rfl,trivial⟩ ⟨rfl,⟨_,rfl,rfl⟩,trivial⟩ rfl rfl rfl rfl rfl)
         | false =>
          replace h:=zAq hb.symm h;cases h;exact (Le.rename [(0,0)] _ _ _ ⟨rfl,trivial⟩ ⟨rfl,⟨_,rfl,rfl⟩,trivial⟩ rfl rfl rfl rfl rfl)
        | false =>
         replace h:=zAq hb.symm h;intro b hb;subst hb;cases h;exact (Le.rename [(0,0)] _ _ _ ⟨rfl,trivial⟩ ⟨rfl,⟨_,rfl,rfl⟩,trivial⟩ rfl rfl rfl rfl rfl)
       | false =>
        replace h:=zAq hb.symm h;intro b hb;subst hb;intro b hb;subst hb;cases h;exact (Le.rename [(0,0)] _ _ _ ⟨rfl,trivial⟩ ⟨rfl,⟨_,rfl,rfl⟩,trivial⟩ rfl rfl rfl rfl rfl)
      | false =>
       replace h:=zAq hb.symm h;intro b hb;subst hb;intro b hb;subst hb;intro b hb;subst hb;cases h;exact (Le.rename [(0,0)] _ _ _ ⟨rfl,trivial⟩ ⟨rfl,⟨_,rfl,rfl⟩,trivial⟩ rfl rfl rfl rfl rfl)
     ·show Tri _ _ _ _;refine zAm hle ?_;refine zAv ?_;obtain ⟨hj1,hk1⟩:=Prod.mk.inj (Option.some.inj h)
      subst hj1;subst hk1;unfold zCM
      exact ⟨_,(Le.rename [(0,0)] [(4,.s (.bool x18))] [(0,.box 94 [.s (.str []),.s (.int .i64 0),.s (.nf),.s (.str [114,111,119]),.s (.int .i64 0),.s (.fn 80),.s (.str [115,121,109]),.s (.int .i64 0),.s (.fn 81),.s (.str [110,117,109]),.s (.int .i64 0),.s (.fn 82),.s (.str [116,101,120,116]),.s (.int .i64 0),.s (.fn 83),.s (.str [102,114,97,99]),.s (.int .i64 2),.s (.fn 80),.s (.str [114,111,111,116]),.s (.int .i64 2),.s (.fn 80),.s (.str [115,117,98]),.s (.int .i64 2),.s (.fn 80),.s (.str [115,117,112]),.s (.int .i64 2),.s (.fn 80),.s (.str [98,111,116,104]),.s (.int .i64 3),.s (.fn 80),.s (.str [97,99,99,101,110,116]),.s (.int .i64 1),.s (.fn 84),.s (.str [102,101,110,99,101]),.s (.int .i64 1),.s (.fn 85),.s (.str [109,97,116,114,105,120]),.s (.int .i64 0),.s (.fn 80),.s (.int .i64 o1_nodes)])] 1 ⟨rfl,trivial⟩ ⟨rfl,⟨_,rfl,rfl⟩,trivial⟩ rfl rfl rfl rfl rfl),rfl,rfl,rfl,rfl,trivial⟩
    ·replace h:=zAq hb h;refine zAj ?_;show Tri _ _ _ _;refine zAa ?_;obtain ⟨x22,hj,h⟩:=zAc h
     refine zAp ⟨ofL [(4,.s (.bool x22))],ofH [(0,.box 94 [.s (.str []),.s (.int .i64 0),.s (.nf),.s (.str [114,111,119]),.s (.int .i64 0),.s (.fn 80),.s (.str [115,121,109]),.s (.int .i64 0),.s (.fn 81),.s (.str [110,117,109]),.s (.int .i64 0),.s (.fn 82),.s (.str [116,101,120,116]),.s (.int .i64 0),.s (.fn 83),.s (.str [102,114,97,99]),.s (.int .i64 2),.s (.fn 80),.s (.str [114,111,111,116]),.s (.int .i64 2),.s (.fn 80),.s (.str [115,117,98]),.s (.int .i64 2),.s (.fn 80),.s (.str [115,117,112]),.s (.int .i64 2),.s (.fn 80),.s (.str [98,111,116,104]),.s (.int .i64 3),.s (.fn 80),.s (.str [97,99,99,101,110,116]),.s (.int .i64 1),.s (.fn 84),.s (.str [102,101,110,99,101]),.s (.int .i64 1),.s (.fn 85),.s (.str [109,97,116,114,105,120]),.s (.int .i64 0),.s (.fn 80),.s (.int .i64 o1_nodes)])],1⟩ ?_ (fun σ' hle => ?_)
     ·replace h:=hj;refine zAz (by exact tokW) (by exact gok) (by exact mixed) [] [102,107,112] [20] rfl (by decide +kernel) ?_;intro b hb;cases b with
      | true =>
       replace h:=zAr hb.symm h;intro n23 hn23;obtain rfl : (a2_kids.length : Int) = n23:=(hn23.trans (congrArg (fun m : Nat => (m : Int)) (rlen Nd.encs_eq a2_kids))).symm;intro vsp hvsp;cases hc : (a2_kind == 1) with
       | true =>
        replace h:=zAr hc h;obtain rfl : (1 : Int) = vsp:=(hvsp.trans (eq_of_beq hc)).symm;refine And.intro (by decide) ?_;cases h;exact (Le.rename [(0,0)] _ _ _ ⟨rfl,trivial⟩ ⟨rfl,⟨_,rfl,rfl⟩,trivial⟩ rfl rfl rfl rfl rfl)
       | false =>
        replace h:=zAq hc h;cases hc : (a2_kind == 2) with
        | true =>
         replace h:=zAr hc h;obtain rfl : (2 : Int) = vsp:=(hvsp.trans (eq_of_beq hc)).symm;refine And.intro (by decide) ?_;cases h;exact (Le.rename [(0,0)] _ _ _ ⟨rfl,trivial⟩ ⟨rfl,⟨_,rfl,rfl⟩,trivial⟩ rfl rfl rfl rfl rfl)
        | false =>
         replace h:=zAq hc h;cases hc : (a2_kind == 3) with
         | true =>
          replace h:=zAr hc h;obtain rfl : (3 : Int) = vsp:=(hvsp.trans (eq_of_beq hc)).symm;refine And.intro (by decide) ?_;cases h;exact (Le.rename [(0,0)] _ _ _ ⟨rfl,trivial⟩ ⟨rfl,⟨_,rfl,rfl⟩,trivial⟩ rfl rfl rfl rfl rfl)
         | false =>
          replace h:=zAq hc h;cases hc : (a2_kind == 4) with
          | true =>
           replace h:=zAr hc h;obtain rfl : (4 : Int) = vsp:=(hvsp.trans (eq_of_beq hc)).symm;refine And.intro (by decide) ?_;cases h;exact (Le.rename [(0,0)] _ _ _ ⟨rfl,trivial⟩ ⟨rfl,⟨_,rfl,rfl⟩,trivial⟩ rfl rfl rfl rfl rfl)
          | false =>
           replace h:=zAq hc h;cases hc : (a2_kind == 5) with
           | true =>
            replace h:=zAr hc h;obtain rfl : (5 : Int) = vsp:=(hvsp.trans (eq_of_beq hc)).symm;refine And.intro (by decide) ?_;cases h;exact (Le.rename [(0,0)] _ _ _ ⟨rfl,trivial⟩ ⟨rfl,⟨_,rfl,rfl⟩,trivial⟩ rfl rfl rfl rfl rfl)
           | false =>
            replace h:=zAq hc h;cases hc : (a2_kind == 6) with
            | true =>
             replace h:=zAr hc h;obtain rfl : (6 : Int) = vsp:=(hvsp.trans (eq_of_beq hc)).symm;refine And.intro (by decide) ?_;cases h;exact (Le.rename [(0,0)] _ _ _ ⟨rfl,trivial⟩ ⟨rfl,⟨_,rfl,rfl⟩,trivial⟩ rfl rfl rfl rfl rfl)
            | false =>
             replace h:=zAq hc h;cases hc : (a2_kind == 7) with
             | true =>
              replace h:=zAr hc h;obtain rfl : (7 : Int) = vsp:=(hvsp.trans (eq_of_beq hc)).symm;refine And.intro (by decide) ?_;cases h;exact (Le.rename [(0,0)] _ _ _ ⟨rfl,trivial⟩ ⟨rfl,⟨_,rfl,rfl⟩,trivial⟩ rfl rfl rfl rfl rfl)
             | false =>
              replace h:=zAq hc h;cases hc : (a2_kind == 8) with
              | true =>
               replace h:=zAr hc h;obtain rfl : (8 : Int) = vsp:=(hvsp.trans (eq_of_beq hc)).symm;refine And.intro (by decide) ?_;cases h;exact (Le.rename [(0,0)] _ _ _ ⟨rfl,trivial⟩ ⟨rfl,⟨_,rfl,rfl⟩,trivial⟩ rfl rfl rfl rfl rfl)
              | false =>
               replace h:=zAq hc h;cases hc : (a2_kind == 9) with
               | true =>
                replace h:=zAr hc h;obtain rfl : (9 : Int) = vsp:=(hvsp.trans (eq_of_beq hc)).symm;refine And.intro (by decide) ?_;cases h;exact (Le.rename [(0,0)] _ _ _ ⟨rfl,trivial⟩ ⟨rfl,⟨_,rfl,rfl⟩,trivial⟩ rfl rfl rfl rfl rfl)
               | false =>
                replace h:=zAq hc h;cases hc : (a2_kind == 10) with
                | true =>
                 replace h:=zAr hc h;obtain rfl : (10 : Int) = vsp:=(hvsp.trans (eq_of_beq hc)).symm;refine And.intro (by decide) ?_;cases h;exact (Le.rename [(0,0)] _ _ _ ⟨rfl,trivial⟩ ⟨rfl,⟨_,rfl,rfl⟩,trivial⟩ rfl rfl rfl rfl rfl)
                | false =>
                 replace h:=zAq hc h;cases hc : (a2_kind == 11) with
                 | true =>
                  replace h:=zAr hc h;obtain rfl : (11 : Int) = vsp:=(hvsp.trans (eq_of_beq hc)).symm;refine And.intro (by decide) ?_;cases h;exact (Le.rename [(0,0)] _ _ _ ⟨rfl,trivial⟩ ⟨rfl,⟨_,rfl,rfl⟩,trivial⟩ rfl rfl rfl rfl rfl)
                 | false =>
                  replace h:=zAq hc h;cases hc : (a2_kind == 12) with
                  | true =>
                   replace h:=zAr hc h;obtain rfl : (12 : Int) = vsp:=(hvsp.trans (eq_of_beq hc)).symm;refine And.intro (by decide) ?_;cases h;exact (Le.rename [(0,0)] _ _ _ ⟨rfl,trivial⟩ ⟨rfl,⟨_,rfl,rfl⟩,trivial⟩ rfl rfl rfl rfl rfl)
                  | false =>
                   replace h:=zAq hc h;cases h
      | false =>
       replace h:=zAq hb.symm h;cases h;exact (Le.rename [(0,0)] _ _ _ ⟨rfl,trivial⟩ ⟨rfl,⟨_,rfl,rfl⟩,trivial⟩ rfl rfl rfl rfl rfl)
     ·show Tri _ _ _ _;refine zAm hle ?_;refine zAv ?_;obtain ⟨hj1,hk1⟩:=Prod.mk.inj (Option.some.inj h)
      subst hj1;subst hk1;unfold zCM
      exact ⟨_,(Le.rename [(0,0)] [(4,.s (.bool x22))] [(0,.box 94 [.s (.str []),.s (.int .i64 0),.s (.nf),.s (.str [114,111,119]),.s (.int .i64 0),.s (.fn 80),.s (.str [115,121,109]),.s (.int .i64 0),.s (.fn 81),.s (.str [110,117,109]),.s (.int .i64 0),.s (.fn 82),.s (.str [116,101,120,116]),.s (.int .i64 0),.s (.fn 83),.s (.str [102,114,97,99]),.s (.int .i64 2),.s (.fn 80),.s (.str [114,111,111,116]),.s (.int .i64 2),.s (.fn 80),.s (.str [115,117,98]),.s (.int .i64 2),.s (.fn 80),.s (.str [115,117,112]),.s (.int .i64 2),.s (.fn 80),.s (.str [98,111,116,104]),.s (.int .i64 3),.s (.fn 80),.s (.str [97,99,99,101,110,116]),.s (.int .i64 1),.s (.fn 84),.s (.str [102,101,110,99,101]),.s (.int .i64 1),.s (.fn 85),.s (.str [109,97,116,114,105,120]),.s (.int .i64 0),.s (.fn 80),.s (.int .i64 o1_nodes)])] 1 ⟨rfl,trivial⟩ ⟨rfl,⟨_,rfl,rfl⟩,trivial⟩ rfl rfl rfl rfl rfl),rfl,rfl,rfl,rfl,trivial⟩
def zBT (n : Nat) (xs : List AV) (os : List Ob) (x : AV) (os' : List (Option Ob)) : Prop:=∃ (a0 : (Unit × Int)) (a1 : Nd) (a2 : Int) (y0 : Bool) (z0 : (Unit × Int)),zA3 n a0 a1 a2 = some (y0,z0) ∧ xs = [.op 0 0,.s (.pt (Nd.enc a1)),.s (.int .i64 a2)] ∧ os = [.box 94 ((zAg a0).map .s)] ∧ x = .s (.bool y0) ∧ os' = [some (.box 94 ((zAg z0).map .s))]
theorem zF9 (n : Nat) (ih : PSound Tryz.prog 54 (zCl (zBT n))) : PSound Tryz.prog 54 (zCl (zBT (n + 1))):=by
 have gok : ∀ f s,look? f [(86,zE4),(54,zCl (zBT n))] = some s → PSound Tryz.prog f s:=zAB (by
  simp only [List.forall_mem_cons]
  exact ⟨zHx,ih,by simp⟩)
 refine PSound.withNil (zGB tokW Tryz.call54 Tryz.func54 rfl (fun xs os x os' h => by obtain ⟨_,_,_,_,_,_,rfl,rfl,_,rfl⟩:=h; exact ⟨by show 3 ≤ 67; decide,by show 1 ≤ 1; decide⟩) 67 rfl ?_) _;rintro xs os x os' w0 G0 B0 ⟨⟨_,o1_nodes⟩,⟨a2_kind,a2_text,a2_cols,a2_kids⟩,a3,y0,z0,h,rfl,rfl,rfl,rfl⟩ _;rw [zA3] at h;refine zAa ?_;refine zAb [] [] rfl ?_;show Tri _ _ _ _;refine zAa ?_;refine zAb [] [] rfl ?_;show Tri _ _ _ _;refine zAa ?_;refine zAa ?_;obtain ⟨⟨x4,x5⟩,hj,h⟩:=zAc h
 refine zAp ⟨ofL [(0,.op 0 0),(1,.s (.pt [.int .i64 a2_kind,.str a2_text,.int .i64 a2_cols,.sl 4 (Nd.encs a2_kids)])),(2,.s (.int .i64 a3)),(29,.s (.bool x4))],ofH [(0,.box 94 [.s (.str []),.s (.int .i64 0),.s (.nf),.s (.str [114,111,119]),.s (.int .i64 0),.s (.fn 80),.s (.str [115,121,109]),.s (.int .i64 0),.s (.fn 81),.s (.str [110,117,109]),.s (.int .i64 0),.s (.fn 82),.s (.str [116,101,120,116]),.s (.int .i64 0),.s (.fn 83),.s (.str [102,114,97,99]),.s (.int .i64 2),.s (.fn 80),.s (.str [114,111,111,116]),.s (.int .i64 2),.s (.fn 80),.s (.str [115,117,98]),.s (.int .i64 2),.s (.fn 80),.s (.str [115,117,112]),.s (.int .i64 2),.s (.fn 80),.s (.str [98,111,116,104]),.s (.int .i64 3),.s (.fn 80),.s (.str [97,99,99,101,110,116]),.s (.int .i64 1),.s (.fn 84),.s (.str [102,101,110,99,101]),.s (.int .i64 1),.s (.fn 85),.s (.str [109,97,116,114,105,120]),.s (.int .i64 0),.s (.fn 80),.s (.int .i64 x5)])],1⟩ ?_ (fun σ' hle => ?_)
 ·replace h:=hj;refine zAb [] [20,24] rfl ?_;intro b hb;cases b with
  | true =>
   replace h:=zAr hb.symm h;intro b hb;subst hb;cases h;exact (Le.rename [(0,0)] _ _ _ ⟨rfl,rfl,rfl,rfl,trivial⟩ ⟨rfl,⟨_,rfl,rfl⟩,trivial⟩ rfl rfl rfl rfl rfl)
  | false =>
   replace h:=zAq hb.symm h;intro b hb;cases b with
   | true =>
    replace h:=zAr hb.symm h;cases h;exact (Le.rename [(0,0)] _ _ _ ⟨rfl,rfl,rfl,rfl,trivial⟩ ⟨rfl,⟨_,rfl,rfl⟩,trivial⟩ rfl rfl rfl rfl rfl)
   | false =>
    replace h:=zAq hb.symm h;obtain ⟨⟨y6,⟨_,w7_nodes⟩⟩,hy6,h⟩:=zAc h;refine ⟨_,_,⟨_,_,_,_,_,hy6,rfl,rfl,rfl,rfl⟩,?_⟩
    cases h;exact (Le.rename [(0,0)] _ _ _ ⟨rfl,rfl,rfl,rfl,trivial⟩ ⟨rfl,⟨_,rfl,rfl⟩,trivial⟩ rfl rfl rfl rfl rfl)
 ·show Tri _ _ _ _;refine zAm hle ?_;refine zAe rfl (fun hb => ?_) (fun hb => ?_)
  ·replace h:=zAr hb h;refine zAa ?_;refine zAb [] [] rfl ?_;show Tri _ _ _ _;refine zAv ?_;obtain ⟨hj1,hk1⟩:=Prod.mk.inj (Option.some.inj h)
   subst hj1;subst hk1;unfold zCM
   exact ⟨_,(Le.rename [(0,0)] [(6,.s (.bool false))] [(0,.box 94 [.s (.str []),.s (.int .i64 0),.s (.nf),.s (.str [114,111,119]),.s (.int .i64 0),.s (.fn 80),.s (.str [115,121,109]),.s (.int .i64 0),.s (.fn 81),.s (.str [110,117,109]),.s (.int .i64 0),.s (.fn 82),.s (.str [116,101,120,116]),.s (.int .i64 0),.s (.fn 83),.s (.str [102,114,97,99]),.s (.int .i64 2),.s (.fn 80),.s (.str [114,111,111,116]),.s (.int .i64 2),.s (.fn 80),.s (.str [115,117,98]),.s (.int .i64 2),.s (.fn 80),.s (.str [115,117,112]),.s (.int .i64 2),.s (.fn 80),.s (.str [98,111,116,104]),.s (.int .i64 3),.s (.fn 80),.s (.str [97,99,99,101,110,116]),.s (.int .i64 1),.s (.fn 84),.s (.str [102,101,110,99,101]),.s (.int .i64 1),.s (.fn 85),.s (.str [109,97,116,114,105,120]),.s (.int .i64 0),.s (.fn 80),.s (.int .i64 x5)])] 1 ⟨rfl,trivial⟩ ⟨rfl,⟨_,rfl,rfl⟩,trivial⟩ rfl rfl rfl rfl rfl),rfl,rfl,rfl,rfl,trivial⟩
  ·replace h:=zAq hb h;refine zAj ?_;show Tri _ _ _ _;refine zAa ?_;refine zAa ?_;refine zAb [] [34] rfl ?_;intro n8 hn8;obtain rfl : (a2_kids.length : Int) = n8:=(hn8.trans (congrArg (fun m : Nat => (m : Int)) (rlen Nd.encs_eq a2_kids))).symm;show Tri _ _ _ _;obtain ⟨fl,hl,ho1⟩:=zAc h
   refine zDP (fl:=fl) (fun z => match z with | x11 => ⟨ofL [],ofH [(0,.box 94 [.s (.str []),.s (.int .i64 0),.s (.nf),.s (.str [114,111,119]),.s (.int .i64 0),.s (.fn 80),.s (.str [115,121,109]),.s (.int .i64 0),.s (.fn 81),.s (.str [110,117,109]),.s (.int .i64 0),.s (.fn 82),.s (.str [116,101,120,116]),.s (.int .i64 0),.s (.fn 83),.s (.str [102,114,97,99]),.s (.int .i64 2),.s (.fn 80),.s (.str [114,111,111,116]),.s (.int .i64 2),.s (.fn 80),.s (.str [115,117,98]),.s (.int .i64 2),.s (.fn 80),.s (.str [115,117,112]),.s (.int .i64 2),.s (.fn 80),.s (.str [98,111,116,104]),.s (.int .i64 3),.s (.fn 80),.s (.str [97,99,99,101,110,116]),.s (.int .i64 1),.s (.fn 84),.s (.str [102,101,110,99,101]),.s (.int .i64 1),.s (.fn 85),.s (.str [109,97,116,114,105,120]),.s (.int .i64 0),.s (.fn 80),.s (.int .i64 x11)])],1⟩) ?_ (fun x11 σ' hz hle => ?_)
   ·refine zAk (zAA (X:=Nat × Int × Int) (fun y => match y with | (k,x9,x10) => ⟨ofL [(0,.op 0 0),(1,.s (.pt [.int .i64 a2_kind,.str a2_text,.int .i64 a2_cols,.sl 4 (Nd.encs a2_kids)])),(2,.s (.int .i64 a3)),(34,.s (.int .i64 (a2_kids.length : Int))),(35,.s (.int .i64 x10))],ofH [(0,.box 94 [.s (.str []),.s (.int .i64 0),.s (.nf),.s (.str [114,111,119]),.s (.int .i64 0),.s (.fn 80),.s (.str [115,121,109]),.s (.int .i64 0),.s (.fn 81),.s (.str [110,117,109]),.s (.int .i64 0),.s (.fn 82),.s (.str [116,101,120,116]),.s (.int .i64 0),.s (.fn 83),.s (.str [102,114,97,99]),.s (.int .i64 2),.s (.fn 80),.s (.str [114,111,111,116]),.s (.int .i64 2),.s (.fn 80),.s (.str [115,117,98]),.s (.int .i64 2),.s (.fn 80),.s (.str [115,117,112]),.s (.int .i64 2),.s (.fn 80),.s (.str [98,111,116,104]),.s (.int .i64 3),.s (.fn 80),.s (.str [97,99,99,101,110,116]),.s (.int .i64 1),.s (.fn 84),.s (.str [102,101,110,99,101]),.s (.int .i64 1),.s (.fn 85),.s (.str [109,97,116,114,105,120]),.s (.int .i64 0),.s (.fn 80),.s (.int .i64 x9)])],1⟩) (fun y => zAY (zA3 n) a2_kind a2_kids a3 y.1 y.2.1 y.2.2 = some fl) (fun y => y.1) (n,x5,0) hl ?_ ?_)
    ·exact (Le.rename [(0,0)] _ _ _ ⟨rfl,rfl,rfl,rfl,rfl,trivial⟩ ⟨rfl,⟨_,rfl,rfl⟩,trivial⟩ rfl rfl rfl rfl rfl)
    ·rintro ⟨k,x9,x10⟩ h;cases k with
     | zero => cases h
     | succ k =>
      replace h : zAY (zA3 n) a2_kind a2_kids a3 (k+1) x9 x10 = some fl:=h;rw [zAY] at h;refine zAa ?_;refine zAb [] [] rfl ?_;show Tri _ _ _ _;refine zAa ?_;refine zAe rfl (fun hb => ?_) (fun hb => ?_)
      ·replace h:=zAr hb h;refine zAj ?_;show Tri _ _ _ _;refine zAa ?_;refine zAk ?_;refine zAa ?_;refine zAb [] [] rfl ?_;show Tri _ _ _ _;refine zAa ?_;obtain ⟨⟨x12,x13⟩,hj,h⟩:=zAc h
       refine zAp ⟨ofL [(0,.op 0 0),(1,.s (.pt [.int .i64 a2_kind,.str a2_text,.int .i64 a2_cols,.sl 4 (Nd.encs a2_kids)])),(2,.s (.int .i64 a3)),(34,.s (.int .i64 (a2_kids.length : Int))),(35,.s (.int .i64 x10)),(65,.s (.bool x12))],ofH [(0,.box 94 [.s (.str []),.s (.int .i64 0),.s (.nf),.s (.str [114,111,119]),.s (.int .i64 0),.s (.fn 80),.s (.str [115,121,109]),.s (.int .i64 0),.s (.fn 81),.s (.str [110,117,109]),.s (.int .i64 0),.s (.fn 82),.s (.str [116,101,120,116]),.s (.int .i64 0),.s (.fn 83),.s (.str [102,114,97,99]),.s (.int .i64 2),.s (.fn 80),.s (.str [114,111,111,116]),.s (.int .i64 2),.s (.fn 80),.s (.str [115,117,98]),.s (.int .i64 2),.s (.fn 80),.s (.str [115,117,112]),.s (.int .i64 2),.s (.fn 80),.s (.str [98,111,116,104]),.s (.int .i64 3),.s (.fn 80),.s (.str [97,99,99,101,110,116]),.s (.int .i64 1),.s (.fn 84),.s (.str [102,101,110,99,101]),.s (.int .i64 1),.s (.fn 85),.s (.str [109,97,116,114,105,120]),.s (.int .i64 0),.s (.fn 80),.s (.int .i64 x13)])],1⟩ ?_ (fun σ' hle => ?_)
       ·replace h:=hj;refine zAz (by exact tokW) (by exact gok) (by exact mixed) [] [48,53,60] [25] rfl (by decide +kernel) ?_;obtain ⟨⟨e14_kind,e14_text,e14_cols,e14_kids⟩,he14,h⟩:=zAc h;refine And.intro (zAw Nd.encs_eq he14).1 ?_;intro r15 hr15;obtain rfl : [.int .i64 e14_kind,.str e14_text,.int .i64 e14_cols,.sl 4 (Nd.encs e14_kids)] = r15:=(hr15.trans (zAw Nd.encs_eq he14).2.1).symm;intro b hb;cases b with
        | true =>
         replace h:=zAr hb.symm h;cases h;exact (Le.rename [(0,0)] _ _ _ ⟨rfl,rfl,rfl,rfl,rfl,rfl,trivial⟩ ⟨rfl,⟨_,rfl,rfl⟩,trivial⟩ rfl rfl rfl rfl rfl)
        | false =>
         replace h:=zAq hb.symm h;obtain ⟨⟨e16_kind,e16_text,e16_cols,e16_kids⟩,he16,h⟩:=zAc h;refine And.intro (zAw Nd.encs_eq he16).1 ?_;intro r17 hr17;obtain rfl : [.int .i64 e16_kind,.str e16_text,.int .i64 e16_cols,.sl 4 (Nd.encs e16_kids)] = r17:=(hr17.trans (zAw Nd.encs_eq he16).2.1).symm;obtain ⟨⟨y18,⟨_,w19_nodes⟩⟩,hy18,h⟩:=zAc h;refine ⟨_,_,⟨_,_,_,_,_,hy18,rfl,rfl,rfl,rfl⟩,?_⟩
         cases h;exact (Le.rename [(0,0)] _ _ _ ⟨rfl,rfl,rfl,rfl,rfl,rfl,trivial⟩ ⟨rfl,⟨_,rfl,rfl⟩,trivial⟩ rfl rfl rfl rfl rfl)
       ·show Tri _ _ _ _;refine zAm hle ?_;refine zAe rfl (fun hb => ?_) (fun hb => ?_)
        ·replace h:=zAr hb h;refine zAa ?_;refine zAb [] [] rfl ?_;show Tri _ _ _ _;refine zAv ?_;cases h;replace h : some _ = some _:=ho1;obtain ⟨hj1,hk1⟩:=Prod.mk.inj (Option.some.inj h)
         subst hj1;subst hk1;unfold zCM
         exact ⟨_,(Le.rename [(0,0)] [(6,.s (.bool false))] [(0,.box 94 [.s (.str []),.s (.int .i64 0),.s (.nf),.s (.str [114,111,119]),.s (.int .i64 0),.s (.fn 80),.s (.str [115,121,109]),.s (.int .i64 0),.s (.fn 81),.s (.str [110,117,109]),.s (.int .i64 0),.s (.fn 82),.s (.str [116,101,120,116]),.s (.int .i64 0),.s (.fn 83),.s (.str [102,114,97,99]),.s (.int .i64 2),.s (.fn 80),.s (.str [114,111,111,116]),.s (.int .i64 2),.s (.fn 80),.s (.str [115,117,98]),.s (.int .i64 2),.s (.fn 80),.s (.str [115,117,112]),.s (.int .i64 2),.s (.fn 80),.s (.str [98,111,116,104]),.s (.int .i64 3),.s (.fn 80),.s (.str [97,99,99,101,110,116]),.s (.int .i64 1),.s (.fn 84),.s (.str [102,101,110,99,101]),.s (.int .i64 1),.s (.fn 85),.s (.str [109,97,116,114,105,120]),.s (.int .i64 0),.s (.fn 80),.s (.int .i64 x13)])] 1 ⟨rfl,trivial⟩ ⟨rfl,⟨_,rfl,rfl⟩,trivial⟩ rfl rfl rfl rfl rfl),rfl,rfl,rfl,rfl,trivial⟩
        ·replace h:=zAq hb h;refine zAj ?_;show Tri _ _ _ _;refine zAb [] [] rfl ?_;refine ⟨(k,x13,IntKind.i64.wrap (x10 + 1)),h,(Le.rename [(0,0)] _ _ _ ⟨rfl,rfl,rfl,rfl,rfl,trivial⟩ ⟨rfl,⟨_,rfl,rfl⟩,trivial⟩ rfl rfl rfl rfl rfl),Nat.lt_succ_self k⟩
      ·replace h:=zAq hb h;refine zAC ?_;cases h;exact ⟨_,rfl,(Le.rename [(0,0)] _ _ _ trivial ⟨rfl,⟨_,rfl,rfl⟩,trivial⟩ rfl rfl rfl rfl rfl)⟩
   ·subst hz;replace h:=ho1;show Tri _ _ _ _;refine zAm hle ?_;refine zAa ?_;refine zAb [] [] rfl ?_;show Tri _ _ _ _;refine zAv ?_;obtain ⟨hj1,hk1⟩:=Prod.mk.inj (Option.some.inj h)
    subst hj1;subst hk1;unfold zCM
    exact ⟨_,(Le.rename [(0,0)] [(6,.s (.bool true))] [(0,.box 94 [.s (.str []),.s (.int .i64 0),.s (.nf),.s (.str [114,111,119]),.s (.int .i64 0),.s (.fn 80),.s (.str [115,121,109]),.s (.int .i64 0),.s (.fn 81),.s (.str [110,117,109]),.s (.int .i64 0),.s (.fn 82),.s (.str [116,101,120,116]),.s (.int .i64 0),.s (.fn 83),.s (.str [102,114,97,99]),.s (.int .i64 2),.s (.fn 80),.s (.str [114,111,111,116]),.s (.int .i64 2),.s (.fn 80),.s (.str [115,117,98]),.s (.int .i64 2),.s (.fn 80),.s (.str [115,117,112]),.s (.int .i64 2),.s (.fn 80),.s (.str [98,111,116,104]),.s (.int .i64 3),.s (.fn 80),.s (.str [97,99,99,101,110,116]),.s (.int .i64 1),.s (.fn 84),.s (.str [102,101,110,99,101]),.s (.int .i64 1),.s (.fn 85),.s (.str [109,97,116,114,105,120]),.s (.int .i64 0),.s (.fn 80),.s (.int .i64 x11)])] 1 ⟨rfl,trivial⟩ ⟨rfl,⟨_,rfl,rfl⟩,trivial⟩ rfl rfl rfl rfl rfl),rfl,rfl,rfl,rfl,trivial⟩
theorem zGl : ∀ n,PSound Tryz.prog 54 (zCl (zBT n)):=by
 intro n
 induction n with
 | zero => exact zHC Tryz.call54 (fun xs os x os' h => by obtain ⟨_,_,_,_,_,h,_⟩:=h; cases h) _
 | succ n ih => exact zF9 n ih
def zEP : zAx:=zCl (fun xs os x os' => ∃ n,zBT n xs os x os')
theorem zG0 : PSound Tryz.prog 54 zEP:=zII zGl _
def zNJ (n : Nat) (xs : List AV) (r : Ret) : Prop:=∃ (a0 : Nd) (y0 : Bool),zDw n a0 = some y0 ∧ xs = [.agg ((Nd.enc a0).map .s)] ∧ r = .val (.s (.bool y0))
def zI1 : zAx:=zAG fun xs r => ∃ n,zNJ n xs r
theorem zM3 : PSound Tryz.prog 33 zI1:=by
 have gok : ∀ f s,look? f [(53,zGf),(54,zEP)] = some s → PSound Tryz.prog f s:=zAB (by
  simp only [List.forall_mem_cons]
  exact ⟨zIh,zG0,by simp⟩)
 refine zAS tokW Tryz.call33 Tryz.func33 rfl (fun xs r h => by obtain ⟨n,_,_,_,rfl,_⟩:=h; show 1 ≤ 14; decide) 14 rfl ?_;rintro xs r w0 G0 ⟨n,⟨n1_kind,n1_text,n1_cols,n1_kids⟩,y0,h,rfl,rfl⟩ _;rw [zDw] at h;refine zAa ?_;refine zAb [] [] rfl ?_;show Tri _ _ _ _;refine zAa ?_;refine zAb [6] [] rfl ?_;obtain ⟨_,hy2,h⟩:=zAc h;refine ⟨_,⟨_,hy2,rfl,rfl⟩,?_⟩
 show Tri _ _ _ _;refine zAa ?_;obtain ⟨x3,hj,h⟩:=zAc h;refine zAp ⟨ofL [(2,.s (.bool x3))],fun _ => none,0⟩ ?_ (fun σ' hle => ?_)
 ·replace h:=hj;refine zAb [] [10] rfl ?_;intro b hb;cases b with
  | true =>
   replace h:=zAr hb.symm h;obtain ⟨⟨y4,⟨_,w5_nodes⟩⟩,hy4,h⟩:=zAc h;refine ⟨_,_,⟨_,_,_,_,_,_,hy4,rfl,rfl,rfl,rfl⟩,?_⟩
   cases h;exact (Le.rename [] _ [] 0 ⟨rfl,trivial⟩ trivial rfl rfl rfl rfl rfl)
  | false =>
   replace h:=zAq hb.symm h;cases h;exact (Le.rename [] _ [] 0 ⟨rfl,trivial⟩ trivial rfl rfl rfl rfl rfl)
 ·show Tri _ _ _ _;refine zAm hle ?_;refine zAv ?_;have hy:=Option.some.inj h;subst hy;unfold zAO;exact ⟨_,Le.refl _ _,rfl,rfl⟩
def zK5 (xs : List AV) (os : List Ob) (x : AV) (os' : List (Option Ob)) : Prop:=∃ (a0 : Int) (a1 : Int) (z0 : Int),zD7 a0 a1 = some z0 ∧ xs = [.s (.int .i64 a0),.op 0 0] ∧ os = [.box 3 (((irow .i64) a1).map .s)] ∧ x = .tup [] ∧ os' = [some (.box 3 (((irow .i64) z0).map .s))]
def zG6 : zAx:=zCl (fun xs os x os' => zK5 xs os x os')
theorem zKz : PSound Tryz.prog 60 zG6:=by
 have gok : ∀ (f : Nat) (s : zAx),(fun _ => none : Nat → Option zAx) f = some s → PSound Tryz.prog f s:=fun _ _ h => by cases h
 refine PSound.withNil (zGB tokW Tryz.call60 Tryz.func60 rfl (fun xs os x os' h => by obtain ⟨_,_,_,_,rfl,rfl,_,rfl⟩:=h; exact ⟨by show 2 ≤ 5; decide,by show 1 ≤ 1; decide⟩) 5 rfl ?_) _;rintro xs os x os' w0 G0 B0 ⟨a1,o2,z0,h,rfl,rfl,rfl,rfl⟩ _;rw [zD7] at h;refine zAb [] [] rfl ?_;have hy:=Option.some.inj h;subst hy;unfold zCM;exact ⟨_,(Le.rename [(0,0)] [] [(0,.box 3 [.s (.int .i64 (IntKind.i64.wrap (o2 + 1)))])] 1 trivial ⟨rfl,⟨_,rfl,rfl⟩,trivial⟩ rfl rfl rfl rfl rfl),rfl,rfl,rfl,rfl,trivial⟩
def zAi (p : (Nd × Int)) : List S:=[.pt (Nd.enc p.1),.int .i64 p.2]
def zPx (n : Nat) (xs : List AV) (os : List Ob) (x : AV) (os' : List (Option Ob)) : Prop:=∃ (a0 : Nd) (a1 : Int) (z0 : Int),zFV n a0 a1 = some z0 ∧ xs = [.s (.pt (Nd.enc a0)),.clo 60 [.op 0 0]] ∧ os = [.box 3 (((irow .i64) a1).map .s)] ∧ x = .tup [] ∧ os' = [some (.box 3 (((irow .i64) z0).map .s))]
def zJ3 : zAx:=zCl (fun xs os x os' => ∃ n,zPx n xs os x os')
theorem zOJ : PSound Tryz.prog 59 zJ3:=by
 have gok : ∀ f s,look? f [(60,zG6)] = some s → PSound Tryz.prog f s:=zAB (by
  simp only [List.forall_mem_cons]
  exact ⟨zKz,by simp⟩)
 refine PSound.withNil (zGB tokW Tryz.call59 Tryz.func59 rfl (fun xs os x os' h => by obtain ⟨n,_,_,_,_,rfl,rfl,_,rfl⟩:=h; exact ⟨by show 2 ≤ 52; decide,by show 1 ≤ 1; decide⟩) 52 rfl ?_) _;rintro xs os x os' w0 G0 B0 ⟨n,⟨n1_kind,n1_text,n1_cols,n1_kids⟩,o2,z0,h,rfl,rfl,rfl,rfl⟩ _;rw [zFV] at h;refine zAa ?_;refine zAb [9] [] rfl ?_;show Tri _ _ _ _
 refine zAm (Le.rename [(0,0),(1,1)] [(1,.clo 60 [.op 0 0]),(4,.orow 1)] [(0,.box 3 [.s (.int .i64 o2)]),(1,.row 128 2 ((List.map zAi) [(Nd.mk n1_kind n1_text n1_cols n1_kids,1)]))] 2 ⟨rfl,rfl,trivial⟩ ⟨rfl,⟨_,rfl,rfl⟩,rfl,⟨_,rfl,congrArg (Ob.row 128 2) (by simp [List.map_append,List.map_take,List.map_drop,irow,brow,zAF,List.map_cons,List.map_nil,zAy,Nd.encs_eq,Nd.enc,zAh,zAg,zAi])⟩,trivial⟩ rfl rfl rfl rfl rfl) ?_;obtain ⟨x6,hl,h⟩:=zAc h;refine zAp ⟨ofL [],ofH [(0,.box 3 [.s (.int .i64 x6)])],1⟩ ?_ (fun σ' hle => ?_)
 ·refine zAk (zAA (X:=Nat × Int × (List (Nd × Int))) (fun y => match y with | (k,x3,l5) => ⟨ofL [(1,.clo 60 [.op 0 0]),(4,.orow 1)],ofH [(0,.box 3 [.s (.int .i64 x3)]),(1,.row 128 2 ((List.map zAi) l5))],2⟩) (fun y => zB9 n y.1 y.2.1 y.2.2 = some x6) (fun y => y.1) (n,o2,[(Nd.mk n1_kind n1_text n1_cols n1_kids,1)]) hl ?_ ?_)
  ·exact (Le.rename [(0,0),(1,1)] _ _ _ ⟨rfl,rfl,trivial⟩ ⟨rfl,⟨_,rfl,rfl⟩,rfl,⟨_,rfl,rfl⟩,trivial⟩ rfl rfl rfl rfl rfl)
  ·rintro ⟨k,x3,l5⟩ h;cases k with
   | zero => cases h
   | succ k =>
    replace h : zB9 n (k+1) x3 l5 = some x6:=h;rw [zB9] at h;refine zAa ?_;refine zAa ?_;refine zAb [] [11] rfl ?_;intro n7 hn7;obtain rfl : (l5.length : Int) = n7:=(hn7.trans (congrArg (fun m : Nat => (m : Int)) (rlen (fun _ => rfl) l5))).symm;show Tri _ _ _ _;refine zAe rfl (fun hb => ?_) (fun hb => ?_)
    ·replace h:=zAr hb h;refine zAj ?_;show Tri _ _ _ _;refine zAk ?_;refine zAa ?_;refine zAb [5] [15] rfl ?_;intro n8 hn8;obtain rfl : (l5.length : Int) = n8:=(hn8.trans (congrArg (fun m : Nat => (m : Int)) (rlen (fun _ => rfl) l5))).symm;obtain ⟨⟨⟨e9_node_kind,e9_node_text,e9_node_cols,e9_node_kids⟩,e9_depth⟩,he9,h⟩:=zAc h;refine And.intro (zAw (fun _ => rfl) he9).1 ?_;refine And.intro (zAw (fun _ => rfl) he9).2.2 ?_;refine ⟨_,(zAw (fun _ => rfl) he9).2.1,?_⟩
     show Tri _ _ _ _;refine zAm (Le.giveBox 2 [.pt [.int .i64 e9_node_kind,.str e9_node_text,.int .i64 e9_node_cols,.sl 4 (Nd.encs e9_node_kids)],.int .i64 e9_depth] rfl rfl) ?_;refine zAa ?_;refine zAb [23] [21] rfl ?_;intro n10 hn10;obtain rfl : (l5.length : Int) = n10:=(hn10.trans (congrArg (fun m : Nat => (m : Int)) (rlen (fun _ => rfl) l5))).symm;obtain ⟨hq,h⟩:=zAJ h;refine And.intro ⟨hq.1,Int.le_trans hq.2 (Int.ofNat_le.2 (Nat.le_of_eq (rlen (fun _ => rfl) _).symm))⟩ ?_;show Tri _ _ _ _
     refine zAm (Le.rename [(0,0),(3,1)] [(1,.clo 60 [.op 0 0]),(4,.orow 1),(5,.s (.pt [.pt [.int .i64 e9_node_kind,.str e9_node_text,.int .i64 e9_node_cols,.sl 4 (Nd.encs e9_node_kids)],.int .i64 e9_depth]))] [(0,.box 3 [.s (.int .i64 x3)]),(1,.row 128 2 ((List.map zAi) (l5.take (IntKind.i64.wrap ((l5.length : Int) - 1)).toNat)))] 2 ⟨rfl,rfl,rfl,trivial⟩ ⟨rfl,⟨_,rfl,rfl⟩,rfl,⟨_,rfl,congrArg (Ob.row 128 2) (by simp [List.map_append,List.map_take,List.map_drop,irow,brow,zAF,List.map_cons,List.map_nil,zAy,Nd.encs_eq,Nd.enc,zAh,zAg,zAi])⟩,trivial⟩ rfl rfl rfl rfl rfl) ?_;refine zAa ?_
     refine zAb [] [] rfl ?_;obtain ⟨w11,hw11,h⟩:=zAc h;refine ⟨_,_,⟨_,_,_,hw11,rfl,rfl,rfl,rfl⟩,?_⟩
     show Tri _ _ _ _;refine zAa ?_;refine zAb [] [33] rfl ?_;intro n12 hn12;obtain rfl : (e9_node_kids.length : Int) = n12:=(hn12.trans (congrArg (fun m : Nat => (m : Int)) (rlen Nd.encs_eq e9_node_kids))).symm;show Tri _ _ _ _;obtain ⟨l16,hl,h⟩:=zAc h;refine zAp ⟨ofL [(1,.clo 60 [.op 0 0]),(4,.orow 1)],ofH [(0,.box 3 [.s (.int .i64 w11)]),(1,.row 128 2 ((List.map zAi) l16))],2⟩ ?_ (fun σ' hle => ?_)
     ·refine zAk (zAA (X:=Nat × Int × (List (Nd × Int))) (fun y => match y with | (k,x13,l15) => ⟨ofL [(1,.clo 60 [.op 0 0]),(4,.orow 1),(5,.s (.pt [.pt [.int .i64 e9_node_kind,.str e9_node_text,.int .i64 e9_node_cols,.sl 4 (Nd.encs e9_node_kids)],.int .i64 e9_depth])),(33,.s (.int .i64 (e9_node_kids.length : Int))),(34,.s (.int .i64 x13))],ofH [(0,.box 3 [.s (.int .i64 w11)]),(1,.row 128 2 ((List.map zAi) l15))],2⟩) (fun y => zCa e9_node_kids e9_depth y.1 y.2.1 y.2.2 = some l16) (fun y => y.1) (n,0,l5.take (IntKind.i64.wrap ((l5.length : Int) - 1)).toNat) hl ?_ ?_)
      ·exact (Le.rename [(0,0),(1,1)] _ _ _ ⟨rfl,rfl,rfl,rfl,rfl,trivial⟩ ⟨rfl,⟨_,rfl,rfl⟩,rfl,⟨_,rfl,rfl⟩,trivial⟩ rfl rfl rfl rfl rfl)
      ·rintro ⟨k,x13,l15⟩ h;cases k with
       | zero => cases h
       | succ k =>
        replace h : zCa e9_node_kids e9_depth (k+1) x13 l15 = some l16:=h;rw [zCa] at h;refine zAa ?_;refine zAb [] [] rfl ?_;show Tri _ _ _ _;refine zAa ?_;refine zAe rfl (fun hb => ?_) (fun hb => ?_)
        ·replace h:=zAr hb h;refine zAj ?_;show Tri _ _ _ _;refine zAa ?_;refine zAk ?_;refine zAa ?_;refine zAb [] [] rfl ?_;show Tri _ _ _ _;refine zAz (by exact tokW) (by exact gok) (by exact mixed) [50] [44,49] [13] rfl (by decide +kernel) ?_;obtain ⟨⟨e17_kind,e17_text,e17_cols,e17_kids⟩,he17,h⟩:=zAc h;refine And.intro (zAw Nd.encs_eq he17).1 ?_;intro r18 hr18;obtain rfl : [.int .i64 e17_kind,.str e17_text,.int .i64 e17_cols,.sl 4 (Nd.encs e17_kids)] = r18:=(hr18.trans (zAw Nd.encs_eq he17).2.1).symm;intro r19 hr19
         obtain rfl : (List.map zAi) [(Nd.mk e17_kind e17_text e17_cols e17_kids,IntKind.i64.wrap (e9_depth + 1))] = r19:=(hr19.trans (by simp [List.map_append,List.map_take,List.map_drop,irow,brow,zAF,List.map_cons,List.map_nil,zAy,Nd.encs_eq,Nd.enc,zAh,zAg,zAi])).symm;obtain ⟨hq,h⟩:=zAJ h
         refine And.intro (show (((List.map zAi) l15).length + ((List.map zAi) [(Nd.mk e17_kind e17_text e17_cols e17_kids,IntKind.i64.wrap (e9_depth + 1))]).length) * 16 ≤ 140737488355328 ∧ ((List.map zAi) l15).length + ((List.map zAi) [(Nd.mk e17_kind e17_text e17_cols e17_kids,IntKind.i64.wrap (e9_depth + 1))]).length ≤ 9223372036854775807 from by simp only [List.length_append,List.length_cons,List.length_nil,List.length_map,rlen (fun _ => rfl)] at hq ⊢; omega) ?_;show Tri _ _ _ _
         refine zAm (Le.rename [(0,0),(2,1)] [(1,.clo 60 [.op 0 0]),(4,.orow 1),(5,.s (.pt [.pt [.int .i64 e9_node_kind,.str e9_node_text,.int .i64 e9_node_cols,.sl 4 (Nd.encs e9_node_kids)],.int .i64 e9_depth])),(33,.s (.int .i64 (e9_node_kids.length : Int))),(34,.s (.int .i64 x13))] [(0,.box 3 [.s (.int .i64 w11)]),(1,.row 128 2 ((List.map zAi) (l15 ++ [(Nd.mk e17_kind e17_text e17_cols e17_kids,IntKind.i64.wrap (e9_depth + 1))])))] 2 ⟨rfl,rfl,rfl,rfl,rfl,trivial⟩ ⟨rfl,⟨_,rfl,rfl⟩,rfl,⟨_,rfl,congrArg (Ob.row 128 2) (by simp [List.map_append,List.map_take,List.map_drop,irow,brow,zAF,List.map_cons,List.map_nil,zAy,Nd.encs_eq,Nd.enc,zAh,zAg,zAi])⟩,trivial⟩ rfl rfl rfl rfl rfl) ?_
         refine zAb [] [] rfl ?_;refine ⟨(k,IntKind.i64.wrap (x13 + 1),l15 ++ [(Nd.mk e17_kind e17_text e17_cols e17_kids,IntKind.i64.wrap (e9_depth + 1))]),h,(Le.rename [(0,0),(1,1)] _ _ _ ⟨rfl,rfl,rfl,rfl,rfl,trivial⟩ ⟨rfl,⟨_,rfl,rfl⟩,rfl,⟨_,rfl,rfl⟩,trivial⟩ rfl rfl rfl rfl rfl),Nat.lt_succ_self k⟩
        ·replace h:=zAq hb h;refine zAC ?_;cases h;exact (Le.rename [(0,0),(1,1)] _ _ _ ⟨rfl,rfl,trivial⟩ ⟨rfl,⟨_,rfl,rfl⟩,rfl,⟨_,rfl,rfl⟩,trivial⟩ rfl rfl rfl rfl rfl)
     ·refine ⟨(k,w11,l16),h,(Le.trans hle (Le.rename [(0,0),(1,1)] _ _ _ ⟨rfl,rfl,trivial⟩ ⟨rfl,⟨_,rfl,rfl⟩,rfl,⟨_,rfl,rfl⟩,trivial⟩ rfl rfl rfl rfl rfl)),Nat.lt_succ_self k⟩
    ·replace h:=zAq hb h;refine zAC ?_;cases h;exact (Le.rename [(0,0)] _ _ _ trivial ⟨rfl,⟨_,rfl,rfl⟩,trivial⟩ rfl rfl rfl rfl rfl)
 ·have hy:=Option.some.inj h;subst hy;unfold zCM;exact ⟨_,(Le.trans hle (Le.rename [(0,0)] [] [(0,.box 3 [.s (.int .i64 x6)])] 1 trivial ⟨rfl,⟨_,rfl,rfl⟩,trivial⟩ rfl rfl rfl rfl rfl)),rfl,rfl,rfl,rfl,trivial⟩
def zNI (n : Nat) (xs : List AV) (r : Ret) : Prop:=∃ (a0 : Nd) (y0 : Int),zEf n a0 = some y0 ∧ xs = [.agg ((Nd.enc a0).map .s)] ∧ r = .val (.s (.int .i64 y0))
def zI0 : zAx:=zAG fun xs r => ∃ n,zNI n xs r
theorem zM2 : PSound Tryz.prog 36 zI0:=by
 have gok : ∀ f s,look? f [(59,zJ3)] = some s → PSound Tryz.prog f s:=zAB (by
  simp only [List.forall_mem_cons]
  exact ⟨zOJ,by simp⟩)
 refine zAS tokW Tryz.call36 Tryz.func36 rfl (fun xs r h => by obtain ⟨n,_,_,_,rfl,_⟩:=h; show 1 ≤ 7; decide) 7 rfl ?_;rintro xs r w0 G0 ⟨n,⟨n1_kind,n1_text,n1_cols,n1_kids⟩,y0,h,rfl,rfl⟩ _;rw [zEf] at h;refine zAa ?_;refine zAb [] [] rfl ?_;show Tri _ _ _ _;refine zAa ?_;refine zAb [3] [] rfl ?_;show Tri _ _ _ _;refine zAa ?_;refine zAb [] [] rfl ?_;obtain ⟨w2,hw2,h⟩:=zAc h;refine ⟨_,_,⟨_,_,_,_,hw2,rfl,rfl,rfl,rfl⟩,?_⟩
 show Tri _ _ _ _;refine zAa ?_;refine zAb [] [] rfl ?_;show Tri _ _ _ _;refine zAv ?_;have hy:=Option.some.inj h;subst hy;unfold zAO;exact ⟨_,Le.refl _ _,rfl,rfl⟩
def zNG (n : Nat) (xs : List AV) (r : Ret) : Prop:=∃ (a0 : List Nd) (y0 : List Int),zDu n a0 = some y0 ∧ xs = [.s (.sl 4 (Nd.encs a0))] ∧ r = .row 3 1 ((List.map (irow .i64)) y0)
def zIZ : zAx:=zAG fun xs r => ∃ n,zNG n xs r
theorem zM1 : PSound Tryz.prog 61 zIZ:=by
 have gok : ∀ f s,look? f [(36,zI0)] = some s → PSound Tryz.prog f s:=zAB (by
  simp only [List.forall_mem_cons]
  exact ⟨zM2,by simp⟩)
 refine zAS tokW Tryz.call61 Tryz.func61 rfl (fun xs r h => by obtain ⟨n,_,_,_,rfl,_⟩:=h; show 1 ≤ 23; decide) 23 rfl ?_;rintro xs r w0 G0 ⟨n,l1,y0,h,rfl,rfl⟩ _;rw [zDu] at h;refine zAa ?_;refine zAb [2] [] rfl ?_;show Tri _ _ _ _;refine zAm (Le.rename [] [(0,.s (.sl 4 (Nd.encs l1)))] [] 0 ⟨rfl,trivial⟩ trivial rfl rfl rfl rfl rfl) ?_;refine zAa ?_;refine zAb [7] [6] rfl ?_;intro n2 hn2;obtain rfl : (l1.length : Int) = n2:=(hn2.trans (congrArg (fun m : Nat => (m : Int)) (rlen Nd.encs_eq l1))).symm;obtain ⟨hq,h⟩:=zAJ h
 refine And.intro (show 0 ≤ (l1.length : Int) ∧ (l1.length : Int) ≤ (l1.length : Int) ∧ (l1.length : Int) * ((8 : Nat) : Int) ≤ 281474976710656 ∧ (l1.length : Int) ≤ 281474976710656 from ⟨hq.1,Int.le_refl _,by have h1:=hq.1; have h2:=hq.2; omega,by have h2:=hq.2; omega⟩) ?_;show Tri _ _ _ _
 refine zAm (Le.rename [(0,0)] [(0,.s (.sl 4 (Nd.encs l1))),(3,.orow 0)] [(0,.row 3 1 ((List.map (irow .i64)) (List.replicate (l1.length : Int).toNat 0)))] 1 ⟨rfl,rfl,trivial⟩ ⟨rfl,⟨_,rfl,congrArg (Ob.row 3 1) (by simp [List.map_append,List.map_take,List.map_drop,irow,brow,zAF,List.map_cons,List.map_nil,zAy,Nd.encs_eq,Nd.enc,zAh,zAg,zAi])⟩,trivial⟩ rfl rfl rfl rfl rfl) ?_;refine zAa ?_;refine zAa ?_;refine zAb [] [9] rfl ?_;intro n3 hn3;obtain rfl : (l1.length : Int) = n3:=(hn3.trans (congrArg (fun m : Nat => (m : Int)) (rlen Nd.encs_eq l1))).symm;show Tri _ _ _ _;obtain ⟨l6,hl,h⟩:=zAc h
 refine zAp ⟨ofL [(3,.orow 0)],ofH [(0,.row 3 1 ((List.map (irow .i64)) l6))],1⟩ ?_ (fun σ' hle => ?_)
 ·refine zAk (zAA (X:=Nat × Int × (List Int)) (fun y => match y with | (k,x4,l5) => ⟨ofL [(0,.s (.sl 4 (Nd.encs l1))),(3,.orow 0),(9,.s (.int .i64 (l1.length : Int))),(10,.s (.int .i64 x4))],ofH [(0,.row 3 1 ((List.map (irow .i64)) l5))],1⟩) (fun y => zBX n l1 y.1 y.2.1 y.2.2 = some l6) (fun y => y.1) (n,0,List.replicate (l1.length : Int).toNat 0) hl ?_ ?_)
  ·exact (Le.rename [(0,0)] _ _ _ ⟨rfl,rfl,rfl,rfl,trivial⟩ ⟨rfl,⟨_,rfl,rfl⟩,trivial⟩ rfl rfl rfl rfl rfl)
  ·rintro ⟨k,x4,l5⟩ h;cases k with
   | zero => cases h
   | succ k =>
    replace h : zBX n l1 (k+1) x4 l5 = some l6:=h;rw [zBX] at h;refine zAa ?_;refine zAb [] [] rfl ?_;show Tri _ _ _ _;refine zAa ?_;refine zAe rfl (fun hb => ?_) (fun hb => ?_)
    ·replace h:=zAr hb h;refine zAj ?_;show Tri _ _ _ _;refine zAa ?_;refine zAk ?_;refine zAa ?_;refine zAb [] [] rfl ?_;show Tri _ _ _ _;refine zAb [] [17] rfl ?_;obtain ⟨⟨e7_kind,e7_text,e7_cols,e7_kids⟩,he7,h⟩:=zAc h;refine And.intro (zAw Nd.encs_eq he7).1 ?_;intro r8 hr8;obtain rfl : [.int .i64 e7_kind,.str e7_text,.int .i64 e7_cols,.sl 4 (Nd.encs e7_kids)] = r8:=(hr8.trans (zAw Nd.encs_eq he7).2.1).symm;obtain ⟨y9,hy9,h⟩:=zAc h;refine ⟨_,⟨_,_,_,hy9,rfl,rfl⟩,?_⟩
     obtain ⟨e10,he10,h⟩:=zAc h;refine And.intro (zAw (fun _ => rfl) he10).1 ?_;have hset11:=(rset (R:=(List.map (irow .i64))) (f:=(irow .i64)) (fun _ => rfl) he10 y9 0 1 [.int .i64 y9] rfl)
     have hat11:=at_set he10 y9;refine And.intro (zAw (fun _ => rfl) he10).2.2 ?_;show Tri _ _ _ _;refine zAm (Le.rename [(0,0)] [(0,.s (.sl 4 (Nd.encs l1))),(3,.orow 0),(9,.s (.int .i64 (l1.length : Int))),(10,.s (.int .i64 x4))] [(0,.row 3 1 ((List.map (irow .i64)) (l5.set x4.toNat y9)))] 1 ⟨rfl,rfl,rfl,rfl,trivial⟩ ⟨rfl,⟨_,rfl,congrArg (Ob.row 3 1) hset11⟩,trivial⟩ rfl rfl rfl rfl rfl) ?_;refine zAb [] [] rfl ?_;refine ⟨(k,IntKind.i64.wrap (x4 + 1),l5.set x4.toNat y9),h,(Le.rename [(0,0)] _ _ _ ⟨rfl,rfl,rfl,rfl,trivial⟩ ⟨rfl,⟨_,rfl,rfl⟩,trivial⟩ rfl rfl rfl rfl rfl),Nat.lt_succ_self k⟩
    ·replace h:=zAq hb h;refine zAC ?_;cases h;exact (Le.rename [(0,0)] _ _ _ ⟨rfl,trivial⟩ ⟨rfl,⟨_,rfl,rfl⟩,trivial⟩ rfl rfl rfl rfl rfl)
 ·show Tri _ _ _ _;refine zAm hle ?_;refine zAa ?_;refine zAb [] [] rfl ?_;show Tri _ _ _ _;refine zAv ?_;have hy:=Option.some.inj h;subst hy;unfold zAO;exact ⟨_,Le.refl _ _,0,rfl,rfl⟩
end Go.Proofs.YtjdhkpdjecegnaaGreatDoor
namespace Go.Proofs.YtjdhkpdjecegnaaGreatDoor
open Go.Abs
theorem zEu {l : List Nd} {i : Nat} {x : Nd} (h : l[i]? = some x) : (Nd.encs l).getD i [] = Nd.enc x:=by
 simp [Nd.encs_eq,List.getD_eq_getElem?_getD,h]
theorem zSg : ∀ (l : List Int),∃ v vs,zAZ l = v :: vs
 | [] => ⟨_,_,rfl⟩
 | _ :: _ => ⟨_,_,rfl⟩
theorem zNl {F : Nd → Nd → Option Int} {b : List Nd} {other : List Int} : ∀ {xs : List Nd} {fs : List Int} {p : List (List Int) × List (List Int)},zAQ F b other xs fs = some p → xs.length = fs.length
 | [],[],_,_ => rfl
 | [],_ :: _,_,h => by simp [zAQ] at h
 | _ :: _,[],_,h => by simp [zAQ] at h
 | x :: xs,f :: fs,p,h => by
  simp only [zAQ] at h;obtain ⟨q,hq,_⟩:=zAc h;simp [zNl hq]
theorem zO5 {F : Nd → Nd → Option Int} {b : List Nd} {other : List Int} : ∀ {xs : List Nd} {fs : List Int} {p : List (List Int) × List (List Int)},zAQ F b other xs fs = some p → ∀ i,i ≤ xs.length → ∃ q,zAQ F b other (xs.drop i) (fs.drop i) = some q
 | xs,fs,p,h,0,_ => ⟨p,h⟩
 | [],_,_,_,i + 1,hi => by simp at hi
 | _ :: _,[],_,h,_ + 1,_ => by simp [zAQ] at h
 | x :: xs,f :: fs,p,h,i + 1,hi => by
  simp only [zAQ] at h;obtain ⟨q,hq,_⟩:=zAc h;exact zO5 hq i (by simpa using hi)
theorem zP8 {F : Nd → Nd → Option Int} {x : Nd} {f : Int} : ∀ {ys : List Nd} {os vs : List Int} {p : List Int × List Int},zAD F x f ys os vs = some p → os.length = ys.length ∧ vs.length = ys.length + 1 ∧ p.1.length = ys.length + 1 ∧ p.2.length = ys.length
 | [],[],[v],p,h => by simp only [zAD,Option.some.injEq] at h; subst h; simp
 | y :: ys,o :: os,v :: v2 :: vs,p,h => by
  simp only [zAD] at h;obtain ⟨q,hq,h⟩:=zAc h;obtain ⟨c,hc,h⟩:=zAc h;have:=zP8 hq;simp only [Option.some.injEq] at h;subst h;simp only [List.length_cons] at this ⊢
  omega
 | [],[],[],_,h => by simp [zAD] at h
 | [],[],_ :: _ :: _,_,h => by simp [zAD] at h
 | [],_ :: _,_,_,h => by simp [zAD] at h
 | _ :: _,[],_,_,h => by simp [zAD] at h
 | _ :: _,_ :: _,[],_,h => by simp [zAD] at h
 | _ :: _,_ :: _,[_],_,h => by simp [zAD] at h
theorem row_drop {F : Nd → Nd → Option Int} {x : Nd} {f : Int} : ∀ {ys : List Nd} {os vs : List Int} {p : List Int × List Int},zAD F x f ys os vs = some p → ∀ j,j ≤ ys.length → ∃ q,zAD F x f (ys.drop j) (os.drop j) (vs.drop j) = some q
 | ys,os,vs,p,h,0,_ => ⟨p,h⟩
 | y :: ys,o :: os,v :: v2 :: vs,p,h,j + 1,hj => by
  simp only [zAD] at h;obtain ⟨q,hq,_⟩:=zAc h;exact row_drop hq j (by simpa using hj)
 | [],_,_,_,_,j + 1,hj => by simp at hj
 | _ :: _,[],_,_,h,_ + 1,_ => by simp [zAD] at h
 | _ :: _,_ :: _,[],_,h,_ + 1,_ => by simp [zAD] at h
 | _ :: _,_ :: _,[_],_,h,_ + 1,_ => by simp [zAD] at h
def zAu (p : List Int) : List S:=[.sl 1 ((List.map (irow .i64)) p)]
def zAs (p : (List (List Int) × List (List Int) × List Int × List Int)) : List S:=[.sl 1 ((List.map zAu) p.1),.sl 1 ((List.map zAu) p.2.1),.sl 1 ((List.map (irow .i64)) p.2.2.1),.sl 1 ((List.map (irow .i64)) p.2.2.2)]
def zDS (n : Nat) (xs : List AV) (r : Ret) : Prop:=∃ (a0 : List Nd) (a1 : List Nd) (y0 : (List (List Int) × List (List Int) × List Int × List Int)),zBW n a0 a1 = some y0 ∧ xs = [.s (.sl 4 (Nd.encs a0)),.s (.sl 4 (Nd.encs a1))] ∧ r = .val (.agg ((zAs y0).map .s))
def zDg (n : Nat) (xs : List AV) (r : Ret) : Prop:=∃ (a0 : Nd) (a1 : Nd) (y0 : Int),zBC n a0 a1 = some y0 ∧ xs = [.s (.pt (Nd.enc a0)),.s (.pt (Nd.enc a1))] ∧ r = .val (.s (.int .i64 y0))
theorem zLw (n : Nat) (ih_diff_fill : PSound Tryz.prog 37 (zAG (zDS n))) (ih_diff_pairing : PSound Tryz.prog 62 (zAG (zDg n))) : PSound Tryz.prog 37 (zAG (zDS (n + 1))):=by
 have gok : ∀ f s,look? f [(61,zIZ),(62,zAG (zDg n))] = some s → PSound Tryz.prog f s:=zAB (by
  simp only [List.forall_mem_cons]
  exact ⟨zM1,ih_diff_pairing,by simp⟩)
 refine zAS tokW Tryz.call37 Tryz.func37 rfl (fun xs r h => by obtain ⟨_,_,_,_,rfl,_⟩:=h; show 2 ≤ 203; decide) 203 rfl ?_;rintro xs r w0 G0 ⟨a,b,y0,h,rfl,rfl⟩ _;rw [zBW] at h;obtain ⟨first,hfirst,h⟩:=zAc h;obtain ⟨other,hother,h⟩:=zAc h;obtain ⟨hlen,h⟩:=zAJ h;obtain ⟨p,hp,h⟩:=zAc h;refine zAa ?_;refine zAb [4] [] rfl ?_;show Tri _ _ _ _;refine zAa ?_;refine zAb [5] [] rfl ?_;refine ⟨_,⟨_,_,_,hfirst,rfl,rfl⟩,?_⟩
 refine ⟨_,⟨_,_,_,hother,rfl,rfl⟩,?_⟩
 show Tri _ _ _ _;refine zAa ?_;refine zAb [5] [15,16] rfl ?_;intro n1 hn1;obtain rfl : (a.length : Int) = n1:=(hn1.trans (congrArg (fun m : Nat => (m : Int)) (rlen Nd.encs_eq a))).symm;intro n2 hn2;obtain rfl : ((a.length + 1 : Nat) : Int) = n2:=(hn2.trans (zAL (by omega))).symm;refine And.intro (show 0 ≤ _ ∧ _ from ⟨by omega,Int.le_refl _,show ((a.length + 1 : Nat) : Int) * ((24 : Nat) : Int) ≤ 281474976710656 by omega,by omega⟩) ?_;show Tri _ _ _ _;refine zAa ?_;refine zAb [5] [20] rfl ?_;intro n1 hn1;have e1 : (a.length : Int) = n1:=(hn1.trans (congrArg (fun m : Nat => (m : Int)) (rlen Nd.encs_eq a))).symm;subst e1
 refine And.intro (show 0 ≤ _ ∧ _ from ⟨by omega,Int.le_refl _,show ((a.length : Nat) : Int) * ((24 : Nat) : Int) ≤ 281474976710656 by omega,by omega⟩) ?_;show Tri _ _ _ _;refine zAa ?_;refine zAa ?_;refine zAb [5] [24] rfl ?_;intro n1 hn1;have e1 : (a.length : Int) = n1:=(hn1.trans (congrArg (fun m : Nat => (m : Int)) (rlen Nd.encs_eq a))).symm;subst e1;show Tri _ _ _ _
 refine zAp ⟨ofL [(0,.s (.sl 4 (Nd.encs a))),(1,.s (.sl 4 (Nd.encs b))),(4,.op 0 0),(5,.op 1 0)],ofH [(0,.box 66 [.nl 1,.nl 1,.nl 1,.nl 1]),(1,.box 66 [.orow 2,.orow 3,.s (.sl 1 (first.map (irow .i64))),.s (.sl 1 (other.map (irow .i64)))]),(2,.arow 43 1 (zAR p.1)),(3,.arow 43 1 (zAR p.2))],4⟩ ?_ (fun σ' hle => ?_)
 ·refine zAk (zAA (X:=Nat × List (List Int) × List (List Int)) (fun y => match y with | (k,L,P) => ⟨ofL [(0,.s (.sl 4 (Nd.encs a))),(1,.s (.sl 4 (Nd.encs b))),(4,.op 0 0),(5,.op 1 0),(6,.s (.int .i64 ((k : Int) - 1)))],ofH [(0,.box 66 [.nl 1,.nl 1,.nl 1,.nl 1]),(1,.box 66 [.orow 2,.orow 3,.s (.sl 1 (first.map (irow .i64))),.s (.sl 1 (other.map (irow .i64)))]),(2,.arow 43 1 (nils k ++ zAR L)),(3,.arow 43 1 (nils (min k a.length) ++ zAR P))],4⟩)
   (fun y => match y with | (k,L,P) => (k = a.length + 1 ∧ L = [] ∧ P = []) ∨ (k ≤ a.length ∧ zAQ (zBC n) b other (a.drop k) (first.drop k) = some (L,P))) (fun y => y.1) (a.length + 1,[],[]) (.inl ⟨rfl,rfl,rfl⟩) ?_ ?_)
  ·refine Le.trans (Le.toA 2 rfl) (Le.trans (Le.toA 3 rfl) (Le.rename [(0,0),(1,1),(2,2),(3,3)] _ _ 4 ⟨rfl,rfl,rfl,rfl,?_,trivial⟩ ⟨rfl,⟨_,rfl,rfl⟩,rfl,⟨_,rfl,rfl⟩,rfl,⟨_,rfl,?_⟩,rfl,⟨_,rfl,?_⟩,trivial⟩ rfl rfl rfl (by simp only [ltH,Ob.lt,zFR]; rfl) rfl))
   ·show AV.s (.int .i64 _) = AV.s (.int .i64 _)
    congr 2; omega
   ·show Ob.arow 43 1 (((List.replicate (a.length + 1) [S.sl 1 []]).map (·.map AV.s)).map (AV.renAll _)) = _;rw [zNv,zFY]; simp [zAR]
   ·show Ob.arow 43 1 (((List.replicate a.length [S.sl 1 []]).map (·.map AV.s)).map (AV.renAll _)) = _;rw [zNv,zFY]; simp [zAR]
  ·rintro ⟨k,L,P⟩ hI;refine zAa ?_;refine zAa ?_;refine zAb [] [26] rfl ?_;intro b26 h26;show Tri _ _ _ _;refine zAe rfl (fun hb => ?_) (fun hb => ?_)
   ·refine zAj ?_;show Tri _ _ _ _;have hk : 1 ≤ k:=by
     rw [h26] at hb;have:=of_decide_eq_true hb; omega
    obtain ⟨i,rfl⟩ : ∃ i,k = i + 1:=⟨k - 1,by omega⟩
    refine zAm (Le.forget [(0,.s (.sl 4 (Nd.encs a))),(1,.s (.sl 4 (Nd.encs b))),(4,.op 0 0),(5,.op 1 0),(6,.s (.int .i64 (i : Int)))] ⟨rfl,rfl,rfl,rfl,congrArg (fun z => AV.s (.int .i64 z)) (by omega),trivial⟩) ?_;refine zAa ?_;refine zAk ?_;refine zAa ?_;refine zDB (by exact tokW) (by exact gok) (by exact mixed) [35] [33,34] [1,6,7,8] [1,7] rfl (by decide +kernel) ?_;intro n1 hn1;obtain rfl : (b.length : Int) = n1:=(hn1.trans (congrArg (fun m : Nat => (m : Int)) (rlen Nd.encs_eq b))).symm;intro n2 hn2;obtain rfl : ((b.length + 1 : Nat) : Int) = n2:=(hn2.trans (zAL (by omega))).symm
    refine And.intro (show 0 ≤ _ ∧ _ from ⟨by omega,Int.le_refl _,show ((b.length + 1 : Nat) : Int) * ((8 : Nat) : Int) ≤ 281474976710656 by omega,by omega⟩) ?_;have hlt1 : i < (nils (i + 1) ++ zAR L).length :=(by simp [nils]; omega);refine And.intro ⟨Int.natCast_nonneg _,Int.ofNat_lt.2 hlt1⟩ ?_;refine And.intro hlt1 ?_
    refine zAm (σ':=⟨ofL [(0,.s (.sl 4 (Nd.encs a))),(1,.s (.sl 4 (Nd.encs b))),(4,.op 0 0),(5,.op 1 0),(6,.s (.int .i64 (i : Int)))],ofH [(0,.box 66 [.nl 1,.nl 1,.nl 1,.nl 1]),(1,.box 66 [.orow 2,.orow 3,.s (.sl 1 (first.map (irow .i64))),.s (.sl 1 (other.map (irow .i64)))]),(2,.arow 43 1 (nils i ++ [.orow 4] :: zAR L)),(3,.arow 43 1 (nils (min (i + 1) a.length) ++ zAR P)),(4,.row 3 1 ((List.replicate (b.length + 1) 0).map (irow .i64)))],5⟩) (Le.rename [(0,0),(1,1),(2,2),(3,3),(4,4)] _ _ 5 ⟨rfl,rfl,rfl,rfl,rfl,trivial⟩ ⟨rfl,⟨_,rfl,rfl⟩,rfl,⟨_,rfl,rfl⟩,rfl,⟨_,rfl,?_⟩,rfl,⟨_,rfl,?_⟩,rfl,⟨_,rfl,?_⟩,trivial⟩ rfl rfl rfl ?_ rfl) ?_
    ·show Ob.arow 43 1 (List.map (AV.renAll _) ((nils (i + 1) ++ zAR L).set i (((nils (i + 1) ++ zAR L).getD i []).take 0 ++ [AV.orow 4] ++ ((nils (i + 1) ++ zAR L).getD i []).drop 1))) = _;rw [zOk,show ([AV.s (S.sl 1 [])].take 0 ++ [AV.orow 4] ++ [AV.s (S.sl 1 [])].drop 1) = [AV.orow 4] from rfl,zQK]
     simp [zFY,zE2,AV.renAll,AV.ren,look]
     rfl
    ·show Ob.arow 43 1 (List.map (AV.renAll _) (nils (min (i + 1) a.length) ++ zAR P)) = _;simp [zFY,zE2]
    ·show Ob.row 3 1 (List.replicate (b.length + 1) [S.int .i64 0]) = _;simp [irow]
    ·simp only [ltH,Ob.lt,zFR,lt_1]; rfl
    rcases hI with ⟨hin,rfl,rfl⟩ | ⟨hin,hrows⟩
    ·obtain rfl : i = a.length :=(by omega);refine zAa ?_;refine zAa ?_;refine zAb [] [39,40] rfl ?_;intro n1 hn1;obtain rfl : (a.length : Int) = n1:=(hn1.trans (congrArg (fun m : Nat => (m : Int)) (rlen Nd.encs_eq a))).symm;intro b40 h40;obtain rfl : false = b40:=(h40.trans (decide_eq_false (Int.lt_irrefl _))).symm;show Tri _ _ _ _;refine zAe rfl (fun h => by cases h) (fun _ => ?_)
     refine zAj ?_;show Tri _ _ _ _;refine zAa ?_;refine zAb [] [49] rfl ?_;intro n1 hn1;obtain rfl : (b.length : Int) = n1:=(hn1.trans (congrArg (fun m : Nat => (m : Int)) (rlen Nd.encs_eq b))).symm;show Tri _ _ _ _
     refine zAp ⟨ofL [(0,.s (.sl 4 (Nd.encs a))),(1,.s (.sl 4 (Nd.encs b))),(4,.op 0 0),(5,.op 1 0),(6,.s (.int .i64 (a.length : Int)))],ofH [(0,.box 66 [.nl 1,.nl 1,.nl 1,.nl 1]),(1,.box 66 [.orow 2,.orow 3,.s (.sl 1 (first.map (irow .i64))),.s (.sl 1 (other.map (irow .i64)))]),(2,.arow 43 1 (nils a.length ++ [.orow 4] :: zAR [])),(3,.arow 43 1 (nils (min (a.length + 1) a.length) ++ zAR [])),(4,.row 3 1 ((zAZ other).map (irow .i64)))],5⟩ ?_ (fun σ' hle => ?_)
     ·refine zAk (zAA (X:=Nat × List Int) (fun y => match y with | (k,rd) => ⟨ofL [(0,.s (.sl 4 (Nd.encs a))),(1,.s (.sl 4 (Nd.encs b))),(4,.op 0 0),(5,.op 1 0),(6,.s (.int .i64 (a.length : Int))),(7,.s (.int .i64 ((k : Int) - 1)))],ofH [(0,.box 66 [.nl 1,.nl 1,.nl 1,.nl 1]),(1,.box 66 [.orow 2,.orow 3,.s (.sl 1 (first.map (irow .i64))),.s (.sl 1 (other.map (irow .i64)))]),(2,.arow 43 1 (nils a.length ++ [.orow 4] :: zAR [])),(3,.arow 43 1 (nils (min (a.length + 1) a.length) ++ zAR [])),(4,.row 3 1 ((List.replicate k 0 ++ rd).map (irow .i64)))],5⟩)
       (fun y => match y with | (k,rd) => (k = b.length + 1 ∧ rd = []) ∨ (k ≤ b.length ∧ rd = zAZ (other.drop k))) (fun y => y.1) (b.length + 1,[]) (.inl ⟨rfl,rfl⟩) ?_ ?_)
      ·refine Le.rename [(0,0),(1,1),(2,2),(3,3),(4,4)] _ _ 5 ⟨rfl,rfl,rfl,rfl,rfl,congrArg (fun z => AV.s (.int .i64 z)) (by omega),trivial⟩ ⟨rfl,⟨_,rfl,rfl⟩,rfl,⟨_,rfl,rfl⟩,rfl,⟨_,rfl,zFX _ rfl⟩,rfl,⟨_,rfl,zQG _⟩,rfl,⟨_,rfl,?_⟩,trivial⟩ rfl rfl rfl (by simp only [ltH,Ob.lt,zFR,lt_1]; rfl) rfl;show Ob.row 3 1 _ = Ob.row 3 1 _;simp
      ·rintro ⟨k,rd⟩ hI;refine zAa ?_;refine zAa ?_;refine zAb [] [51] rfl ?_;intro b51 h51;show Tri _ _ _ _;refine zAe rfl (fun hb => ?_) (fun hb => ?_)
       ·refine zAj ?_;show Tri _ _ _ _;have hk : 1 ≤ k:=by
         rw [h51] at hb;have:=of_decide_eq_true hb; omega
        obtain ⟨j,rfl⟩ : ∃ j,k = j + 1:=⟨k - 1,by omega⟩
        refine zAm (Le.forget [(0,.s (.sl 4 (Nd.encs a))),(1,.s (.sl 4 (Nd.encs b))),(4,.op 0 0),(5,.op 1 0),(6,.s (.int .i64 (a.length : Int))),(7,.s (.int .i64 (j : Int)))] ⟨rfl,rfl,rfl,rfl,rfl,congrArg (fun z => AV.s (.int .i64 z)) (by omega),trivial⟩) ?_;refine zAa ?_;have wj : IntKind.i64.wrap ((j : Int) - 1) = (j : Int) - 1:=wrap64_in (by omega) (by rcases hI with h | h <;> omega)
        refine zAk ?_;refine zAk ?_;refine zAa ?_;refine zAb [] [140,141,145] rfl ?_;intro n1 hn1;obtain rfl : (a.length : Int) = n1:=(hn1.trans (congrArg (fun m : Nat => (m : Int)) (rlen Nd.encs_eq a))).symm;intro b1 hb1;obtain rfl : true = b1:=(hb1.trans (beq_self_eq_true _)).symm;intro n1 hn1;obtain rfl : (b.length : Int) = n1:=(hn1.trans (congrArg (fun m : Nat => (m : Int)) (rlen Nd.encs_eq b))).symm;show Tri _ _ _ _;refine zAe rfl (fun hb2 => ?_) (fun hb2 => ?_)
        ·refine zAj ?_;show Tri _ _ _ _;refine zAb [] [] rfl ?_;have hj : j = b.length:=Int.ofNat.inj (eq_of_beq hb2)
         refine ⟨(j,[0]),.inr ⟨by omega,by rw [hj,← hlen.2.2,List.drop_length]; rfl⟩,Le.rename [(0,0),(1,1),(2,2),(3,3),(4,4)] _ _ 5 ⟨rfl,rfl,rfl,rfl,rfl,congrArg (fun z => AV.s (.int .i64 z)) wj,trivial⟩ ⟨rfl,⟨_,rfl,rfl⟩,rfl,⟨_,rfl,rfl⟩,rfl,⟨_,rfl,zFX _ rfl⟩,rfl,⟨_,rfl,zQG _⟩,rfl,⟨_,rfl,?_⟩,trivial⟩ rfl rfl rfl (by simp only [ltH,Ob.lt,zFR,lt_1]; rfl) rfl,Nat.lt_succ_self j⟩
         rcases hI with ⟨_,rfl⟩ | ⟨h,_⟩
         ·show Ob.row 3 1 _ = Ob.row 3 1 _;rw [List.append_nil,List.replicate_succ']
         ·omega
        ·have hj : j ≠ b.length:=fun e => by rw [e] at hb2; simp at hb2
         obtain ⟨hj2,rfl⟩ : j + 1 ≤ b.length ∧ rd = zAZ (other.drop (j + 1)):=by
          rcases hI with ⟨h,_⟩ | h
          ·omega
          ·exact h
         refine zAa ?_;refine zAb [] [151,152] rfl ?_;intro n1 hn1;obtain rfl : (a.length : Int) = n1:=(hn1.trans (congrArg (fun m : Nat => (m : Int)) (rlen Nd.encs_eq a))).symm;intro b1 hb1;obtain rfl : true = b1:=(hb1.trans (beq_self_eq_true _)).symm;show Tri _ _ _ _;refine zAe rfl (fun _ => ?_) (fun h => by cases h)
         refine zAz (by exact tokW) (by exact gok) (by exact mixed) [] [165,171] [1,3,4,7,9,10,13,14,16,21,22] rfl (by decide +kernel) ?_;have hlt1 : a.length < (nils a.length ++ [AV.orow 4] :: zAR []).length :=(by simp [nils]);refine And.intro ⟨Int.natCast_nonneg _,Int.ofNat_lt.2 hlt1⟩ ?_;refine And.intro hlt1 ⟨_,zDG,?_⟩
         refine And.intro ⟨Int.natCast_nonneg _,Int.ofNat_lt.2 hlt1⟩ ?_;refine And.intro hlt1 ⟨_,zDG,?_⟩
         intro z hz;obtain rfl : ((j + 1 : Nat) : Int) = z:=(hz.trans (zAL (by omega))).symm;obtain ⟨v,vs,hv⟩:=zSg (other.drop (j + 1))
         have ho : other[j]? = some (other[j]'(by omega)):=List.getElem?_eq_getElem _;have hdr : other.drop j = other[j]'(by omega) :: other.drop (j + 1):=List.drop_eq_getElem_cons (by omega)
         have g1 : (List.replicate (j + 1) 0 ++ v :: vs)[j + 1]? = some v :=(by simp [List.getElem?_append]);have hlt2 : j + 1 < (List.map (irow .i64) (List.replicate (j + 1) 0 ++ v :: vs)).length :=(by simp);rw [hv]
         refine And.intro ⟨Int.natCast_nonneg _,Int.ofNat_lt.2 hlt2⟩ ?_;refine And.intro hlt2 ⟨_,zC1 g1,?_⟩
         refine And.intro ⟨Int.natCast_nonneg _,Int.ofNat_lt.2 (by rw [zFQ]; omega)⟩ ?_;intro r hr;obtain rfl : [S.int .i64 _] = r:=(hr.trans (zC1 ho)).symm;have hlt3 : j < (List.map (irow .i64) (List.replicate (j + 1) 0 ++ v :: vs)).length :=(by simp; omega);refine And.intro ⟨Int.natCast_nonneg _,Int.ofNat_lt.2 hlt3⟩ ?_;refine And.intro hlt3 ?_;show Tri _ _ _ _;refine zAb [] [] rfl ?_
         refine ⟨(j,zAZ (other.drop j)),.inr ⟨by omega,rfl⟩,Le.rename [(0,0),(1,1),(2,2),(3,3),(4,4)] _ _ 5 ⟨rfl,rfl,rfl,rfl,rfl,congrArg (fun z => AV.s (.int .i64 z)) wj,trivial⟩ ⟨rfl,⟨_,rfl,rfl⟩,rfl,⟨_,rfl,rfl⟩,rfl,⟨_,rfl,zFX _ rfl⟩,rfl,⟨_,rfl,zQG _⟩,rfl,⟨_,rfl,?_⟩,trivial⟩ rfl rfl rfl (by simp only [ltH,Ob.lt,zFR,lt_1]; rfl) rfl,Nat.lt_succ_self j⟩
         refine congrArg (Ob.row 3 1) ((zHF (l:=List.replicate (j + 1) 0 ++ v :: vs) (j:=j) (v:=0) (x:=IntKind.i64.wrap (v + other[j]'(by omega))) (by simp [List.getElem?_append])).trans (congrArg (List.map (irow .i64)) ?_))
         rw [hdr]
         simp only [zAZ,hv,List.headD_cons]
         exact zF1 _
       ·refine zAC ?_;have hk : k = 0:=by
         rw [h51] at hb;have:=of_decide_eq_false hb; omega
        subst hk;rcases hI with ⟨h1,_⟩ | ⟨_,rfl⟩
        ·omega
        ·exact Le.rename [(0,0),(1,1),(2,2),(3,3),(4,4)] _ _ 5 ⟨rfl,rfl,rfl,rfl,rfl,trivial⟩ ⟨rfl,⟨_,rfl,rfl⟩,rfl,⟨_,rfl,rfl⟩,rfl,⟨_,rfl,zFX _ rfl⟩,rfl,⟨_,rfl,zQG _⟩,rfl,⟨_,rfl,rfl⟩,trivial⟩ rfl rfl rfl (by simp only [ltH,Ob.lt,zFR,lt_1]; rfl) rfl
     ·show Tri _ _ _ _;refine zAm hle ?_;refine zAb [] [] rfl ?_;refine ⟨(a.length,[zAZ other],[]),.inr ⟨Nat.le_refl _,by rw [List.drop_length,zNl hp,List.drop_length]; rfl⟩,
       Le.trans (Le.giveRow 4 rfl) (Le.rename [(0,0),(1,1),(2,2),(3,3)] _ _ 4 ⟨rfl,rfl,rfl,rfl,congrArg (fun z => AV.s (.int .i64 z)) (wrap64_in (by omega) (by omega)),trivial⟩ ⟨rfl,⟨_,rfl,rfl⟩,rfl,⟨_,rfl,rfl⟩,rfl,⟨_,rfl,zUT (a:=a.length) (p:=fun _ => .junk) _ rfl⟩,rfl,⟨_,rfl,(zUF _ _ _).trans (by rw [Nat.min_eq_right (Nat.le_succ _),Nat.min_self])⟩,trivial⟩ rfl rfl rfl (by simp only [ltH,Ob.lt,zFR,lt_1]; rfl) rfl),Nat.lt_succ_self _⟩
    ·have hlf:=zNl hp;have hbl:=hlen.2.2;obtain ⟨⟨L2,P2⟩,hq⟩:=zO5 hp i (by omega)
     have ha : a[i]? = some (a[i]'(by omega)):=List.getElem?_eq_getElem _;have hf : first[i]? = some (first[i]'(by omega)):=List.getElem?_eq_getElem _;have hq0:=hq;rw [List.drop_eq_getElem_cons (show i < a.length by omega),List.drop_eq_getElem_cons (show i < first.length by omega)] at hq;generalize a[i]'(by omega) = x at ha hq;generalize first[i]'(by omega) = f at hf hq;simp only [zAQ,hrows] at hq;obtain ⟨p0,hp0,hq⟩:=zAc hq;cases hp0;cases L with
     | nil => cases hq
     | cons r1 L =>
     dsimp only at hq;obtain ⟨⟨rr,ss⟩,hrow,hq⟩:=zAc hq;simp only [Option.some.injEq,Prod.mk.injEq] at hq;obtain ⟨rfl,rfl⟩:=hq;have hrl:=zP8 hrow;dsimp only at hrl;refine zAa ?_;refine zAa ?_;refine zAb [] [39,40] rfl ?_;intro n1 hn1;obtain rfl : (a.length : Int) = n1:=(hn1.trans (congrArg (fun m : Nat => (m : Int)) (rlen Nd.encs_eq a))).symm;intro b40 h40;obtain rfl : true = b40:=(h40.trans (decide_eq_true (by omega))).symm;show Tri _ _ _ _;refine zAe rfl (fun _ => ?_) (fun h => by cases h)
     refine zDB (by exact tokW) (by exact gok) (by exact mixed) [46] [45] [1,5,6,7] [1,6] rfl (by decide +kernel) ?_;intro n1 hn1;obtain rfl : (b.length : Int) = n1:=(hn1.trans (congrArg (fun m : Nat => (m : Int)) (rlen Nd.encs_eq b))).symm;refine And.intro (show 0 ≤ _ ∧ _ from ⟨by omega,Int.le_refl _,show ((b.length : Nat) : Int) * ((8 : Nat) : Int) ≤ 281474976710656 by omega,by omega⟩) ?_;have hm1 : min (i + 1) a.length = i + 1:=Nat.min_eq_left hin;have hlt1 : i < (nils (min (i + 1) a.length) ++ zAR P).length :=(by rw [hm1]; simp [nils]; omega);refine And.intro ⟨Int.natCast_nonneg _,Int.ofNat_lt.2 hlt1⟩ ?_;refine And.intro hlt1 ?_;show Tri _ _ _ _
     refine zAm (σ':=⟨ofL [(0,.s (.sl 4 (Nd.encs a))),(1,.s (.sl 4 (Nd.encs b))),(4,.op 0 0),(5,.op 1 0),(6,.s (.int .i64 (i : Int)))],ofH [(0,.box 66 [.nl 1,.nl 1,.nl 1,.nl 1]),(1,.box 66 [.orow 2,.orow 3,.s (.sl 1 (first.map (irow .i64))),.s (.sl 1 (other.map (irow .i64)))]),(2,.arow 43 1 (nils i ++ [.orow 4] :: zAR (r1 :: L))),(3,.arow 43 1 (nils i ++ [.orow 5] :: zAR P)),(4,.row 3 1 ((List.replicate (b.length + 1) 0).map (irow .i64))),(5,.row 3 1 ((List.replicate b.length 0).map (irow .i64)))],6⟩) (Le.rename [(0,0),(1,1),(2,2),(3,3),(4,4),(5,5)] _ _ 6 ⟨rfl,rfl,rfl,rfl,rfl,trivial⟩ ⟨rfl,⟨_,rfl,rfl⟩,rfl,⟨_,rfl,rfl⟩,rfl,⟨_,rfl,zFX _ rfl⟩,rfl,⟨_,rfl,?_⟩,rfl,⟨_,rfl,rfl⟩,rfl,⟨_,rfl,?_⟩,trivial⟩ rfl rfl rfl (by simp only [ltH,Ob.lt,zFR,lt_1]; rfl) rfl) ?_
     ·show Ob.arow 43 1 (List.map (AV.renAll _) ((nils (min (i + 1) a.length) ++ zAR P).set i (((nils (min (i + 1) a.length) ++ zAR P).getD i []).take 0 ++ [AV.orow 5] ++ ((nils (min (i + 1) a.length) ++ zAR P).getD i []).drop 1))) = _;rw [hm1,zOk,show ([AV.s (S.sl 1 [])].take 0 ++ [AV.orow 5] ++ [AV.s (S.sl 1 [])].drop 1) = [AV.orow 5] from rfl,zQK]
      simp [zFY,zE2,AV.renAll,AV.ren,look]
      rfl
     ·show Ob.row 3 1 (List.replicate b.length [S.int .i64 0]) = _;simp [irow]
     refine zAa ?_;refine zAb [] [49] rfl ?_;intro n1 hn1;obtain rfl : (b.length : Int) = n1:=(hn1.trans (congrArg (fun m : Nat => (m : Int)) (rlen Nd.encs_eq b))).symm;show Tri _ _ _ _
     refine zAp ⟨ofL [(0,.s (.sl 4 (Nd.encs a))),(1,.s (.sl 4 (Nd.encs b))),(4,.op 0 0),(5,.op 1 0),(6,.s (.int .i64 (i : Int)))],ofH [(0,.box 66 [.nl 1,.nl 1,.nl 1,.nl 1]),(1,.box 66 [.orow 2,.orow 3,.s (.sl 1 (first.map (irow .i64))),.s (.sl 1 (other.map (irow .i64)))]),(2,.arow 43 1 (nils i ++ [.orow 4] :: zAR (r1 :: L))),(3,.arow 43 1 (nils i ++ [.orow 5] :: zAR P)),(4,.row 3 1 (rr.map (irow .i64))),(5,.row 3 1 (ss.map (irow .i64)))],6⟩ ?_ (fun σ' hle => ?_)
     ·refine zAk (zAA (X:=Nat × List Int × List Int) (fun y => match y with | (k,rd,sd) => ⟨ofL [(0,.s (.sl 4 (Nd.encs a))),(1,.s (.sl 4 (Nd.encs b))),(4,.op 0 0),(5,.op 1 0),(6,.s (.int .i64 (i : Int))),(7,.s (.int .i64 ((k : Int) - 1)))],ofH [(0,.box 66 [.nl 1,.nl 1,.nl 1,.nl 1]),(1,.box 66 [.orow 2,.orow 3,.s (.sl 1 (first.map (irow .i64))),.s (.sl 1 (other.map (irow .i64)))]),(2,.arow 43 1 (nils i ++ [.orow 4] :: zAR (r1 :: L))),(3,.arow 43 1 (nils i ++ [.orow 5] :: zAR P)),(4,.row 3 1 ((List.replicate k 0 ++ rd).map (irow .i64))),(5,.row 3 1 ((List.replicate (min k b.length) 0 ++ sd).map (irow .i64)))],6⟩)
       (fun y => match y with | (k,rd,sd) => (k = b.length + 1 ∧ rd = [] ∧ sd = []) ∨ (k ≤ b.length ∧ zAD (zBC n) x f (b.drop k) (other.drop k) (r1.drop k) = some (rd,sd))) (fun y => y.1) (b.length + 1,[],[]) (.inl ⟨rfl,rfl,rfl⟩) ?_ ?_)
      ·refine Le.rename [(0,0),(1,1),(2,2),(3,3),(4,4),(5,5)] _ _ 6 ⟨rfl,rfl,rfl,rfl,rfl,congrArg (fun z => AV.s (.int .i64 z)) (by omega),trivial⟩ ⟨rfl,⟨_,rfl,rfl⟩,rfl,⟨_,rfl,rfl⟩,rfl,⟨_,rfl,zFX _ rfl⟩,rfl,⟨_,rfl,zFX _ rfl⟩,rfl,⟨_,rfl,?_⟩,rfl,⟨_,rfl,?_⟩,trivial⟩ rfl rfl rfl (by simp only [ltH,Ob.lt,zFR,lt_1]; rfl) rfl
       ·show Ob.row 3 1 _ = Ob.row 3 1 _;simp
       ·show Ob.row 3 1 _ = Ob.row 3 1 _;rw [Nat.min_eq_right (Nat.le_succ _)]; simp
      ·rintro ⟨k,rd,sd⟩ hI;refine zAa ?_;refine zAa ?_;refine zAb [] [51] rfl ?_;intro b51 h51;show Tri _ _ _ _;refine zAe rfl (fun hb => ?_) (fun hb => ?_)
       ·refine zAj ?_;show Tri _ _ _ _;have hk : 1 ≤ k:=by
         rw [h51] at hb;have:=of_decide_eq_true hb; omega
        obtain ⟨j,rfl⟩ : ∃ j,k = j + 1:=⟨k - 1,by omega⟩
        refine zAm (Le.forget [(0,.s (.sl 4 (Nd.encs a))),(1,.s (.sl 4 (Nd.encs b))),(4,.op 0 0),(5,.op 1 0),(6,.s (.int .i64 (i : Int))),(7,.s (.int .i64 (j : Int)))] ⟨rfl,rfl,rfl,rfl,rfl,congrArg (fun z => AV.s (.int .i64 z)) (by omega),trivial⟩) ?_;have wj : IntKind.i64.wrap ((j : Int) - 1) = (j : Int) - 1:=wrap64_in (by omega) (by rcases hI with h | h <;> omega)
        have hne : ((i : Int) == (a.length : Int)) = false:=by
         cases e : ((i : Int) == (a.length : Int)) with
         | false => rfl
         | true => have:=eq_of_beq e; omega
        refine zAa ?_;refine zAk ?_;refine zAk ?_;refine zAa ?_;refine zAb [] [140,141] rfl ?_;intro n1 hn1;obtain rfl : (a.length : Int) = n1:=(hn1.trans (congrArg (fun m : Nat => (m : Int)) (rlen Nd.encs_eq a))).symm;intro b1 hb1;obtain rfl : false = b1:=(hb1.trans hne).symm;show Tri _ _ _ _;refine zAe rfl (fun h => by cases h) (fun _ => ?_)
        refine zAa ?_;refine zAb [] [151,152] rfl ?_;intro n1 hn1;obtain rfl : (a.length : Int) = n1:=(hn1.trans (congrArg (fun m : Nat => (m : Int)) (rlen Nd.encs_eq a))).symm;intro b1 hb1;obtain rfl : false = b1:=(hb1.trans hne).symm;show Tri _ _ _ _;refine zAe rfl (fun h => by cases h) (fun _ => ?_)
        refine zAa ?_;refine zAb [] [178] rfl ?_;intro n1 hn1;obtain rfl : (b.length : Int) = n1:=(hn1.trans (congrArg (fun m : Nat => (m : Int)) (rlen Nd.encs_eq b))).symm;show Tri _ _ _ _;have hlt1 : i < (nils i ++ [AV.orow 4] :: zAR (r1 :: L)).length :=(by simp [nils]);have hlt2 : i + 1 < (nils i ++ [AV.orow 4] :: zAR (r1 :: L)).length :=(by simp [nils,zAR]);have hlt3 : i < (nils i ++ [AV.orow 5] :: zAR P).length :=(by simp [nils]);refine zAe rfl (fun hb2 => ?_) (fun hb2 => ?_)
        ·have hj : j = b.length:=Int.ofNat.inj (eq_of_beq hb2)
         obtain ⟨rfl,rfl⟩ : rd = [] ∧ sd = []:=by
          rcases hI with ⟨_,h1,h2⟩ | ⟨h,_⟩
          ·exact ⟨h1,h2⟩
          ·omega
         have hlr : j + 1 = r1.length :=(by omega);have hv : r1[j]? = some (r1[j]'(by omega)):=List.getElem?_eq_getElem _;have hdr : r1.drop j = [r1[j]'(by omega)] :=(by rw [List.drop_eq_getElem_cons (show j < r1.length by omega),List.drop_eq_nil_of_le (by omega)]);generalize r1[j]'(by omega) = v at hv hdr;refine zAz (by exact tokW) (by exact gok) (by exact mixed) [] [189,193,198] [1,3,4,7,10,11,16,21,22] rfl (by decide +kernel) ?_;refine And.intro ⟨Int.natCast_nonneg _,Int.ofNat_lt.2 hlt1⟩ ?_;refine And.intro hlt1 ⟨_,zDG,?_⟩
         intro z hz;obtain rfl : ((i + 1 : Nat) : Int) = z:=(hz.trans (zAL (by omega))).symm;refine And.intro ⟨Int.natCast_nonneg _,Int.ofNat_lt.2 hlt2⟩ ?_;refine And.intro hlt2 ⟨_,zID,?_⟩
         refine And.intro ⟨Int.natCast_nonneg _,Int.ofNat_lt.2 (by rw [zFQ]; omega)⟩ ?_;intro r hr;obtain rfl : [S.int .i64 v] = r:=(hr.trans (zC1 hv)).symm;refine And.intro ⟨Int.natCast_nonneg _,Int.ofNat_lt.2 (by rw [zFQ]; omega)⟩ ?_;intro r hr;obtain rfl : [S.int .i64 f] = r:=(hr.trans (zC1 hf)).symm;have hlt4 : j < (List.map (irow .i64) (List.replicate (j + 1) 0 ++ ([] : List Int))).length :=(by simp);refine And.intro ⟨Int.natCast_nonneg _,Int.ofNat_lt.2 hlt4⟩ ?_;refine And.intro hlt4 ?_;show Tri _ _ _ _;refine zAb [] [] rfl ?_
         refine ⟨(j,[IntKind.i64.wrap (v + f)],[]),.inr ⟨by omega,by rw [hdr,List.drop_eq_nil_of_le (show b.length ≤ j by omega),List.drop_eq_nil_of_le (show other.length ≤ j by omega)]; rfl⟩,Le.rename [(0,0),(1,1),(2,2),(3,3),(4,4),(5,5)] _ _ 6 ⟨rfl,rfl,rfl,rfl,rfl,congrArg (fun z => AV.s (.int .i64 z)) wj,trivial⟩ ⟨rfl,⟨_,rfl,rfl⟩,rfl,⟨_,rfl,rfl⟩,rfl,⟨_,rfl,zFX _ rfl⟩,rfl,⟨_,rfl,zFX _ rfl⟩,rfl,⟨_,rfl,?_⟩,rfl,⟨_,rfl,?_⟩,trivial⟩ rfl rfl rfl (by simp only [ltH,Ob.lt,zFR,lt_1]; rfl) rfl,Nat.lt_succ_self j⟩
         ·refine congrArg (Ob.row 3 1) ((zHF (l:=List.replicate (j + 1) 0 ++ []) (j:=j) (v:=0) (x:=IntKind.i64.wrap (v + f)) (by simp)).trans (congrArg (List.map (irow .i64)) (zF1 _)))
         ·show Ob.row 3 1 _ = Ob.row 3 1 _;rw [Nat.min_eq_right (show b.length ≤ j + 1 by omega),Nat.min_eq_right (show b.length ≤ j by omega)]
        ·have hj : j ≠ b.length:=fun e => by rw [e] at hb2; simp at hb2
         obtain ⟨hj2,hd⟩ : j + 1 ≤ b.length ∧ zAD (zBC n) x f (b.drop (j + 1)) (other.drop (j + 1)) (r1.drop (j + 1)) = some (rd,sd):=by
          rcases hI with ⟨h,_⟩ | h
          ·omega
          ·exact h
         obtain ⟨q,hq⟩:=row_drop hrow j (by omega)
         have hqq:=hq;have hv : r1[j]? = some (r1[j]'(by omega)):=List.getElem?_eq_getElem _;have hv2 : r1[j + 1]? = some (r1[j + 1]'(by omega)):=List.getElem?_eq_getElem _;have ho : other[j]? = some (other[j]'(by omega)):=List.getElem?_eq_getElem _;have hy : b[j]? = some (b[j]'(by omega)):=List.getElem?_eq_getElem _;rw [List.drop_eq_getElem_cons (show j < b.length by omega),List.drop_eq_getElem_cons (show j < other.length by omega),List.drop_eq_getElem_cons (show j < r1.length by omega),List.drop_eq_getElem_cons (show j + 1 < r1.length by omega)] at hq;rw [List.drop_eq_getElem_cons (show j + 1 < r1.length by omega)] at hd;generalize r1[j]'(by omega) = v at hv hq
         generalize r1[j + 1]'(by omega) = v2 at hv2 hq hd;generalize other[j]'(by omega) = o at ho hq;generalize b[j]'(by omega) = y at hy hq;simp only [zAD,hd] at hq;obtain ⟨p0,hp0,hq⟩:=zAc hq;cases hp0;obtain ⟨c,hc,hq⟩:=zAc hq;have hrdl:=zP8 hd;cases rd with
         | nil => simp at hrdl
         | cons w ws =>
         simp only [List.headD_cons,Option.some.injEq] at hq;have hmj : min (j + 1) b.length = j + 1:=Nat.min_eq_left hj2;have hmj' : min j b.length = j:=Nat.min_eq_left (by omega)
         refine zAa ?_;refine zAz (by exact tokW) (by exact gok) (by exact mixed) [] [62,65] [1,3,4,13,14] rfl (by decide +kernel) ?_;refine And.intro ⟨Int.natCast_nonneg _,Int.ofNat_lt.2 hlt3⟩ ?_;refine And.intro hlt3 ⟨_,zDG,?_⟩
         refine And.intro ⟨Int.natCast_nonneg _,Int.ofNat_lt.2 (by rw [rlen Nd.encs_eq]; omega)⟩ ?_;intro r hr;obtain rfl : Nd.enc x = r:=(hr.trans (zEu ha)).symm;refine And.intro ⟨Int.natCast_nonneg _,Int.ofNat_lt.2 (by rw [rlen Nd.encs_eq]; omega)⟩ ?_;intro r hr;obtain rfl : Nd.enc y = r:=(hr.trans (zEu hy)).symm;refine ⟨_,⟨_,_,_,hc,rfl,rfl⟩,?_⟩
         have hlt5 : j < (List.map (irow .i64) (List.replicate (min (j + 1) b.length) 0 ++ sd)).length :=(by rw [hmj]; simp; omega);refine And.intro ⟨Int.natCast_nonneg _,Int.ofNat_lt.2 hlt5⟩ ?_;refine And.intro hlt5 ?_;show Tri _ _ _ _
         refine zAm (σ':=⟨ofL [(0,.s (.sl 4 (Nd.encs a))),(1,.s (.sl 4 (Nd.encs b))),(4,.op 0 0),(5,.op 1 0),(6,.s (.int .i64 (i : Int))),(7,.s (.int .i64 (j : Int)))],ofH [(0,.box 66 [.nl 1,.nl 1,.nl 1,.nl 1]),(1,.box 66 [.orow 2,.orow 3,.s (.sl 1 (first.map (irow .i64))),.s (.sl 1 (other.map (irow .i64)))]),(2,.arow 43 1 (nils i ++ [.orow 4] :: zAR (r1 :: L))),(3,.arow 43 1 (nils i ++ [.orow 5] :: zAR P)),(4,.row 3 1 ((List.replicate (j + 1) 0 ++ w :: ws).map (irow .i64))),(5,.row 3 1 ((List.replicate j 0 ++ c :: sd).map (irow .i64)))],6⟩) (Le.rename [(0,0),(1,1),(2,2),(3,3),(4,4),(5,5)] _ _ 6 ⟨rfl,rfl,rfl,rfl,rfl,rfl,trivial⟩ ⟨rfl,⟨_,rfl,rfl⟩,rfl,⟨_,rfl,rfl⟩,rfl,⟨_,rfl,zFX _ rfl⟩,rfl,⟨_,rfl,zFX _ rfl⟩,rfl,⟨_,rfl,rfl⟩,rfl,⟨_,rfl,?_⟩,trivial⟩ rfl rfl rfl (by simp only [ltH,Ob.lt,zFR,lt_1]; rfl) rfl) ?_
         ·refine congrArg (Ob.row 3 1) ((zHF (l:=List.replicate (min (j + 1) b.length) 0 ++ sd) (j:=j) (v:=0) (x:=c) (by rw [hmj]; simp [List.getElem?_append])).trans (congrArg (List.map (irow .i64)) ?_))
          rw [hmj]; exact zF1 _
         have g4 : (List.replicate (j + 1) 0 ++ w :: ws)[j + 1]? = some w :=(by simp [List.getElem?_append]);have hlt4 : j + 1 < (List.map (irow .i64) (List.replicate (j + 1) 0 ++ w :: ws)).length :=(by simp);have hlt4' : j < (List.map (irow .i64) (List.replicate (j + 1) 0 ++ w :: ws)).length :=(by simp; omega);have g5 : (List.replicate j 0 ++ c :: sd)[j]? = some c :=(by simp [List.getElem?_append]);have hlt6 : j < (List.map (irow .i64) (List.replicate j 0 ++ c :: sd)).length :=(by simp);refine zAa ?_;refine zAz (by exact tokW) (by exact gok) (by exact mixed) [] [74,80,86,90,95] [1,3,4,7,8,10,16,19,20,25] rfl (by decide +kernel) ?_
         refine And.intro ⟨Int.natCast_nonneg _,Int.ofNat_lt.2 hlt1⟩ ?_;refine And.intro hlt1 ⟨_,zDG,?_⟩
         intro z hz;obtain rfl : ((j + 1 : Nat) : Int) = z:=(hz.trans (zAL (by omega))).symm;refine And.intro ⟨Int.natCast_nonneg _,Int.ofNat_lt.2 hlt4⟩ ?_;refine And.intro hlt4 ⟨_,zC1 g4,?_⟩
         refine And.intro ⟨Int.natCast_nonneg _,Int.ofNat_lt.2 (by rw [zFQ]; omega)⟩ ?_;intro r hr;obtain rfl : [S.int .i64 o] = r:=(hr.trans (zC1 ho)).symm;intro z hz;obtain rfl : ((i + 1 : Nat) : Int) = z:=(hz.trans (zAL (by omega))).symm;refine And.intro ⟨Int.natCast_nonneg _,Int.ofNat_lt.2 hlt2⟩ ?_;refine And.intro hlt2 ⟨_,zID,?_⟩
         refine And.intro ⟨Int.natCast_nonneg _,Int.ofNat_lt.2 (by rw [zFQ]; omega)⟩ ?_;intro r hr;obtain rfl : [S.int .i64 v] = r:=(hr.trans (zC1 hv)).symm;refine And.intro ⟨Int.natCast_nonneg _,Int.ofNat_lt.2 (by rw [zFQ]; omega)⟩ ?_;intro r hr;obtain rfl : [S.int .i64 f] = r:=(hr.trans (zC1 hf)).symm;show Tri _ _ _ _;refine zAa ?_;refine zAa ?_;refine zAb [] [] rfl ?_;refine And.intro ⟨Int.natCast_nonneg _,Int.ofNat_lt.2 hlt3⟩ ?_;refine And.intro hlt3 ⟨_,zDG,?_⟩
         refine And.intro ⟨Int.natCast_nonneg _,Int.ofNat_lt.2 hlt6⟩ ?_;refine And.intro hlt6 ⟨_,zC1 g5,?_⟩
         show Tri _ _ _ _;refine zAp ⟨ofL [(0,.s (.sl 4 (Nd.encs a))),(1,.s (.sl 4 (Nd.encs b))),(4,.op 0 0),(5,.op 1 0),(6,.s (.int .i64 (i : Int))),(7,.s (.int .i64 (j : Int))),(8,.s (.int .i64 (q.1.headD 0)))],ofH [(0,.box 66 [.nl 1,.nl 1,.nl 1,.nl 1]),(1,.box 66 [.orow 2,.orow 3,.s (.sl 1 (first.map (irow .i64))),.s (.sl 1 (other.map (irow .i64)))]),(2,.arow 43 1 (nils i ++ [.orow 4] :: zAR (r1 :: L))),(3,.arow 43 1 (nils i ++ [.orow 5] :: zAR P)),(4,.row 3 1 ((List.replicate (j + 1) 0 ++ w :: ws).map (irow .i64))),(5,.row 3 1 ((List.replicate j 0 ++ c :: sd).map (irow .i64)))],6⟩ ?_ (fun σ' hle => ?_)
         ·refine zAe rfl (fun hb3 => ?_) (fun hb3 => ?_)
          ·refine zAz (by exact tokW) (by exact gok) (by exact mixed) [] [112,116,117] [2,5,6,12,14,15,17,18] rfl (by decide +kernel) ?_;intro z hz;obtain rfl : ((i + 1 : Nat) : Int) = z:=(hz.trans (zAL (by omega))).symm;refine And.intro ⟨Int.natCast_nonneg _,Int.ofNat_lt.2 hlt2⟩ ?_;refine And.intro hlt2 ⟨_,zID,?_⟩
           intro z hz;obtain rfl : ((j + 1 : Nat) : Int) = z:=(hz.trans (zAL (by omega))).symm;refine And.intro ⟨Int.natCast_nonneg _,Int.ofNat_lt.2 (by rw [zFQ]; omega)⟩ ?_;intro r hr;obtain rfl : [S.int .i64 v2] = r:=(hr.trans (zC1 hv2)).symm;refine And.intro ⟨Int.natCast_nonneg _,Int.ofNat_lt.2 hlt3⟩ ?_;refine And.intro hlt3 ⟨_,zDG,?_⟩
           refine And.intro ⟨Int.natCast_nonneg _,Int.ofNat_lt.2 hlt6⟩ ?_;refine And.intro hlt6 ⟨_,zC1 g5,?_⟩
           refine Le.rename [(0,0),(1,1),(2,2),(3,3),(4,4),(5,5)] _ _ 6 ⟨rfl,rfl,rfl,rfl,rfl,rfl,?_,trivial⟩ ⟨rfl,⟨_,rfl,rfl⟩,rfl,⟨_,rfl,rfl⟩,rfl,⟨_,rfl,zFX _ rfl⟩,rfl,⟨_,rfl,zFX _ rfl⟩,rfl,⟨_,rfl,rfl⟩,rfl,⟨_,rfl,rfl⟩,trivial⟩ rfl rfl rfl (by simp only [ltH,Ob.lt,zFR,lt_1]; rfl) rfl;have h0 : 0 ≤ c:=of_decide_eq_true hb3;rw [if_pos h0] at hq;rw [← hq]
           rfl
          ·refine zAj ?_;refine Le.rename [(0,0),(1,1),(2,2),(3,3),(4,4),(5,5)] _ _ 6 ⟨rfl,rfl,rfl,rfl,rfl,rfl,?_,trivial⟩ ⟨rfl,⟨_,rfl,rfl⟩,rfl,⟨_,rfl,rfl⟩,rfl,⟨_,rfl,zFX _ rfl⟩,rfl,⟨_,rfl,zFX _ rfl⟩,rfl,⟨_,rfl,rfl⟩,rfl,⟨_,rfl,rfl⟩,trivial⟩ rfl rfl rfl (by simp only [ltH,Ob.lt,zFR,lt_1]; rfl) rfl;have h0 : ¬ 0 ≤ c:=of_decide_eq_false hb3;rw [if_neg h0] at hq;rw [← hq]
           rfl
         ·show Tri _ _ _ _;refine zAm hle ?_;refine zAb [] [] rfl ?_;refine And.intro ⟨Int.natCast_nonneg _,Int.ofNat_lt.2 hlt1⟩ ?_;refine And.intro hlt1 ⟨_,zDG,?_⟩
          refine And.intro ⟨Int.natCast_nonneg _,Int.ofNat_lt.2 hlt4'⟩ ?_;refine And.intro hlt4' ?_;show Tri _ _ _ _;refine zAb [] [] rfl ?_;refine ⟨(j,q.1,q.2),.inr ⟨by omega,hqq⟩,Le.rename [(0,0),(1,1),(2,2),(3,3),(4,4),(5,5)] _ _ 6 ⟨rfl,rfl,rfl,rfl,rfl,congrArg (fun z => AV.s (.int .i64 z)) wj,trivial⟩ ⟨rfl,⟨_,rfl,rfl⟩,rfl,⟨_,rfl,rfl⟩,rfl,⟨_,rfl,zFX _ rfl⟩,rfl,⟨_,rfl,zFX _ rfl⟩,rfl,⟨_,rfl,?_⟩,rfl,⟨_,rfl,?_⟩,trivial⟩ rfl rfl rfl (by simp only [ltH,Ob.lt,zFR,lt_1]; rfl) rfl,Nat.lt_succ_self j⟩
          ·refine congrArg (Ob.row 3 1) ((zHF (l:=List.replicate (j + 1) 0 ++ w :: ws) (j:=j) (v:=0) (x:=q.1.headD 0) (by simp [List.getElem?_append])).trans (congrArg (List.map (irow .i64)) ((zF1 _).trans ?_)))
           rw [← hq]; rfl
          ·show Ob.row 3 1 _ = Ob.row 3 1 _;rw [hmj',← hq]
       ·refine zAC ?_;have hk : k = 0:=by
         rw [h51] at hb;have:=of_decide_eq_false hb; omega
        subst hk;rcases hI with ⟨h1,_⟩ | ⟨_,h1⟩
        ·omega
        ·simp only [List.drop_zero,hrow,Option.some.injEq,Prod.mk.injEq] at h1;obtain ⟨rfl,rfl⟩:=h1;refine Le.rename [(0,0),(1,1),(2,2),(3,3),(4,4),(5,5)] _ _ 6 ⟨rfl,rfl,rfl,rfl,rfl,trivial⟩ ⟨rfl,⟨_,rfl,rfl⟩,rfl,⟨_,rfl,rfl⟩,rfl,⟨_,rfl,zFX _ rfl⟩,rfl,⟨_,rfl,zFX _ rfl⟩,rfl,⟨_,rfl,rfl⟩,rfl,⟨_,rfl,?_⟩,trivial⟩ rfl rfl rfl (by simp only [ltH,Ob.lt,zFR,lt_1]; rfl) rfl;show Ob.row 3 1 _ = Ob.row 3 1 _;rw [Nat.zero_min]; rfl
     ·show Tri _ _ _ _;refine zAm hle ?_;refine zAb [] [] rfl ?_;refine ⟨(i,rr :: r1 :: L,ss :: P),.inr ⟨by omega,hq0⟩,
       Le.trans (Le.giveRow 4 rfl) (Le.trans (Le.giveRow 5 rfl) (Le.rename [(0,0),(1,1),(2,2),(3,3)] _ _ 4 ⟨rfl,rfl,rfl,rfl,congrArg (fun z => AV.s (.int .i64 z)) (wrap64_in (by omega) (by omega)),trivial⟩ ⟨rfl,⟨_,rfl,rfl⟩,rfl,⟨_,rfl,rfl⟩,rfl,⟨_,rfl,?_⟩,rfl,⟨_,rfl,?_⟩,trivial⟩ rfl rfl rfl (by simp only [ltH,Ob.lt,zFR,lt_1]; rfl) rfl)),Nat.lt_succ_self _⟩
      ·simp [Ob.frz,Ob.ren,nils,zAR,AV.frzAll,AV.frz,AV.renAll,AV.ren]
      ·rw [Nat.min_eq_left (show i ≤ a.length by omega)]
       simp [Ob.frz,Ob.ren,nils,zAR,AV.frzAll,AV.frz,AV.renAll,AV.ren]
   ·refine zAC ?_;have hk : k = 0:=by
     rw [h26] at hb;have:=of_decide_eq_false hb; omega
    subst hk;rcases hI with ⟨h1,_⟩ | ⟨_,h1⟩
    ·omega
    ·simp only [List.drop_zero,hp,Option.some.injEq] at h1;subst h1;exact Le.rename [(0,0),(1,1),(2,2),(3,3)] _ _ 4 ⟨rfl,rfl,rfl,rfl,trivial⟩ ⟨rfl,⟨_,rfl,rfl⟩,rfl,⟨_,rfl,rfl⟩,rfl,⟨_,rfl,congrArg (Ob.arow 43 1) (zE2 _)⟩,rfl,⟨_,rfl,congrArg (Ob.arow 43 1) ((congrArg (fun m => (nils m ++ zAR P).map (AV.renAll _)) (Nat.zero_min _)).trans (zE2 _))⟩,trivial⟩ rfl rfl rfl (by simp only [ltH,Ob.lt,lt_p]; rfl) rfl
 ·show Tri _ _ _ _;refine zAm hle ?_;refine zAa ?_;refine zAb [] [] rfl ?_;show Tri _ _ _ _;refine zAv ?_;have hy:=Option.some.inj h;subst hy;unfold zAO;refine ⟨_,Le.giveWhole [(4,.s (.pt (zAs (p.1,p.2,first,other))))] ⟨.box rfl rfl fun i x s hx hs => ?_,trivial⟩ rfl,rfl,rfl⟩
  match i,hx,hs with
  | 0,hx,hs => cases hx; cases hs; exact zO3 rfl
  | 1,hx,hs => cases hx; cases hs; exact zO3 rfl
  | 2,hx,hs => cases hx; cases hs; exact .s _
  | 3,hx,hs => cases hx; cases hs; exact .s _
  | i + 4,hx,hs => simp at hx
theorem zIT (n : Nat) (ih_diff_fill : PSound Tryz.prog 37 (zAG (zDS n))) (ih_diff_pairing : PSound Tryz.prog 62 (zAG (zDg n))) : PSound Tryz.prog 62 (zAG (zDg (n + 1))):=by
 have gok : ∀ f s,look? f [(37,zAG (zDS n))] = some s → PSound Tryz.prog f s:=zAB (by
  simp only [List.forall_mem_cons]
  exact ⟨ih_diff_fill,by simp⟩)
 refine zAS tokW Tryz.call62 Tryz.func62 rfl (fun xs r h => by obtain ⟨_,_,_,_,rfl,_⟩:=h; show 2 ≤ 83; decide) 83 rfl ?_;rintro xs r w0 G0 ⟨⟨a1_kind,a1_text,a1_cols,a1_kids⟩,⟨a2_kind,a2_text,a2_cols,a2_kids⟩,y0,h,rfl,rfl⟩ _;rw [zBC] at h;refine zAa ?_;refine zAb [] [] rfl ?_;show Tri _ _ _ _;refine zAa ?_;refine zAa ?_;obtain ⟨x3,hj,h⟩:=zAc h;refine zAp ⟨ofL [(0,.s (.pt [.int .i64 a1_kind,.str a1_text,.int .i64 a1_cols,.sl 4 (Nd.encs a1_kids)])),(1,.s (.pt [.int .i64 a2_kind,.str a2_text,.int .i64 a2_cols,.sl 4 (Nd.encs a2_kids)])),(39,.s (.bool x3))],fun _ => none,0⟩ ?_ (fun σ' hle => ?_)
 ·replace h:=hj;refine zAz (by exact tokW) (by exact gok) (by exact mixed) [] [16,27,32,37] [] rfl (by decide +kernel) ?_;intro b hb;cases b with
  | true =>
   replace h:=zAr hb.symm h;intro b hb;subst hb;cases h;exact (Le.forget _ ⟨rfl,rfl,rfl,trivial⟩)
  | false =>
   replace h:=zAq hb.symm h;intro b hb;cases b with
   | true =>
    replace h:=zAr hb.symm h;cases h;exact (Le.forget _ ⟨rfl,rfl,rfl,trivial⟩)
   | false =>
    replace h:=zAq hb.symm h;intro n4 hn4;obtain rfl : (a1_kids.length : Int) = n4:=(hn4.trans (congrArg (fun m : Nat => (m : Int)) (rlen Nd.encs_eq a1_kids))).symm;intro n5 hn5;obtain rfl : (a2_kids.length : Int) = n5:=(hn5.trans (congrArg (fun m : Nat => (m : Int)) (rlen Nd.encs_eq a2_kids))).symm;cases h;exact (Le.forget _ ⟨rfl,rfl,rfl,trivial⟩)
 ·show Tri _ _ _ _;refine zAm hle ?_;refine zAe rfl (fun hb => ?_) (fun hb => ?_)
  ·replace h:=zAr hb h;refine zAa ?_;refine zAb [] [] rfl ?_;show Tri _ _ _ _;refine zAv ?_;have hy:=Option.some.inj h;subst hy;unfold zAO;exact ⟨_,Le.refl _ _,rfl,rfl⟩
  ·replace h:=zAq hb h;refine zAj ?_;show Tri _ _ _ _;refine zAa ?_;refine zAb [] [] rfl ?_;show Tri _ _ _ _;refine zAa ?_;refine zAa ?_;refine zAz (by exact tokW) (by exact gok) (by exact mixed) [] [] [] rfl (by decide +kernel) ?_;show Tri _ _ _ _;obtain ⟨x6,hj,h⟩:=zAc h;refine zAp ⟨ofL [(0,.s (.pt [.int .i64 a1_kind,.str a1_text,.int .i64 a1_cols,.sl 4 (Nd.encs a1_kids)])),(1,.s (.pt [.int .i64 a2_kind,.str a2_text,.int .i64 a2_cols,.sl 4 (Nd.encs a2_kids)])),(5,.s (.int .i64 x6))],fun _ => none,0⟩ ?_ (fun σ' hle => ?_)
   ·replace h:=hj;refine zAe rfl (fun hb => ?_) (fun hb => ?_)
    ·replace h:=zAr hb h;refine zAb [] [] rfl ?_;cases h;exact (Le.forget _ ⟨rfl,rfl,rfl,trivial⟩)
    ·replace h:=zAq hb h;refine zAj ?_;cases h;exact (Le.forget _ ⟨rfl,rfl,rfl,trivial⟩)
   ·show Tri _ _ _ _;refine zAm hle ?_;refine zAa ?_;refine zAa ?_;refine zAb [] [53] rfl ?_;intro n7 hn7;obtain rfl : (a1_kids.length : Int) = n7:=(hn7.trans (congrArg (fun m : Nat => (m : Int)) (rlen Nd.encs_eq a1_kids))).symm;show Tri _ _ _ _;obtain ⟨x10,hl,h⟩:=zAc h;refine zAp ⟨ofL [(5,.s (.int .i64 x10))],fun _ => none,0⟩ ?_ (fun σ' hle => ?_)
    ·refine zAk (zAA (X:=Nat × Int × Int) (fun y => match y with | (k,x8,x9) => ⟨ofL [(0,.s (.pt [.int .i64 a1_kind,.str a1_text,.int .i64 a1_cols,.sl 4 (Nd.encs a1_kids)])),(1,.s (.pt [.int .i64 a2_kind,.str a2_text,.int .i64 a2_cols,.sl 4 (Nd.encs a2_kids)])),(5,.s (.int .i64 x8)),(53,.s (.int .i64 (a1_kids.length : Int))),(54,.s (.int .i64 x9))],fun _ => none,0⟩) (fun y => zBz (zBW n) a1_kids a2_kids y.1 y.2.1 y.2.2 = some x10) (fun y => y.1) (n,x6,0) hl ?_ ?_)
     ·exact (Le.forget _ ⟨rfl,rfl,rfl,rfl,rfl,trivial⟩)
     ·rintro ⟨k,x8,x9⟩ h;cases k with
      | zero => cases h
      | succ k =>
       replace h : zBz (zBW n) a1_kids a2_kids (k+1) x8 x9 = some x10:=h;rw [zBz] at h;refine zAa ?_;refine zAb [] [] rfl ?_;show Tri _ _ _ _;refine zAa ?_;refine zAe rfl (fun hb => ?_) (fun hb => ?_)
       ·replace h:=zAr hb h;refine zAj ?_;show Tri _ _ _ _;refine zAa ?_;refine zAk ?_;refine zAa ?_;refine zAb [] [] rfl ?_;show Tri _ _ _ _;refine zAz (by exact tokW) (by exact gok) (by exact mixed) [] [63,71,76,78] [] rfl (by decide +kernel) ?_;obtain ⟨⟨e11_kind,e11_text,e11_cols,e11_kids⟩,he11,h⟩:=zAc h;refine And.intro (zAw Nd.encs_eq he11).1 ?_;intro r12 hr12;obtain rfl : [.int .i64 e11_kind,.str e11_text,.int .i64 e11_cols,.sl 4 (Nd.encs e11_kids)] = r12:=(hr12.trans (zAw Nd.encs_eq he11).2.1).symm;obtain ⟨⟨e13_kind,e13_text,e13_cols,e13_kids⟩,he13,h⟩:=zAc h;refine And.intro (zAw Nd.encs_eq he13).1 ?_
        intro r14 hr14;obtain rfl : [.int .i64 e13_kind,.str e13_text,.int .i64 e13_cols,.sl 4 (Nd.encs e13_kids)] = r14:=(hr14.trans (zAw Nd.encs_eq he13).2.1).symm;obtain ⟨⟨y15_least,y15_pair,y15_first,y15_other⟩,hy15,h⟩:=zAc h;refine ⟨_,⟨_,_,_,hy15,rfl,rfl⟩,?_⟩
        obtain ⟨e16,he16,h⟩:=zAc h;refine And.intro (zAw (fun _ => rfl) he16).1 ?_;intro r17 hr17;obtain rfl : [.sl 1 ((List.map (irow .i64)) e16)] = r17:=(hr17.trans (zAw (fun _ => rfl) he16).2.1).symm;obtain ⟨e18,he18,h⟩:=zAc h;refine And.intro (zAw (fun _ => rfl) he18).1 ?_;intro r19 hr19;obtain rfl : [.int .i64 e18] = r19:=(hr19.trans (zAw (fun _ => rfl) he18).2.1).symm;show Tri _ _ _ _;refine zAb [] [] rfl ?_;refine ⟨(k,IntKind.i64.wrap (x8 + e18),IntKind.i64.wrap (x9 + 1)),h,(Le.forget _ ⟨rfl,rfl,rfl,rfl,rfl,trivial⟩),Nat.lt_succ_self k⟩
       ·replace h:=zAq hb h;refine zAC ?_;cases h;exact (Le.forget _ ⟨rfl,trivial⟩)
    ·show Tri _ _ _ _;refine zAm hle ?_;refine zAa ?_;refine zAb [] [] rfl ?_;show Tri _ _ _ _;refine zAv ?_;have hy:=Option.some.inj h;subst hy;unfold zAO;exact ⟨_,Le.refl _ _,rfl,rfl⟩
theorem zLa : ∀ n,PSound Tryz.prog 37 (zAG (zDS n)) ∧ PSound Tryz.prog 62 (zAG (zDg n)):=by
 intro n
 induction n with
 | zero =>
  refine ⟨?_,?_⟩
  ·exact zBw Tryz.call37 (fun xs r h => by obtain ⟨_,_,_,h,_⟩:=h; rw [zBW] at h; cases h)
  ·exact zBw Tryz.call62 (fun xs r h => by obtain ⟨_,_,_,h,_⟩:=h; rw [zBC] at h; cases h)
 | succ n ih =>
  obtain ⟨ih_diff_fill,ih_diff_pairing⟩:=ih;exact ⟨zLw n ih_diff_fill ih_diff_pairing,zIT n ih_diff_fill ih_diff_pairing⟩
def zHl : zAx:=zAG fun xs r => ∃ n,zDS n xs r
theorem zJk : PSound Tryz.prog 37 zHl:=zB3 (fun n => (zLa n).1)
def zEp (xs : List AV) (os : List Ob) (x : AV) (os' : List (Option Ob)) : Prop:=∃ (a0 : List UInt8) (a1 : List UInt8) (y0 : Int) (y1 : Unit) (z1 : List UInt8),zAo a0 a1 = some (y0,y1,z1) ∧ xs = [.op 0 39,.s (.str a0)] ∧ os = [.box 137 (zA2 (.op 0 39) (.orow 1)),.row 5 1 (List.map brow a1)] ∧ x = .tup [.s (.int .i64 y0),.junk] ∧ os' = [some (.box 137 (zA2 (.op 0 39) (.orow 2))),none,some (.row 5 1 (List.map brow z1))]
def zBJ : zAx:=zCl (fun xs os x os' => zEp xs os x os')
theorem zCr : PSound Tryz.prog 117 zBJ:=by
 have gok : ∀ f s,look? f [(119,zBU)] = some s → PSound Tryz.prog f s:=zAB (by
  simp only [List.forall_mem_cons]
  exact ⟨zCP,by simp⟩)
 refine PSound.withNil (zGB tokW Tryz.call117 Tryz.func117 rfl (fun xs os x os' h => by obtain ⟨_,_,_,_,_,_,rfl,rfl,_,rfl⟩:=h; exact ⟨by show 2 ≤ 19; decide,by show 2 ≤ 3; decide⟩) 19 rfl ?_) _;rintro xs os x os' w0 G0 B0 ⟨s1,b2,y0,y1,z1,h,rfl,rfl,rfl,rfl⟩ _;rw [zAo] at h;refine zAa ?_;refine zAb [] [] rfl ?_;show Tri _ _ _ _;refine zAa ?_;refine zAb [] [] rfl ?_;obtain ⟨b3,hb3,h⟩:=zAc h;refine ⟨_,_,⟨_,_,hb3,rfl,rfl,rfl,rfl⟩,?_⟩
 show Tri _ _ _ _;refine zAa ?_;refine zAb [14] [] rfl ?_;obtain ⟨hq,h⟩:=zAJ h;refine And.intro (show (((List.map brow) b3).length + (List.map brow s1).length) * 1 ≤ 140737488355328 ∧ ((List.map brow) b3).length + (List.map brow s1).length ≤ 9223372036854775807 from by simp only [List.length_append,List.length_cons,List.length_nil,List.length_map,rlen (fun _ => rfl)] at hq ⊢; omega) ?_;show Tri _ _ _ _
 refine zAm (Le.rename [(0,0),(3,2)] [(1,.s (.str s1))] [(0,.box 137 (zA2 (.op 0 39) (.orow 2))),(2,.row 5 1 ((List.map brow) (b3 ++ s1)))] 3 ⟨rfl,trivial⟩ ⟨rfl,⟨_,rfl,rfl⟩,rfl,⟨_,rfl,congrArg (Ob.row 5 1) (by simp [List.map_append,List.map_take,List.map_drop,irow,brow,zAF,List.map_cons,List.map_nil,zAy,Nd.encs_eq,Nd.enc,zAh,zAg,zAi,zAs,zAu])⟩,trivial⟩ rfl rfl rfl rfl rfl) ?_;refine zAa ?_;refine zAb [] [] rfl ?_;show Tri _ _ _ _;refine zAv ?_;obtain ⟨hj1,hk1⟩:=Prod.mk.inj (Option.some.inj h)
 subst hj1;obtain ⟨hj2,hk2⟩:=Prod.mk.inj hk1;subst hj2;subst hk2;unfold zCM;exact ⟨_,(Le.rename [(0,0),(2,2)] [(4,.s (.int .i64 (s1.length : Int)))] [(0,.box 137 (zA2 (.op 0 39) (.orow 2))),(2,.row 5 1 ((List.map brow) (b3 ++ s1)))] 3 ⟨rfl,trivial⟩ ⟨rfl,⟨_,rfl,rfl⟩,rfl,⟨_,rfl,rfl⟩,trivial⟩ rfl rfl rfl rfl rfl),rfl,rfl,rfl,rfl,rfl,rfl,trivial⟩
def zEN (xs : List AV) (os : List Ob) (x : AV) (os' : List (Option Ob)) : Prop:=∃ (a0 : UInt8) (a1 : List UInt8) (y0 : Unit) (z1 : List UInt8),zAI a0 a1 = some (y0,z1) ∧ xs = [.op 0 39,.s (.int .u8 (a0.toNat : Int))] ∧ os = [.box 137 (zA2 (.op 0 39) (.orow 1)),.row 5 1 (List.map brow a1)] ∧ x = .junk ∧ os' = [some (.box 137 (zA2 (.op 0 39) (.orow 2))),none,some (.row 5 1 (List.map brow z1))]
def zBp : zAx:=zCl (fun xs os x os' => zEN xs os x os')
theorem zBO : PSound Tryz.prog 98 zBp:=by
 have gok : ∀ f s,look? f [(119,zBU)] = some s → PSound Tryz.prog f s:=zAB (by
  simp only [List.forall_mem_cons]
  exact ⟨zCP,by simp⟩)
 refine PSound.withNil (zGB tokW Tryz.call98 Tryz.func98 rfl (fun xs os x os' h => by obtain ⟨_,_,_,_,_,rfl,rfl,_,rfl⟩:=h; exact ⟨by show 2 ≤ 17; decide,by show 2 ≤ 3; decide⟩) 17 rfl ?_) _;rintro xs os x os' w0 G0 B0 ⟨c1,b2,y0,z1,h,rfl,rfl,rfl,rfl⟩ _;rw [zAI] at h;refine zAa ?_;refine zAb [] [] rfl ?_;show Tri _ _ _ _;refine zAa ?_;refine zAb [] [] rfl ?_;obtain ⟨b3,hb3,h⟩:=zAc h;refine ⟨_,_,⟨_,_,hb3,rfl,rfl,rfl,rfl⟩,?_⟩
 show Tri _ _ _ _;refine zAa ?_;refine zAb [14] [13] rfl ?_;intro r4 hr4;obtain rfl : (List.map brow) [c1] = r4:=(hr4.trans (by simp [List.map_append,List.map_take,List.map_drop,irow,brow,zAF,List.map_cons,List.map_nil,zAy,Nd.encs_eq,Nd.enc,zAh,zAg,zAi,zAs,zAu])).symm;obtain ⟨hq,h⟩:=zAJ h
 refine And.intro (show (((List.map brow) b3).length + ((List.map brow) [c1]).length) * 1 ≤ 140737488355328 ∧ ((List.map brow) b3).length + ((List.map brow) [c1]).length ≤ 9223372036854775807 from by simp only [List.length_append,List.length_cons,List.length_nil,List.length_map,rlen (fun _ => rfl)] at hq ⊢; omega) ?_;show Tri _ _ _ _
 refine zAm (Le.rename [(0,0),(3,2)] [] [(0,.box 137 (zA2 (.op 0 39) (.orow 2))),(2,.row 5 1 ((List.map brow) (b3 ++ [c1])))] 3 trivial ⟨rfl,⟨_,rfl,rfl⟩,rfl,⟨_,rfl,congrArg (Ob.row 5 1) (by simp [List.map_append,List.map_take,List.map_drop,irow,brow,zAF,List.map_cons,List.map_nil,zAy,Nd.encs_eq,Nd.enc,zAh,zAg,zAi,zAs,zAu])⟩,trivial⟩ rfl rfl rfl rfl rfl) ?_;refine zAa ?_;refine zAb [] [] rfl ?_;show Tri _ _ _ _;refine zAv ?_;obtain ⟨hj1,hk1⟩:=Prod.mk.inj (Option.some.inj h)
 subst hj1;subst hk1;unfold zCM;exact ⟨_,(Le.rename [(0,0),(2,2)] [] [(0,.box 137 (zA2 (.op 0 39) (.orow 2))),(2,.row 5 1 ((List.map brow) (b3 ++ [c1])))] 3 trivial ⟨rfl,⟨_,rfl,rfl⟩,rfl,⟨_,rfl,rfl⟩,trivial⟩ rfl rfl rfl rfl rfl),rfl,rfl,rfl,rfl,rfl,rfl,trivial⟩
def zHL (n : Nat) (xs : List AV) (os : List Ob) (x : AV) (os' : List (Option Ob)) : Prop:=∃ (a0 : Nd) (a1 : List UInt8) (z1 : List UInt8),zBj n a0 a1 = some z1 ∧ xs = [.op 0 0,.s (.pt (Nd.enc a0))] ∧ os = [.box 137 (zA2 (.op 0 39) (.orow 1)),.row 5 1 (List.map brow a1)] ∧ x = .tup [] ∧ os' = [some (.box 137 (zA2 (.op 0 39) (.orow 2))),none,some (.row 5 1 (List.map brow z1))]
def zE5 : zAx:=zCl (fun xs os x os' => ∃ n,zHL n xs os x os')
theorem zHy : PSound Tryz.prog 97 zE5:=by
 have gok : ∀ f s,look? f [(117,zBJ),(118,zFh),(98,zBp)] = some s → PSound Tryz.prog f s:=zAB (by
  simp only [List.forall_mem_cons]
  exact ⟨zCr,zGz,zBO,by simp⟩)
 refine PSound.withNil (zGB tokW Tryz.call97 Tryz.func97 rfl (fun xs os x os' h => by obtain ⟨n,_,_,_,_,rfl,rfl,_,rfl⟩:=h; exact ⟨by show 2 ≤ 108; decide,by show 2 ≤ 3; decide⟩) 108 rfl ?_) _;rintro xs os x os' w0 G0 B0 ⟨n,⟨a1_kind,a1_text,a1_cols,a1_kids⟩,b2,z1,h,rfl,rfl,rfl,rfl⟩ _;rw [zBj] at h;refine zAa ?_;refine zAa ?_;obtain ⟨x3,hj,h⟩:=zAc h;refine zAp ⟨ofL [(0,.op 0 0),(1,.s (.pt [.int .i64 a1_kind,.str a1_text,.int .i64 a1_cols,.sl 4 (Nd.encs a1_kids)])),(16,.s (.bool x3))],ofH [(0,.box 137 (zA2 (.op 0 39) (.orow 1))),(1,.row 5 1 ((List.map brow) b2))],2⟩ ?_ (fun σ' hle => ?_)
 ·replace h:=hj;refine zAb [] [10] rfl ?_;intro b hb;cases b with
  | true =>
   replace h:=zAr hb.symm h;cases h;exact (Le.rename [(0,0),(1,1)] _ _ _ ⟨rfl,rfl,rfl,trivial⟩ ⟨rfl,⟨_,rfl,rfl⟩,rfl,⟨_,rfl,rfl⟩,trivial⟩ rfl rfl rfl rfl rfl)
  | false =>
   replace h:=zAq hb.symm h;cases h;exact (Le.rename [(0,0),(1,1)] _ _ _ ⟨rfl,rfl,rfl,trivial⟩ ⟨rfl,⟨_,rfl,rfl⟩,rfl,⟨_,rfl,rfl⟩,trivial⟩ rfl rfl rfl rfl rfl)
 ·show Tri _ _ _ _;refine zAm hle ?_;obtain ⟨l4,hj,h⟩:=zAc h;refine zAp ⟨ofL [(0,.op 0 0),(1,.s (.pt [.int .i64 a1_kind,.str a1_text,.int .i64 a1_cols,.sl 4 (Nd.encs a1_kids)]))],ofH [(0,.box 137 (zA2 (.op 0 39) (.orow 2))),(2,.row 5 1 ((List.map brow) l4))],3⟩ ?_ (fun σ' hle => ?_)
  ·replace h:=hj;refine zAe rfl (fun hb => ?_) (fun hb => ?_)
   ·replace h:=zAr hb h;refine zAz (by exact tokW) (by exact gok) (by exact mixed) [] [24] [12,13] rfl (by decide +kernel) ?_;intro vsp hvsp;cases hc : (a1_kind == 1) with
    | true =>
     replace h:=zAr hc h;obtain rfl : (1 : Int) = vsp:=(hvsp.trans (eq_of_beq hc)).symm;refine And.intro (by decide) ?_;obtain ⟨⟨y5,_,b7⟩,hy5,h⟩:=zAc h;refine ⟨_,_,⟨_,_,_,_,_,hy5,rfl,rfl,rfl,rfl⟩,?_⟩
     cases h;exact (Le.rename [(0,0),(2,2)] _ _ _ ⟨rfl,rfl,trivial⟩ ⟨rfl,⟨_,rfl,rfl⟩,rfl,⟨_,rfl,rfl⟩,trivial⟩ rfl rfl rfl rfl rfl)
    | false =>
     replace h:=zAq hc h;cases hc : (a1_kind == 2) with
     | true =>
      replace h:=zAr hc h;obtain rfl : (2 : Int) = vsp:=(hvsp.trans (eq_of_beq hc)).symm;refine And.intro (by decide) ?_;obtain ⟨⟨y8,_,b10⟩,hy8,h⟩:=zAc h;refine ⟨_,_,⟨_,_,_,_,_,hy8,rfl,rfl,rfl,rfl⟩,?_⟩
      cases h;exact (Le.rename [(0,0),(2,2)] _ _ _ ⟨rfl,rfl,trivial⟩ ⟨rfl,⟨_,rfl,rfl⟩,rfl,⟨_,rfl,rfl⟩,trivial⟩ rfl rfl rfl rfl rfl)
     | false =>
      replace h:=zAq hc h;cases hc : (a1_kind == 3) with
      | true =>
       replace h:=zAr hc h;obtain rfl : (3 : Int) = vsp:=(hvsp.trans (eq_of_beq hc)).symm;refine And.intro (by decide) ?_;obtain ⟨⟨y11,_,b13⟩,hy11,h⟩:=zAc h;refine ⟨_,_,⟨_,_,_,_,_,hy11,rfl,rfl,rfl,rfl⟩,?_⟩
       cases h;exact (Le.rename [(0,0),(2,2)] _ _ _ ⟨rfl,rfl,trivial⟩ ⟨rfl,⟨_,rfl,rfl⟩,rfl,⟨_,rfl,rfl⟩,trivial⟩ rfl rfl rfl rfl rfl)
      | false =>
       replace h:=zAq hc h;cases hc : (a1_kind == 4) with
       | true =>
        replace h:=zAr hc h;obtain rfl : (4 : Int) = vsp:=(hvsp.trans (eq_of_beq hc)).symm;refine And.intro (by decide) ?_;obtain ⟨⟨y14,_,b16⟩,hy14,h⟩:=zAc h;refine ⟨_,_,⟨_,_,_,_,_,hy14,rfl,rfl,rfl,rfl⟩,?_⟩
        cases h;exact (Le.rename [(0,0),(2,2)] _ _ _ ⟨rfl,rfl,trivial⟩ ⟨rfl,⟨_,rfl,rfl⟩,rfl,⟨_,rfl,rfl⟩,trivial⟩ rfl rfl rfl rfl rfl)
       | false =>
        replace h:=zAq hc h;cases hc : (a1_kind == 5) with
        | true =>
         replace h:=zAr hc h;obtain rfl : (5 : Int) = vsp:=(hvsp.trans (eq_of_beq hc)).symm;refine And.intro (by decide) ?_;obtain ⟨⟨y17,_,b19⟩,hy17,h⟩:=zAc h;refine ⟨_,_,⟨_,_,_,_,_,hy17,rfl,rfl,rfl,rfl⟩,?_⟩
         cases h;exact (Le.rename [(0,0),(2,2)] _ _ _ ⟨rfl,rfl,trivial⟩ ⟨rfl,⟨_,rfl,rfl⟩,rfl,⟨_,rfl,rfl⟩,trivial⟩ rfl rfl rfl rfl rfl)
        | false =>
         replace h:=zAq hc h;cases hc : (a1_kind == 6) with
         | true =>
          replace h:=zAr hc h;obtain rfl : (6 : Int) = vsp:=(hvsp.trans (eq_of_beq hc)).symm;refine And.intro (by decide) ?_;obtain ⟨⟨y20,_,b22⟩,hy20,h⟩:=zAc h;refine ⟨_,_,⟨_,_,_,_,_,hy20,rfl,rfl,rfl,rfl⟩,?_⟩
          cases h;exact (Le.rename [(0,0),(2,2)] _ _ _ ⟨rfl,rfl,trivial⟩ ⟨rfl,⟨_,rfl,rfl⟩,rfl,⟨_,rfl,rfl⟩,trivial⟩ rfl rfl rfl rfl rfl)
         | false =>
          replace h:=zAq hc h;cases hc : (a1_kind == 7) with
          | true =>
           replace h:=zAr hc h;obtain rfl : (7 : Int) = vsp:=(hvsp.trans (eq_of_beq hc)).symm;refine And.intro (by decide) ?_;obtain ⟨⟨y23,_,b25⟩,hy23,h⟩:=zAc h;refine ⟨_,_,⟨_,_,_,_,_,hy23,rfl,rfl,rfl,rfl⟩,?_⟩
           cases h;exact (Le.rename [(0,0),(2,2)] _ _ _ ⟨rfl,rfl,trivial⟩ ⟨rfl,⟨_,rfl,rfl⟩,rfl,⟨_,rfl,rfl⟩,trivial⟩ rfl rfl rfl rfl rfl)
          | false =>
           replace h:=zAq hc h;cases hc : (a1_kind == 8) with
           | true =>
            replace h:=zAr hc h;obtain rfl : (8 : Int) = vsp:=(hvsp.trans (eq_of_beq hc)).symm;refine And.intro (by decide) ?_;obtain ⟨⟨y26,_,b28⟩,hy26,h⟩:=zAc h;refine ⟨_,_,⟨_,_,_,_,_,hy26,rfl,rfl,rfl,rfl⟩,?_⟩
            cases h;exact (Le.rename [(0,0),(2,2)] _ _ _ ⟨rfl,rfl,trivial⟩ ⟨rfl,⟨_,rfl,rfl⟩,rfl,⟨_,rfl,rfl⟩,trivial⟩ rfl rfl rfl rfl rfl)
           | false =>
            replace h:=zAq hc h;cases hc : (a1_kind == 9) with
            | true =>
             replace h:=zAr hc h;obtain rfl : (9 : Int) = vsp:=(hvsp.trans (eq_of_beq hc)).symm;refine And.intro (by decide) ?_;obtain ⟨⟨y29,_,b31⟩,hy29,h⟩:=zAc h;refine ⟨_,_,⟨_,_,_,_,_,hy29,rfl,rfl,rfl,rfl⟩,?_⟩
             cases h;exact (Le.rename [(0,0),(2,2)] _ _ _ ⟨rfl,rfl,trivial⟩ ⟨rfl,⟨_,rfl,rfl⟩,rfl,⟨_,rfl,rfl⟩,trivial⟩ rfl rfl rfl rfl rfl)
            | false =>
             replace h:=zAq hc h;cases hc : (a1_kind == 10) with
             | true =>
              replace h:=zAr hc h;obtain rfl : (10 : Int) = vsp:=(hvsp.trans (eq_of_beq hc)).symm;refine And.intro (by decide) ?_;obtain ⟨⟨y32,_,b34⟩,hy32,h⟩:=zAc h;refine ⟨_,_,⟨_,_,_,_,_,hy32,rfl,rfl,rfl,rfl⟩,?_⟩
              cases h;exact (Le.rename [(0,0),(2,2)] _ _ _ ⟨rfl,rfl,trivial⟩ ⟨rfl,⟨_,rfl,rfl⟩,rfl,⟨_,rfl,rfl⟩,trivial⟩ rfl rfl rfl rfl rfl)
             | false =>
              replace h:=zAq hc h;cases hc : (a1_kind == 11) with
              | true =>
               replace h:=zAr hc h;obtain rfl : (11 : Int) = vsp:=(hvsp.trans (eq_of_beq hc)).symm;refine And.intro (by decide) ?_;obtain ⟨⟨y35,_,b37⟩,hy35,h⟩:=zAc h;refine ⟨_,_,⟨_,_,_,_,_,hy35,rfl,rfl,rfl,rfl⟩,?_⟩
               cases h;exact (Le.rename [(0,0),(2,2)] _ _ _ ⟨rfl,rfl,trivial⟩ ⟨rfl,⟨_,rfl,rfl⟩,rfl,⟨_,rfl,rfl⟩,trivial⟩ rfl rfl rfl rfl rfl)
              | false =>
               replace h:=zAq hc h;cases hc : (a1_kind == 12) with
               | true =>
                replace h:=zAr hc h;obtain rfl : (12 : Int) = vsp:=(hvsp.trans (eq_of_beq hc)).symm;refine And.intro (by decide) ?_;obtain ⟨⟨y38,_,b40⟩,hy38,h⟩:=zAc h;refine ⟨_,_,⟨_,_,_,_,_,hy38,rfl,rfl,rfl,rfl⟩,?_⟩
                cases h;exact (Le.rename [(0,0),(2,2)] _ _ _ ⟨rfl,rfl,trivial⟩ ⟨rfl,⟨_,rfl,rfl⟩,rfl,⟨_,rfl,rfl⟩,trivial⟩ rfl rfl rfl rfl rfl)
               | false =>
                replace h:=zAq hc h;cases h
   ·replace h:=zAq hb h;refine zAz (by exact tokW) (by exact gok) (by exact mixed) [] [] [9] rfl (by decide +kernel) ?_;obtain ⟨y41,hy41,h⟩:=zAc h;refine ⟨_,⟨_,_,hy41,rfl,rfl⟩,?_⟩
    obtain ⟨hq,h⟩:=zAJ h;refine And.intro (Nat.le_trans hq (by decide)) ?_;obtain ⟨⟨y42,_,b44⟩,hy42,h⟩:=zAc h;refine ⟨_,_,⟨_,_,_,_,_,hy42,rfl,rfl,rfl,rfl⟩,?_⟩
    cases h;exact (Le.rename [(0,0),(2,2)] _ _ _ ⟨rfl,rfl,trivial⟩ ⟨rfl,⟨_,rfl,rfl⟩,rfl,⟨_,rfl,rfl⟩,trivial⟩ rfl rfl rfl rfl rfl)
  ·show Tri _ _ _ _;refine zAm hle ?_;refine zAa ?_;refine zAa ?_;refine zAb [] [] rfl ?_;show Tri _ _ _ _;obtain ⟨l45,hj,h⟩:=zAc h;refine zAp ⟨ofL [(0,.op 0 0),(1,.s (.pt [.int .i64 a1_kind,.str a1_text,.int .i64 a1_cols,.sl 4 (Nd.encs a1_kids)]))],ofH [(0,.box 137 (zA2 (.op 0 39) (.orow 2))),(2,.row 5 1 ((List.map brow) l45))],3⟩ ?_ (fun σ' hle => ?_)
   ·replace h:=hj;refine zAe rfl (fun hb => ?_) (fun hb => ?_)
    ·replace h:=zAr hb h;refine zAa ?_;refine zAb [] [] rfl ?_;obtain ⟨⟨y46,_,b48⟩,hy46,h⟩:=zAc h;refine ⟨_,_,⟨_,_,_,_,_,hy46,rfl,rfl,rfl,rfl⟩,?_⟩
     show Tri _ _ _ _;refine zAa ?_;refine zAa ?_;refine zAb [] [] rfl ?_;show Tri _ _ _ _;obtain ⟨l51,hl,h⟩:=zAc h;refine zAp ⟨ofL [(0,.op 0 0),(1,.s (.pt [.int .i64 a1_kind,.str a1_text,.int .i64 a1_cols,.sl 4 (Nd.encs a1_kids)]))],ofH [(0,.box 137 (zA2 (.op 0 39) (.orow 2))),(2,.row 5 1 ((List.map brow) l51))],3⟩ ?_ (fun σ' hle => ?_)
     ·refine zAk (zAA (X:=Nat × Int × (List UInt8)) (fun y => match y with | (k,x49,l50) => ⟨ofL [(0,.op 0 0),(1,.s (.pt [.int .i64 a1_kind,.str a1_text,.int .i64 a1_cols,.sl 4 (Nd.encs a1_kids)])),(4,.s (.int .i64 x49))],ofH [(0,.box 137 (zA2 (.op 0 39) (.orow 2))),(2,.row 5 1 ((List.map brow) l50))],3⟩) (fun y => zAW a1_text y.1 y.2.1 y.2.2 = some l51) (fun y => y.1) (n,0,b48) hl ?_ ?_)
      ·exact (Le.rename [(0,0),(3,2)] _ _ _ ⟨rfl,rfl,rfl,trivial⟩ ⟨rfl,⟨_,rfl,rfl⟩,rfl,⟨_,rfl,rfl⟩,trivial⟩ rfl rfl rfl rfl rfl)
      ·rintro ⟨k,x49,l50⟩ h;cases k with
       | zero => cases h
       | succ k =>
        replace h : zAW a1_text (k+1) x49 l50 = some l51:=h;rw [zAW] at h;refine zAa ?_;refine zAa ?_;refine zAb [] [] rfl ?_;show Tri _ _ _ _;refine zAe rfl (fun hb => ?_) (fun hb => ?_)
        ·replace h:=zAr hb h;refine zAj ?_;show Tri _ _ _ _;refine zAa ?_;obtain ⟨l52,hj,h⟩:=zAc h;refine zAp ⟨ofL [(0,.op 0 0),(1,.s (.pt [.int .i64 a1_kind,.str a1_text,.int .i64 a1_cols,.sl 4 (Nd.encs a1_kids)])),(4,.s (.int .i64 x49))],ofH [(0,.box 137 (zA2 (.op 0 39) (.orow 2))),(2,.row 5 1 ((List.map brow) l52))],3⟩ ?_ (fun σ' hle => ?_)
         ·replace h:=hj;refine zAk ?_;refine zAa ?_;refine zAa ?_;obtain ⟨x53,hj,h⟩:=zAc h;refine zAp ⟨ofL [(0,.op 0 0),(1,.s (.pt [.int .i64 a1_kind,.str a1_text,.int .i64 a1_cols,.sl 4 (Nd.encs a1_kids)])),(4,.s (.int .i64 x49)),(74,.s (.bool x53))],ofH [(0,.box 137 (zA2 (.op 0 39) (.orow 2))),(2,.row 5 1 ((List.map brow) l50))],3⟩ ?_ (fun σ' hle => ?_)
          ·replace h:=hj;refine zAb [] [64,66,72] rfl ?_;obtain ⟨c54,hc54,h⟩:=zAc h;refine And.intro (zA4 hc54).1 ?_;intro v55 hv55;obtain rfl : (c54.toNat : Int) = v55:=(hv55.trans (zA4 hc54).2).symm;intro b hb;cases b with
           | true =>
            replace h:=zAr hb.symm h;cases h;exact (Le.rename [(0,0),(2,2)] _ _ _ ⟨rfl,rfl,rfl,rfl,trivial⟩ ⟨rfl,⟨_,rfl,rfl⟩,rfl,⟨_,rfl,rfl⟩,trivial⟩ rfl rfl rfl rfl rfl)
           | false =>
            replace h:=zAq hb.symm h;obtain ⟨c56,hc56,h⟩:=zAc h;refine And.intro (zA4 hc56).1 ?_;intro v57 hv57;obtain rfl : (c56.toNat : Int) = v57:=(hv57.trans (zA4 hc56).2).symm;cases h;exact (Le.rename [(0,0),(2,2)] _ _ _ ⟨rfl,rfl,rfl,rfl,trivial⟩ ⟨rfl,⟨_,rfl,rfl⟩,rfl,⟨_,rfl,rfl⟩,trivial⟩ rfl rfl rfl rfl rfl)
          ·show Tri _ _ _ _;refine zAm hle ?_;obtain ⟨l58,hj,h⟩:=zAc h;refine zAp ⟨ofL [(0,.op 0 0),(1,.s (.pt [.int .i64 a1_kind,.str a1_text,.int .i64 a1_cols,.sl 4 (Nd.encs a1_kids)])),(4,.s (.int .i64 x49))],ofH [(0,.box 137 (zA2 (.op 0 39) (.orow 2))),(2,.row 5 1 ((List.map brow) l58))],3⟩ ?_ (fun σ' hle => ?_)
           ·replace h:=hj;refine zAe rfl (fun hb => ?_) (fun hb => ?_)
            ·replace h:=zAr hb h;refine zAb [] [] rfl ?_;obtain ⟨⟨_,b60⟩,hy59,h⟩:=zAc h;refine ⟨_,_,⟨_,_,_,_,hy59,rfl,rfl,rfl,rfl⟩,?_⟩
             cases h;exact (Le.rename [(0,0),(3,2)] _ _ _ ⟨rfl,rfl,rfl,trivial⟩ ⟨rfl,⟨_,rfl,rfl⟩,rfl,⟨_,rfl,rfl⟩,trivial⟩ rfl rfl rfl rfl rfl)
            ·replace h:=zAq hb h;refine zAj ?_;cases h;exact (Le.rename [(0,0),(2,2)] _ _ _ ⟨rfl,rfl,rfl,trivial⟩ ⟨rfl,⟨_,rfl,rfl⟩,rfl,⟨_,rfl,rfl⟩,trivial⟩ rfl rfl rfl rfl rfl)
           ·show Tri _ _ _ _;refine zAm hle ?_;refine zAz (by exact tokW) (by exact gok) (by exact mixed) [] [87] [9] rfl (by decide +kernel) ?_;obtain ⟨c61,hc61,h⟩:=zAc h;refine And.intro (zA4 hc61).1 ?_;intro v62 hv62;obtain rfl : (c61.toNat : Int) = v62:=(hv62.trans (zA4 hc61).2).symm;obtain ⟨⟨_,b64⟩,hy63,h⟩:=zAc h;refine ⟨_,_,⟨_,_,_,_,hy63,rfl,rfl,rfl,rfl⟩,?_⟩
            cases h;exact (Le.rename [(0,0),(3,2)] _ _ _ ⟨rfl,rfl,rfl,trivial⟩ ⟨rfl,⟨_,rfl,rfl⟩,rfl,⟨_,rfl,rfl⟩,trivial⟩ rfl rfl rfl rfl rfl)
         ·show Tri _ _ _ _;refine zAm hle ?_;refine zAb [] [] rfl ?_;refine ⟨(k,IntKind.i64.wrap (x49 + 1),l52),h,(Le.rename [(0,0),(2,2)] _ _ _ ⟨rfl,rfl,rfl,trivial⟩ ⟨rfl,⟨_,rfl,rfl⟩,rfl,⟨_,rfl,rfl⟩,trivial⟩ rfl rfl rfl rfl rfl),Nat.lt_succ_self k⟩
        ·replace h:=zAq hb h;refine zAC ?_;cases h;exact (Le.rename [(0,0),(2,2)] _ _ _ ⟨rfl,rfl,trivial⟩ ⟨rfl,⟨_,rfl,rfl⟩,rfl,⟨_,rfl,rfl⟩,trivial⟩ rfl rfl rfl rfl rfl)
     ·show Tri _ _ _ _;refine zAm hle ?_;refine zAb [] [] rfl ?_;obtain ⟨⟨_,b66⟩,hy65,h⟩:=zAc h;refine ⟨_,_,⟨_,_,_,_,hy65,rfl,rfl,rfl,rfl⟩,?_⟩
      cases h;exact (Le.rename [(0,0),(3,2)] _ _ _ ⟨rfl,rfl,trivial⟩ ⟨rfl,⟨_,rfl,rfl⟩,rfl,⟨_,rfl,rfl⟩,trivial⟩ rfl rfl rfl rfl rfl)
    ·replace h:=zAq hb h;refine zAj ?_;cases h;exact (Le.rename [(0,0),(2,2)] _ _ _ ⟨rfl,rfl,trivial⟩ ⟨rfl,⟨_,rfl,rfl⟩,rfl,⟨_,rfl,rfl⟩,trivial⟩ rfl rfl rfl rfl rfl)
   ·show Tri _ _ _ _;refine zAm hle ?_;refine zAa ?_;refine zAb [] [] rfl ?_;show Tri _ _ _ _;refine zAe rfl (fun hb => ?_) (fun hb => ?_)
    ·replace h:=zAr hb h;refine zAz (by exact tokW) (by exact gok) (by exact mixed) [] [] [9] rfl (by decide +kernel) ?_;obtain ⟨y67,hy67,h⟩:=zAc h;refine ⟨_,⟨_,_,hy67,rfl,rfl⟩,?_⟩
     obtain ⟨hq,h⟩:=zAJ h;refine And.intro (Nat.le_trans hq (by decide)) ?_;obtain ⟨⟨y68,_,b70⟩,hy68,h⟩:=zAc h;refine ⟨_,_,⟨_,_,_,_,_,hy68,rfl,rfl,rfl,rfl⟩,?_⟩
     have hy:=Option.some.inj h;subst hy;unfold zCM;exact ⟨_,(Le.rename [(0,0),(3,2)] [] [(0,.box 137 (zA2 (.op 0 39) (.orow 2))),(2,.row 5 1 ((List.map brow) b70))] 3 trivial ⟨rfl,⟨_,rfl,rfl⟩,rfl,⟨_,rfl,rfl⟩,trivial⟩ rfl rfl rfl rfl rfl),rfl,rfl,rfl,rfl,rfl,rfl,trivial⟩
    ·replace h:=zAq hb h;refine zAj ?_;have hy:=Option.some.inj h;subst hy;unfold zCM;exact ⟨_,(Le.rename [(0,0),(2,2)] [] [(0,.box 137 (zA2 (.op 0 39) (.orow 2))),(2,.row 5 1 ((List.map brow) l45))] 3 trivial ⟨rfl,⟨_,rfl,rfl⟩,rfl,⟨_,rfl,rfl⟩,trivial⟩ rfl rfl rfl rfl rfl),rfl,rfl,rfl,rfl,rfl,rfl,trivial⟩
def zDQ (xs : List AV) (os : List Ob) (x : AV) (os' : List (Option Ob)) : Prop:=∃ (a0 : List UInt8) (a1 : List UInt8) (y0 : Int) (y1 : Unit) (z1 : List UInt8),zAo a0 a1 = some (y0,y1,z1) ∧ xs = [.op 0 39,.s (.str a0)] ∧ os = [.box 137 (zA2 (.s (.np)) (.orow 1)),.row 5 1 (List.map brow a1)] ∧ x = .tup [.s (.int .i64 y0),.junk] ∧ os' = [some (.box 137 (zA2 (.op 0 39) (.orow 2))),none,some (.row 5 1 (List.map brow z1))]
def zCe : zAx:=zCl (fun xs os x os' => zDQ xs os x os')
theorem zDO : PSound Tryz.prog 117 zCe:=by
 have gok : ∀ f s,look? f [(119,zCn)] = some s → PSound Tryz.prog f s:=zAB (by
  simp only [List.forall_mem_cons]
  exact ⟨zD2,by simp⟩)
 refine PSound.withNil (zGB tokW Tryz.call117 Tryz.func117 rfl (fun xs os x os' h => by obtain ⟨_,_,_,_,_,_,rfl,rfl,_,rfl⟩:=h; exact ⟨by show 2 ≤ 19; decide,by show 2 ≤ 3; decide⟩) 19 rfl ?_) _;rintro xs os x os' w0 G0 B0 ⟨s1,b2,y0,y1,z1,h,rfl,rfl,rfl,rfl⟩ _;rw [zAo] at h;refine zAa ?_;refine zAb [] [] rfl ?_;show Tri _ _ _ _;refine zAa ?_;refine zAb [] [] rfl ?_;obtain ⟨b3,hb3,h⟩:=zAc h;refine ⟨_,_,⟨_,_,hb3,rfl,rfl,rfl,rfl⟩,?_⟩
 show Tri _ _ _ _;refine zAa ?_;refine zAb [14] [] rfl ?_;obtain ⟨hq,h⟩:=zAJ h;refine And.intro (show (((List.map brow) b3).length + (List.map brow s1).length) * 1 ≤ 140737488355328 ∧ ((List.map brow) b3).length + (List.map brow s1).length ≤ 9223372036854775807 from by simp only [List.length_append,List.length_cons,List.length_nil,List.length_map,rlen (fun _ => rfl)] at hq ⊢; omega) ?_;show Tri _ _ _ _
 refine zAm (Le.rename [(0,0),(3,2)] [(1,.s (.str s1))] [(0,.box 137 (zA2 (.op 0 39) (.orow 2))),(2,.row 5 1 ((List.map brow) (b3 ++ s1)))] 3 ⟨rfl,trivial⟩ ⟨rfl,⟨_,rfl,rfl⟩,rfl,⟨_,rfl,congrArg (Ob.row 5 1) (by simp [List.map_append,List.map_take,List.map_drop,irow,brow,zAF,List.map_cons,List.map_nil,zAy,Nd.encs_eq,Nd.enc,zAh,zAg,zAi,zAs,zAu])⟩,trivial⟩ rfl rfl rfl rfl rfl) ?_;refine zAa ?_;refine zAb [] [] rfl ?_;show Tri _ _ _ _;refine zAv ?_;obtain ⟨hj1,hk1⟩:=Prod.mk.inj (Option.some.inj h)
 subst hj1;obtain ⟨hj2,hk2⟩:=Prod.mk.inj hk1;subst hj2;subst hk2;unfold zCM;exact ⟨_,(Le.rename [(0,0),(2,2)] [(4,.s (.int .i64 (s1.length : Int)))] [(0,.box 137 (zA2 (.op 0 39) (.orow 2))),(2,.row 5 1 ((List.map brow) (b3 ++ s1)))] 3 ⟨rfl,trivial⟩ ⟨rfl,⟨_,rfl,rfl⟩,rfl,⟨_,rfl,rfl⟩,trivial⟩ rfl rfl rfl rfl rfl),rfl,rfl,rfl,rfl,rfl,rfl,trivial⟩
def zGa (n : Nat) (xs : List AV) (os : List Ob) (x : AV) (os' : List (Option Ob)) : Prop:=∃ (a0 : Nd) (a1 : List UInt8) (z1 : List UInt8),zBj n a0 a1 = some z1 ∧ xs = [.op 0 0,.s (.pt (Nd.enc a0))] ∧ os = [.box 137 (zA2 (.s (.np)) (.orow 1)),.row 5 1 (List.map brow a1)] ∧ x = .tup [] ∧ os' = [some (.box 137 (zA2 (.op 0 39) (.orow 2))),none,some (.row 5 1 (List.map brow z1))]
def zEc : zAx:=zCl (fun xs os x os' => ∃ n,zGa n xs os x os')
theorem zF8 : PSound Tryz.prog 97 zEc:=by
 have gok : ∀ f s,look? f [(117,orS zBJ zCe),(118,zFh),(98,zBp)] = some s → PSound Tryz.prog f s:=zAB (by
  simp only [List.forall_mem_cons]
  exact ⟨(zOT zCr zDO),zGz,zBO,by simp⟩)
 refine PSound.withNil (zGB tokW Tryz.call97 Tryz.func97 rfl (fun xs os x os' h => by obtain ⟨n,_,_,_,_,rfl,rfl,_,rfl⟩:=h; exact ⟨by show 2 ≤ 108; decide,by show 2 ≤ 3; decide⟩) 108 rfl ?_) _;rintro xs os x os' w0 G0 B0 ⟨n,⟨a1_kind,a1_text,a1_cols,a1_kids⟩,b2,z1,h,rfl,rfl,rfl,rfl⟩ _;rw [zBj] at h;refine zAa ?_;refine zAa ?_;obtain ⟨x3,hj,h⟩:=zAc h;refine zAp ⟨ofL [(0,.op 0 0),(1,.s (.pt [.int .i64 a1_kind,.str a1_text,.int .i64 a1_cols,.sl 4 (Nd.encs a1_kids)])),(16,.s (.bool x3))],ofH [(0,.box 137 (zA2 (.s (.np)) (.orow 1))),(1,.row 5 1 ((List.map brow) b2))],2⟩ ?_ (fun σ' hle => ?_)
 ·replace h:=hj;refine zAb [] [10] rfl ?_;intro b hb;cases b with
  | true =>
   replace h:=zAr hb.symm h;cases h;exact (Le.rename [(0,0),(1,1)] _ _ _ ⟨rfl,rfl,rfl,trivial⟩ ⟨rfl,⟨_,rfl,rfl⟩,rfl,⟨_,rfl,rfl⟩,trivial⟩ rfl rfl rfl rfl rfl)
  | false =>
   replace h:=zAq hb.symm h;cases h;exact (Le.rename [(0,0),(1,1)] _ _ _ ⟨rfl,rfl,rfl,trivial⟩ ⟨rfl,⟨_,rfl,rfl⟩,rfl,⟨_,rfl,rfl⟩,trivial⟩ rfl rfl rfl rfl rfl)
 ·show Tri _ _ _ _;refine zAm hle ?_;obtain ⟨l4,hj,h⟩:=zAc h;refine zAp ⟨ofL [(0,.op 0 0),(1,.s (.pt [.int .i64 a1_kind,.str a1_text,.int .i64 a1_cols,.sl 4 (Nd.encs a1_kids)]))],ofH [(0,.box 137 (zA2 (.op 0 39) (.orow 2))),(2,.row 5 1 ((List.map brow) l4))],3⟩ ?_ (fun σ' hle => ?_)
  ·replace h:=hj;refine zAe rfl (fun hb => ?_) (fun hb => ?_)
   ·replace h:=zAr hb h;refine zAz (by exact tokW) (by exact gok) (by exact mixed) [] [24] [12,13] rfl (by decide +kernel) ?_;intro vsp hvsp;cases hc : (a1_kind == 1) with
    | true =>
     replace h:=zAr hc h;obtain rfl : (1 : Int) = vsp:=(hvsp.trans (eq_of_beq hc)).symm;refine And.intro (by decide) ?_;obtain ⟨⟨y5,_,b7⟩,hy5,h⟩:=zAc h;refine ⟨_,_,(Or.inr ⟨_,_,_,_,_,hy5,rfl,rfl,rfl,rfl⟩),?_⟩
     cases h;exact (Le.rename [(0,0),(2,2)] _ _ _ ⟨rfl,rfl,trivial⟩ ⟨rfl,⟨_,rfl,rfl⟩,rfl,⟨_,rfl,rfl⟩,trivial⟩ rfl rfl rfl rfl rfl)
    | false =>
     replace h:=zAq hc h;cases hc : (a1_kind == 2) with
     | true =>
      replace h:=zAr hc h;obtain rfl : (2 : Int) = vsp:=(hvsp.trans (eq_of_beq hc)).symm;refine And.intro (by decide) ?_;obtain ⟨⟨y8,_,b10⟩,hy8,h⟩:=zAc h;refine ⟨_,_,(Or.inr ⟨_,_,_,_,_,hy8,rfl,rfl,rfl,rfl⟩),?_⟩
      cases h;exact (Le.rename [(0,0),(2,2)] _ _ _ ⟨rfl,rfl,trivial⟩ ⟨rfl,⟨_,rfl,rfl⟩,rfl,⟨_,rfl,rfl⟩,trivial⟩ rfl rfl rfl rfl rfl)
     | false =>
      replace h:=zAq hc h;cases hc : (a1_kind == 3) with
      | true =>
       replace h:=zAr hc h;obtain rfl : (3 : Int) = vsp:=(hvsp.trans (eq_of_beq hc)).symm;refine And.intro (by decide) ?_;obtain ⟨⟨y11,_,b13⟩,hy11,h⟩:=zAc h;refine ⟨_,_,(Or.inr ⟨_,_,_,_,_,hy11,rfl,rfl,rfl,rfl⟩),?_⟩
       cases h;exact (Le.rename [(0,0),(2,2)] _ _ _ ⟨rfl,rfl,trivial⟩ ⟨rfl,⟨_,rfl,rfl⟩,rfl,⟨_,rfl,rfl⟩,trivial⟩ rfl rfl rfl rfl rfl)
      | false =>
       replace h:=zAq hc h;cases hc : (a1_kind == 4) with
       | true =>
        replace h:=zAr hc h;obtain rfl : (4 : Int) = vsp:=(hvsp.trans (eq_of_beq hc)).symm;refine And.intro (by decide) ?_;obtain ⟨⟨y14,_,b16⟩,hy14,h⟩:=zAc h;refine ⟨_,_,(Or.inr ⟨_,_,_,_,_,hy14,rfl,rfl,rfl,rfl⟩),?_⟩
        cases h;exact (Le.rename [(0,0),(2,2)] _ _ _ ⟨rfl,rfl,trivial⟩ ⟨rfl,⟨_,rfl,rfl⟩,rfl,⟨_,rfl,rfl⟩,trivial⟩ rfl rfl rfl rfl rfl)
       | false =>
        replace h:=zAq hc h;cases hc : (a1_kind == 5) with
        | true =>
         replace h:=zAr hc h;obtain rfl : (5 : Int) = vsp:=(hvsp.trans (eq_of_beq hc)).symm;refine And.intro (by decide) ?_;obtain ⟨⟨y17,_,b19⟩,hy17,h⟩:=zAc h;refine ⟨_,_,(Or.inr ⟨_,_,_,_,_,hy17,rfl,rfl,rfl,rfl⟩),?_⟩
         cases h;exact (Le.rename [(0,0),(2,2)] _ _ _ ⟨rfl,rfl,trivial⟩ ⟨rfl,⟨_,rfl,rfl⟩,rfl,⟨_,rfl,rfl⟩,trivial⟩ rfl rfl rfl rfl rfl)
        | false =>
         replace h:=zAq hc h;cases hc : (a1_kind == 6) with
         | true =>
          replace h:=zAr hc h;obtain rfl : (6 : Int) = vsp:=(hvsp.trans (eq_of_beq hc)).symm;refine And.intro (by decide) ?_;obtain ⟨⟨y20,_,b22⟩,hy20,h⟩:=zAc h;refine ⟨_,_,(Or.inr ⟨_,_,_,_,_,hy20,rfl,rfl,rfl,rfl⟩),?_⟩
          cases h;exact (Le.rename [(0,0),(2,2)] _ _ _ ⟨rfl,rfl,trivial⟩ ⟨rfl,⟨_,rfl,rfl⟩,rfl,⟨_,rfl,rfl⟩,trivial⟩ rfl rfl rfl rfl rfl)
         | false =>
          replace h:=zAq hc h;cases hc : (a1_kind == 7) with
          | true =>
           replace h:=zAr hc h;obtain rfl : (7 : Int) = vsp:=(hvsp.trans (eq_of_beq hc)).symm;refine And.intro (by decide) ?_;obtain ⟨⟨y23,_,b25⟩,hy23,h⟩:=zAc h;refine ⟨_,_,(Or.inr ⟨_,_,_,_,_,hy23,rfl,rfl,rfl,rfl⟩),?_⟩
           cases h;exact (Le.rename [(0,0),(2,2)] _ _ _ ⟨rfl,rfl,trivial⟩ ⟨rfl,⟨_,rfl,rfl⟩,rfl,⟨_,rfl,rfl⟩,trivial⟩ rfl rfl rfl rfl rfl)
          | false =>
           replace h:=zAq hc h;cases hc : (a1_kind == 8) with
           | true =>
            replace h:=zAr hc h;obtain rfl : (8 : Int) = vsp:=(hvsp.trans (eq_of_beq hc)).symm;refine And.intro (by decide) ?_;obtain ⟨⟨y26,_,b28⟩,hy26,h⟩:=zAc h;refine ⟨_,_,(Or.inr ⟨_,_,_,_,_,hy26,rfl,rfl,rfl,rfl⟩),?_⟩
            cases h;exact (Le.rename [(0,0),(2,2)] _ _ _ ⟨rfl,rfl,trivial⟩ ⟨rfl,⟨_,rfl,rfl⟩,rfl,⟨_,rfl,rfl⟩,trivial⟩ rfl rfl rfl rfl rfl)
           | false =>
            replace h:=zAq hc h;cases hc : (a1_kind == 9) with
            | true =>
             replace h:=zAr hc h;obtain rfl : (9 : Int) = vsp:=(hvsp.trans (eq_of_beq hc)).symm;refine And.intro (by decide) ?_;obtain ⟨⟨y29,_,b31⟩,hy29,h⟩:=zAc h;refine ⟨_,_,(Or.inr ⟨_,_,_,_,_,hy29,rfl,rfl,rfl,rfl⟩),?_⟩
             cases h;exact (Le.rename [(0,0),(2,2)] _ _ _ ⟨rfl,rfl,trivial⟩ ⟨rfl,⟨_,rfl,rfl⟩,rfl,⟨_,rfl,rfl⟩,trivial⟩ rfl rfl rfl rfl rfl)
            | false =>
             replace h:=zAq hc h;cases hc : (a1_kind == 10) with
             | true =>
              replace h:=zAr hc h;obtain rfl : (10 : Int) = vsp:=(hvsp.trans (eq_of_beq hc)).symm;refine And.intro (by decide) ?_;obtain ⟨⟨y32,_,b34⟩,hy32,h⟩:=zAc h;refine ⟨_,_,(Or.inr ⟨_,_,_,_,_,hy32,rfl,rfl,rfl,rfl⟩),?_⟩
              cases h;exact (Le.rename [(0,0),(2,2)] _ _ _ ⟨rfl,rfl,trivial⟩ ⟨rfl,⟨_,rfl,rfl⟩,rfl,⟨_,rfl,rfl⟩,trivial⟩ rfl rfl rfl rfl rfl)
             | false =>
              replace h:=zAq hc h;cases hc : (a1_kind == 11) with
              | true =>
               replace h:=zAr hc h;obtain rfl : (11 : Int) = vsp:=(hvsp.trans (eq_of_beq hc)).symm;refine And.intro (by decide) ?_;obtain ⟨⟨y35,_,b37⟩,hy35,h⟩:=zAc h;refine ⟨_,_,(Or.inr ⟨_,_,_,_,_,hy35,rfl,rfl,rfl,rfl⟩),?_⟩
               cases h;exact (Le.rename [(0,0),(2,2)] _ _ _ ⟨rfl,rfl,trivial⟩ ⟨rfl,⟨_,rfl,rfl⟩,rfl,⟨_,rfl,rfl⟩,trivial⟩ rfl rfl rfl rfl rfl)
              | false =>
               replace h:=zAq hc h;cases hc : (a1_kind == 12) with
               | true =>
                replace h:=zAr hc h;obtain rfl : (12 : Int) = vsp:=(hvsp.trans (eq_of_beq hc)).symm;refine And.intro (by decide) ?_;obtain ⟨⟨y38,_,b40⟩,hy38,h⟩:=zAc h;refine ⟨_,_,(Or.inr ⟨_,_,_,_,_,hy38,rfl,rfl,rfl,rfl⟩),?_⟩
                cases h;exact (Le.rename [(0,0),(2,2)] _ _ _ ⟨rfl,rfl,trivial⟩ ⟨rfl,⟨_,rfl,rfl⟩,rfl,⟨_,rfl,rfl⟩,trivial⟩ rfl rfl rfl rfl rfl)
               | false =>
                replace h:=zAq hc h;cases h
   ·replace h:=zAq hb h;refine zAz (by exact tokW) (by exact gok) (by exact mixed) [] [] [9] rfl (by decide +kernel) ?_;obtain ⟨y41,hy41,h⟩:=zAc h;refine ⟨_,⟨_,_,hy41,rfl,rfl⟩,?_⟩
    obtain ⟨hq,h⟩:=zAJ h;refine And.intro (Nat.le_trans hq (by decide)) ?_;obtain ⟨⟨y42,_,b44⟩,hy42,h⟩:=zAc h;refine ⟨_,_,(Or.inr ⟨_,_,_,_,_,hy42,rfl,rfl,rfl,rfl⟩),?_⟩
    cases h;exact (Le.rename [(0,0),(2,2)] _ _ _ ⟨rfl,rfl,trivial⟩ ⟨rfl,⟨_,rfl,rfl⟩,rfl,⟨_,rfl,rfl⟩,trivial⟩ rfl rfl rfl rfl rfl)
  ·show Tri _ _ _ _;refine zAm hle ?_;refine zAa ?_;refine zAa ?_;refine zAb [] [] rfl ?_;show Tri _ _ _ _;obtain ⟨l45,hj,h⟩:=zAc h;refine zAp ⟨ofL [(0,.op 0 0),(1,.s (.pt [.int .i64 a1_kind,.str a1_text,.int .i64 a1_cols,.sl 4 (Nd.encs a1_kids)]))],ofH [(0,.box 137 (zA2 (.op 0 39) (.orow 2))),(2,.row 5 1 ((List.map brow) l45))],3⟩ ?_ (fun σ' hle => ?_)
   ·replace h:=hj;refine zAe rfl (fun hb => ?_) (fun hb => ?_)
    ·replace h:=zAr hb h;refine zAa ?_;refine zAb [] [] rfl ?_;obtain ⟨⟨y46,_,b48⟩,hy46,h⟩:=zAc h;refine ⟨_,_,(Or.inl ⟨_,_,_,_,_,hy46,rfl,rfl,rfl,rfl⟩),?_⟩
     show Tri _ _ _ _;refine zAa ?_;refine zAa ?_;refine zAb [] [] rfl ?_;show Tri _ _ _ _;obtain ⟨l51,hl,h⟩:=zAc h;refine zAp ⟨ofL [(0,.op 0 0),(1,.s (.pt [.int .i64 a1_kind,.str a1_text,.int .i64 a1_cols,.sl 4 (Nd.encs a1_kids)]))],ofH [(0,.box 137 (zA2 (.op 0 39) (.orow 2))),(2,.row 5 1 ((List.map brow) l51))],3⟩ ?_ (fun σ' hle => ?_)
     ·refine zAk (zAA (X:=Nat × Int × (List UInt8)) (fun y => match y with | (k,x49,l50) => ⟨ofL [(0,.op 0 0),(1,.s (.pt [.int .i64 a1_kind,.str a1_text,.int .i64 a1_cols,.sl 4 (Nd.encs a1_kids)])),(4,.s (.int .i64 x49))],ofH [(0,.box 137 (zA2 (.op 0 39) (.orow 2))),(2,.row 5 1 ((List.map brow) l50))],3⟩) (fun y => zAW a1_text y.1 y.2.1 y.2.2 = some l51) (fun y => y.1) (n,0,b48) hl ?_ ?_)
      ·exact (Le.rename [(0,0),(3,2)] _ _ _ ⟨rfl,rfl,rfl,trivial⟩ ⟨rfl,⟨_,rfl,rfl⟩,rfl,⟨_,rfl,rfl⟩,trivial⟩ rfl rfl rfl rfl rfl)
      ·rintro ⟨k,x49,l50⟩ h;cases k with
       | zero => cases h
       | succ k =>
        replace h : zAW a1_text (k+1) x49 l50 = some l51:=h;rw [zAW] at h;refine zAa ?_;refine zAa ?_;refine zAb [] [] rfl ?_;show Tri _ _ _ _;refine zAe rfl (fun hb => ?_) (fun hb => ?_)
        ·replace h:=zAr hb h;refine zAj ?_;show Tri _ _ _ _;refine zAa ?_;obtain ⟨l52,hj,h⟩:=zAc h;refine zAp ⟨ofL [(0,.op 0 0),(1,.s (.pt [.int .i64 a1_kind,.str a1_text,.int .i64 a1_cols,.sl 4 (Nd.encs a1_kids)])),(4,.s (.int .i64 x49))],ofH [(0,.box 137 (zA2 (.op 0 39) (.orow 2))),(2,.row 5 1 ((List.map brow) l52))],3⟩ ?_ (fun σ' hle => ?_)
         ·replace h:=hj;refine zAk ?_;refine zAa ?_;refine zAa ?_;obtain ⟨x53,hj,h⟩:=zAc h;refine zAp ⟨ofL [(0,.op 0 0),(1,.s (.pt [.int .i64 a1_kind,.str a1_text,.int .i64 a1_cols,.sl 4 (Nd.encs a1_kids)])),(4,.s (.int .i64 x49)),(74,.s (.bool x53))],ofH [(0,.box 137 (zA2 (.op 0 39) (.orow 2))),(2,.row 5 1 ((List.map brow) l50))],3⟩ ?_ (fun σ' hle => ?_)
          ·replace h:=hj;refine zAb [] [64,66,72] rfl ?_;obtain ⟨c54,hc54,h⟩:=zAc h;refine And.intro (zA4 hc54).1 ?_;intro v55 hv55;obtain rfl : (c54.toNat : Int) = v55:=(hv55.trans (zA4 hc54).2).symm;intro b hb;cases b with
           | true =>
            replace h:=zAr hb.symm h;cases h;exact (Le.rename [(0,0),(2,2)] _ _ _ ⟨rfl,rfl,rfl,rfl,trivial⟩ ⟨rfl,⟨_,rfl,rfl⟩,rfl,⟨_,rfl,rfl⟩,trivial⟩ rfl rfl rfl rfl rfl)
           | false =>
            replace h:=zAq hb.symm h;obtain ⟨c56,hc56,h⟩:=zAc h;refine And.intro (zA4 hc56).1 ?_;intro v57 hv57;obtain rfl : (c56.toNat : Int) = v57:=(hv57.trans (zA4 hc56).2).symm;cases h;exact (Le.rename [(0,0),(2,2)] _ _ _ ⟨rfl,rfl,rfl,rfl,trivial⟩ ⟨rfl,⟨_,rfl,rfl⟩,rfl,⟨_,rfl,rfl⟩,trivial⟩ rfl rfl rfl rfl rfl)
          ·show Tri _ _ _ _;refine zAm hle ?_;obtain ⟨l58,hj,h⟩:=zAc h;refine zAp ⟨ofL [(0,.op 0 0),(1,.s (.pt [.int .i64 a1_kind,.str a1_text,.int .i64 a1_cols,.sl 4 (Nd.encs a1_kids)])),(4,.s (.int .i64 x49))],ofH [(0,.box 137 (zA2 (.op 0 39) (.orow 2))),(2,.row 5 1 ((List.map brow) l58))],3⟩ ?_ (fun σ' hle => ?_)
           ·replace h:=hj;refine zAe rfl (fun hb => ?_) (fun hb => ?_)
            ·replace h:=zAr hb h;refine zAb [] [] rfl ?_;obtain ⟨⟨_,b60⟩,hy59,h⟩:=zAc h;refine ⟨_,_,⟨_,_,_,_,hy59,rfl,rfl,rfl,rfl⟩,?_⟩
             cases h;exact (Le.rename [(0,0),(3,2)] _ _ _ ⟨rfl,rfl,rfl,trivial⟩ ⟨rfl,⟨_,rfl,rfl⟩,rfl,⟨_,rfl,rfl⟩,trivial⟩ rfl rfl rfl rfl rfl)
            ·replace h:=zAq hb h;refine zAj ?_;cases h;exact (Le.rename [(0,0),(2,2)] _ _ _ ⟨rfl,rfl,rfl,trivial⟩ ⟨rfl,⟨_,rfl,rfl⟩,rfl,⟨_,rfl,rfl⟩,trivial⟩ rfl rfl rfl rfl rfl)
           ·show Tri _ _ _ _;refine zAm hle ?_;refine zAz (by exact tokW) (by exact gok) (by exact mixed) [] [87] [9] rfl (by decide +kernel) ?_;obtain ⟨c61,hc61,h⟩:=zAc h;refine And.intro (zA4 hc61).1 ?_;intro v62 hv62;obtain rfl : (c61.toNat : Int) = v62:=(hv62.trans (zA4 hc61).2).symm;obtain ⟨⟨_,b64⟩,hy63,h⟩:=zAc h;refine ⟨_,_,⟨_,_,_,_,hy63,rfl,rfl,rfl,rfl⟩,?_⟩
            cases h;exact (Le.rename [(0,0),(3,2)] _ _ _ ⟨rfl,rfl,rfl,trivial⟩ ⟨rfl,⟨_,rfl,rfl⟩,rfl,⟨_,rfl,rfl⟩,trivial⟩ rfl rfl rfl rfl rfl)
         ·show Tri _ _ _ _;refine zAm hle ?_;refine zAb [] [] rfl ?_;refine ⟨(k,IntKind.i64.wrap (x49 + 1),l52),h,(Le.rename [(0,0),(2,2)] _ _ _ ⟨rfl,rfl,rfl,trivial⟩ ⟨rfl,⟨_,rfl,rfl⟩,rfl,⟨_,rfl,rfl⟩,trivial⟩ rfl rfl rfl rfl rfl),Nat.lt_succ_self k⟩
        ·replace h:=zAq hb h;refine zAC ?_;cases h;exact (Le.rename [(0,0),(2,2)] _ _ _ ⟨rfl,rfl,trivial⟩ ⟨rfl,⟨_,rfl,rfl⟩,rfl,⟨_,rfl,rfl⟩,trivial⟩ rfl rfl rfl rfl rfl)
     ·show Tri _ _ _ _;refine zAm hle ?_;refine zAb [] [] rfl ?_;obtain ⟨⟨_,b66⟩,hy65,h⟩:=zAc h;refine ⟨_,_,⟨_,_,_,_,hy65,rfl,rfl,rfl,rfl⟩,?_⟩
      cases h;exact (Le.rename [(0,0),(3,2)] _ _ _ ⟨rfl,rfl,trivial⟩ ⟨rfl,⟨_,rfl,rfl⟩,rfl,⟨_,rfl,rfl⟩,trivial⟩ rfl rfl rfl rfl rfl)
    ·replace h:=zAq hb h;refine zAj ?_;cases h;exact (Le.rename [(0,0),(2,2)] _ _ _ ⟨rfl,rfl,trivial⟩ ⟨rfl,⟨_,rfl,rfl⟩,rfl,⟨_,rfl,rfl⟩,trivial⟩ rfl rfl rfl rfl rfl)
   ·show Tri _ _ _ _;refine zAm hle ?_;refine zAa ?_;refine zAb [] [] rfl ?_;show Tri _ _ _ _;refine zAe rfl (fun hb => ?_) (fun hb => ?_)
    ·replace h:=zAr hb h;refine zAz (by exact tokW) (by exact gok) (by exact mixed) [] [] [9] rfl (by decide +kernel) ?_;obtain ⟨y67,hy67,h⟩:=zAc h;refine ⟨_,⟨_,_,hy67,rfl,rfl⟩,?_⟩
     obtain ⟨hq,h⟩:=zAJ h;refine And.intro (Nat.le_trans hq (by decide)) ?_;obtain ⟨⟨y68,_,b70⟩,hy68,h⟩:=zAc h;refine ⟨_,_,(Or.inl ⟨_,_,_,_,_,hy68,rfl,rfl,rfl,rfl⟩),?_⟩
     have hy:=Option.some.inj h;subst hy;unfold zCM;exact ⟨_,(Le.rename [(0,0),(3,2)] [] [(0,.box 137 (zA2 (.op 0 39) (.orow 2))),(2,.row 5 1 ((List.map brow) b70))] 3 trivial ⟨rfl,⟨_,rfl,rfl⟩,rfl,⟨_,rfl,rfl⟩,trivial⟩ rfl rfl rfl rfl rfl),rfl,rfl,rfl,rfl,rfl,rfl,trivial⟩
    ·replace h:=zAq hb h;refine zAj ?_;have hy:=Option.some.inj h;subst hy;unfold zCM;exact ⟨_,(Le.rename [(0,0),(2,2)] [] [(0,.box 137 (zA2 (.op 0 39) (.orow 2))),(2,.row 5 1 ((List.map brow) l45))] 3 trivial ⟨rfl,⟨_,rfl,rfl⟩,rfl,⟨_,rfl,rfl⟩,trivial⟩ rfl rfl rfl rfl rfl),rfl,rfl,rfl,rfl,rfl,rfl,trivial⟩
def zAn (p : (Nd × Int)) : List S:=[.pt (Nd.enc p.1),.int .i64 p.2]
def zPw (n : Nat) (xs : List AV) (r : Ret) : Prop:=∃ (a0 : Nd) (y0 : List UInt8),zDZ n a0 = some y0 ∧ xs = [.agg ((Nd.enc a0).map .s)] ∧ r = .val (.s (.str y0))
def zJ2 : zAx:=zAG fun xs r => ∃ n,zPw n xs r
set_option maxHeartbeats 8000000 in
theorem zOI : PSound Tryz.prog 67 zJ2:=by
 have gok : ∀ f s,look? f [(53,zGf),(97,orS zE5 zEc),(98,zBp),(99,zDq)] = some s → PSound Tryz.prog f s:=zAB (by
  simp only [List.forall_mem_cons]
  exact ⟨zIh,(zOT zHy zF8),zBO,zFm,by simp⟩)
 refine zAS tokW Tryz.call67 Tryz.func67 rfl (fun xs r h => by obtain ⟨n,_,_,_,rfl,_⟩:=h; show 1 ≤ 83; decide) 83 rfl ?_;rintro xs r w0 G0 ⟨n,⟨a1_kind,a1_text,a1_cols,a1_kids⟩,y0,h,rfl,rfl⟩ _;rw [zDZ] at h;refine zAa ?_;refine zAb [] [] rfl ?_;show Tri _ _ _ _;refine zAa ?_;refine zAb [10] [] rfl ?_;obtain ⟨_,hy2,h⟩:=zAc h;refine ⟨_,⟨_,hy2,rfl,rfl⟩,?_⟩
 show Tri _ _ _ _;refine zAm (Le.trans (Le.rename [(0,0)] [(1,.s (.pt [.int .i64 a1_kind,.str a1_text,.int .i64 a1_cols,.sl 4 (Nd.encs a1_kids)])),(3,.op 0 0)] [(0,.box 137 (zA2 (.s (.np)) (.nl 1)))] 1 ⟨rfl,rfl,trivial⟩ ⟨rfl,⟨_,rfl,rfl⟩,trivial⟩ rfl rfl rfl rfl rfl) (Le.takeNil 0 40 5 rfl rfl (by decide))) ?_;refine zAa ?_;refine zAb [] [] rfl ?_;obtain ⟨b3,hb3,h⟩:=zAc h;refine ⟨_,_,(Or.inr ⟨_,_,_,_,hb3,rfl,rfl,rfl,rfl⟩),?_⟩
 show Tri _ _ _ _;refine zAa ?_;refine zAb [14] [] rfl ?_;show Tri _ _ _ _
 refine zAm (Le.rename [(0,0),(2,1),(3,2)] [(3,.op 0 0),(4,.orow 2)] [(0,.box 137 (zA2 (.op 0 39) (.orow 1))),(1,.row 5 1 ((List.map brow) b3)),(2,.row 140 2 ((List.map zAn) [(Nd.mk a1_kind a1_text a1_cols a1_kids,0)]))] 3 ⟨rfl,rfl,trivial⟩ ⟨rfl,⟨_,rfl,rfl⟩,rfl,⟨_,rfl,rfl⟩,rfl,⟨_,rfl,congrArg (Ob.row 140 2) (by simp [List.map_append,List.map_take,List.map_drop,irow,brow,zAF,List.map_cons,List.map_nil,zAy,Nd.encs_eq,Nd.enc,zAh,zAg,zAi,zAs,zAu,zAn])⟩,trivial⟩ rfl rfl rfl rfl rfl) ?_;refine zAa ?_;obtain ⟨l7,hl,h⟩:=zAc h
 refine zAp ⟨ofL [(3,.op 0 0)],ofH [(0,.box 137 (zA2 (.op 0 39) (.orow 1))),(1,.row 5 1 ((List.map brow) l7))],2⟩ ?_ (fun σ' hle => ?_)
 ·refine zAk (zAA (X:=Nat × (List UInt8) × (List (Nd × Int))) (fun y => match y with | (k,l5,l6) => ⟨ofL [(3,.op 0 0),(4,.orow 2)],ofH [(0,.box 137 (zA2 (.op 0 39) (.orow 1))),(1,.row 5 1 ((List.map brow) l5)),(2,.row 140 2 ((List.map zAn) l6))],3⟩) (fun y => zBQ n y.1 y.2.1 y.2.2 = some l7) (fun y => y.1) (n,b3,[(Nd.mk a1_kind a1_text a1_cols a1_kids,0)]) hl ?_ ?_)
  ·exact (Le.rename [(0,0),(1,1),(2,2)] _ _ _ ⟨rfl,rfl,trivial⟩ ⟨rfl,⟨_,rfl,rfl⟩,rfl,⟨_,rfl,rfl⟩,rfl,⟨_,rfl,rfl⟩,trivial⟩ rfl rfl rfl rfl rfl)
  ·rintro ⟨k,l5,l6⟩ h;cases k with
   | zero => cases h
   | succ k =>
    replace h : zBQ n (k+1) l5 l6 = some l7:=h;rw [zBQ] at h;refine zAa ?_;refine zAa ?_;refine zAb [] [16] rfl ?_;intro n8 hn8;obtain rfl : (l6.length : Int) = n8:=(hn8.trans (congrArg (fun m : Nat => (m : Int)) (rlen (fun _ => rfl) l6))).symm;show Tri _ _ _ _;refine zAe rfl (fun hb => ?_) (fun hb => ?_)
    ·replace h:=zAr hb h;refine zAj ?_;show Tri _ _ _ _;refine zAk ?_;refine zAa ?_;refine zAb [] [20] rfl ?_;intro n9 hn9;obtain rfl : (l6.length : Int) = n9:=(hn9.trans (congrArg (fun m : Nat => (m : Int)) (rlen (fun _ => rfl) l6))).symm;obtain ⟨⟨⟨e10_node_kind,e10_node_text,e10_node_cols,e10_node_kids⟩,e10_kids⟩,he10,h⟩:=zAc h;refine And.intro (zAw (fun _ => rfl) he10).1 ?_;show Tri _ _ _ _;refine zAa ?_;refine zAb [] [] rfl ?_;refine And.intro (zAw (fun _ => rfl) he10).2.2 ?_;refine ⟨_,(zAw (fun _ => rfl) he10).2.1,?_⟩
     show Tri _ _ _ _;refine zAa ?_;refine zAa ?_;refine zAb [] [35] rfl ?_;refine And.intro (zAw (fun _ => rfl) he10).2.2 ?_;refine ⟨_,(zAw (fun _ => rfl) he10).2.1,?_⟩
     intro n11 hn11;obtain rfl : (e10_node_kids.length : Int) = n11:=(hn11.trans (congrArg (fun m : Nat => (m : Int)) (rlen Nd.encs_eq e10_node_kids))).symm;show Tri _ _ _ _;refine zAe rfl (fun hb => ?_) (fun hb => ?_)
     ·replace h:=zAr hb h;refine zAa ?_;refine zAa ?_;refine zAb [] [] rfl ?_;show Tri _ _ _ _;obtain ⟨l12,hj,h⟩:=zAc h;refine zAp ⟨ofL [(3,.op 0 0),(4,.orow 2)],ofH [(0,.box 137 (zA2 (.op 0 39) (.orow 1))),(1,.row 5 1 ((List.map brow) l12)),(2,.row 140 2 ((List.map zAn) l6))],3⟩ ?_ (fun σ' hle => ?_)
      ·replace h:=hj;refine zAe rfl (fun hb => ?_) (fun hb => ?_)
       ·replace h:=zAr hb h;refine zAb [] [] rfl ?_;obtain ⟨⟨_,b14⟩,hy13,h⟩:=zAc h;refine ⟨_,_,⟨_,_,_,_,hy13,rfl,rfl,rfl,rfl⟩,?_⟩
        cases h;exact (Le.rename [(0,0),(3,1),(2,2)] _ _ _ ⟨rfl,rfl,trivial⟩ ⟨rfl,⟨_,rfl,rfl⟩,rfl,⟨_,rfl,rfl⟩,rfl,⟨_,rfl,rfl⟩,trivial⟩ rfl rfl rfl rfl rfl)
       ·replace h:=zAq hb h;refine zAj ?_;cases h;exact (Le.rename [(0,0),(1,1),(2,2)] _ _ _ ⟨rfl,rfl,trivial⟩ ⟨rfl,⟨_,rfl,rfl⟩,rfl,⟨_,rfl,rfl⟩,rfl,⟨_,rfl,rfl⟩,trivial⟩ rfl rfl rfl rfl rfl)
      ·show Tri _ _ _ _;refine zAm hle ?_;refine zAa ?_;refine zAb [47] [45] rfl ?_;intro n15 hn15;obtain rfl : (l6.length : Int) = n15:=(hn15.trans (congrArg (fun m : Nat => (m : Int)) (rlen (fun _ => rfl) l6))).symm;obtain ⟨hq,h⟩:=zAJ h;refine And.intro ⟨hq.1,Int.le_trans hq.2 (Int.ofNat_le.2 (Nat.le_of_eq (rlen (fun _ => rfl) _).symm))⟩ ?_;show Tri _ _ _ _
       refine zAm (Le.rename [(0,0),(1,1),(3,2)] [(3,.op 0 0),(4,.orow 2)] [(0,.box 137 (zA2 (.op 0 39) (.orow 1))),(1,.row 5 1 ((List.map brow) l12)),(2,.row 140 2 ((List.map zAn) (l6.take (IntKind.i64.wrap ((l6.length : Int) - 1)).toNat)))] 3 ⟨rfl,rfl,trivial⟩ ⟨rfl,⟨_,rfl,rfl⟩,rfl,⟨_,rfl,rfl⟩,rfl,⟨_,rfl,congrArg (Ob.row 140 2) (by simp [List.map_append,List.map_take,List.map_drop,irow,brow,zAF,List.map_cons,List.map_nil,zAy,Nd.encs_eq,Nd.enc,zAh,zAg,zAi,zAs,zAu,zAn])⟩,trivial⟩ rfl rfl rfl rfl rfl) ?_;refine zAC ?_
       refine ⟨(k,l12,l6.take (IntKind.i64.wrap ((l6.length : Int) - 1)).toNat),h,(Le.rename [(0,0),(1,1),(2,2)] _ _ _ ⟨rfl,rfl,trivial⟩ ⟨rfl,⟨_,rfl,rfl⟩,rfl,⟨_,rfl,rfl⟩,rfl,⟨_,rfl,rfl⟩,trivial⟩ rfl rfl rfl rfl rfl),Nat.lt_succ_self k⟩
     ·replace h:=zAq hb h;refine zAj ?_;show Tri _ _ _ _;refine zAa ?_;refine zAb [] [] rfl ?_;refine And.intro (zAw (fun _ => rfl) he10).2.2 ?_;refine ⟨_,(zAw (fun _ => rfl) he10).2.1,?_⟩
      have hset16:=(rset (R:=(List.map zAn)) (f:=zAn) (fun _ => rfl) he10 (Nd.mk e10_node_kind e10_node_text e10_node_cols e10_node_kids,IntKind.i64.wrap (e10_kids + 1)) 1 2 [.int .i64 (IntKind.i64.wrap (e10_kids + 1))] rfl)
      have hat16:=at_set he10 (Nd.mk e10_node_kind e10_node_text e10_node_cols e10_node_kids,IntKind.i64.wrap (e10_kids + 1))
      refine And.intro (zAw (fun _ => rfl) he10).2.2 ?_;show Tri _ _ _ _;refine zAa ?_;refine zAb [] [63] rfl ?_;refine And.intro ((congrArg (fun r : List (List S) => (IntKind.i64.wrap ((l6.length : Int) - 1)).toNat < r.length) hset16).mpr (zAw (fun _ => rfl) hat16).2.2) ?_;refine ⟨_,(congrArg (fun r : List (List S) => r.getD (IntKind.i64.wrap ((l6.length : Int) - 1)).toNat []) hset16).trans (zAw (fun _ => rfl) hat16).2.1,?_⟩
      obtain ⟨⟨e17_kind,e17_text,e17_cols,e17_kids⟩,he17,h⟩:=zAc h;refine And.intro (zAw Nd.encs_eq he17).1 ?_;intro r18 hr18;obtain rfl : [.int .i64 e17_kind,.str e17_text,.int .i64 e17_cols,.sl 4 (Nd.encs e17_kids)] = r18:=(hr18.trans (zAw Nd.encs_eq he17).2.1).symm;show Tri _ _ _ _
      refine zAm (Le.rename [(0,0),(1,1),(2,2)] [(3,.op 0 0),(4,.orow 2),(6,.s (.int .i64 e10_kids)),(7,.s (.pt [.int .i64 e17_kind,.str e17_text,.int .i64 e17_cols,.sl 4 (Nd.encs e17_kids)]))] [(0,.box 137 (zA2 (.op 0 39) (.orow 1))),(1,.row 5 1 ((List.map brow) l5)),(2,.row 140 2 ((List.map zAn) (l6.set (IntKind.i64.wrap ((l6.length : Int) - 1)).toNat (Nd.mk e10_node_kind e10_node_text e10_node_cols e10_node_kids,IntKind.i64.wrap (e10_kids + 1)))))] 3 ⟨rfl,rfl,rfl,rfl,trivial⟩ ⟨rfl,⟨_,rfl,rfl⟩,rfl,⟨_,rfl,rfl⟩,rfl,⟨_,rfl,congrArg (Ob.row 140 2) hset16⟩,trivial⟩ rfl rfl rfl rfl rfl) ?_;refine zAa ?_
      refine zAz (by exact tokW) (by exact gok) (by exact mixed) [] [69] [6] rfl (by decide +kernel) ?_;obtain ⟨c19,hc19,h⟩:=zAc h;refine And.intro (zA4 hc19).1 ?_;intro v20 hv20;obtain rfl : (c19.toNat : Int) = v20:=(hv20.trans (zA4 hc19).2).symm;obtain ⟨⟨_,b22⟩,hy21,h⟩:=zAc h;refine ⟨_,_,⟨_,_,_,_,hy21,rfl,rfl,rfl,rfl⟩,?_⟩
      show Tri _ _ _ _;refine zAa ?_;refine zAb [] [] rfl ?_;obtain ⟨b23,hb23,h⟩:=zAc h;refine ⟨_,_,(Or.inl ⟨_,_,_,_,hb23,rfl,rfl,rfl,rfl⟩),?_⟩
      show Tri _ _ _ _;refine zAb [78] [77] rfl ?_;intro r24 hr24;obtain rfl : (List.map zAn) [(Nd.mk e17_kind e17_text e17_cols e17_kids,0)] = r24:=(hr24.trans (by simp [List.map_append,List.map_take,List.map_drop,irow,brow,zAF,List.map_cons,List.map_nil,zAy,Nd.encs_eq,Nd.enc,zAh,zAg,zAi,zAs,zAu,zAn])).symm;obtain ⟨hq,h⟩:=zAJ h
      refine And.intro (show (((List.map zAn) (l6.set (IntKind.i64.wrap ((l6.length : Int) - 1)).toNat (Nd.mk e10_node_kind e10_node_text e10_node_cols e10_node_kids,IntKind.i64.wrap (e10_kids + 1)))).length + ((List.map zAn) [(Nd.mk e17_kind e17_text e17_cols e17_kids,0)]).length) * 16 ≤ 140737488355328 ∧ ((List.map zAn) (l6.set (IntKind.i64.wrap ((l6.length : Int) - 1)).toNat (Nd.mk e10_node_kind e10_node_text e10_node_cols e10_node_kids,IntKind.i64.wrap (e10_kids + 1)))).length + ((List.map zAn) [(Nd.mk e17_kind e17_text e17_cols e17_kids,0)]).length ≤ 9223372036854775807 from by simp only [List.length_append,List.length_cons,List.length_nil,List.length_map,rlen (fun _ => rfl)] at hq ⊢; omega) ?_
      refine ⟨(k,b23,(l6.set (IntKind.i64.wrap ((l6.length : Int) - 1)).toNat (Nd.mk e10_node_kind e10_node_text e10_node_cols e10_node_kids,IntKind.i64.wrap (e10_kids + 1))) ++ [(Nd.mk e17_kind e17_text e17_cols e17_kids,0)]),h,(Le.trans (Le.rename [(0,0),(4,1),(5,2)] [(3,.op 0 0),(4,.orow 2)] [(0,.box 137 (zA2 (.op 0 39) (.orow 1))),(1,.row 5 1 ((List.map brow) b23)),(2,.row 140 2 ((List.map zAn) ((l6.set (IntKind.i64.wrap ((l6.length : Int) - 1)).toNat (Nd.mk e10_node_kind e10_node_text e10_node_cols e10_node_kids,IntKind.i64.wrap (e10_kids + 1))) ++ [(Nd.mk e17_kind e17_text e17_cols e17_kids,0)])))] 3 ⟨rfl,rfl,trivial⟩ ⟨rfl,⟨_,rfl,rfl⟩,rfl,⟨_,rfl,rfl⟩,rfl,⟨_,rfl,congrArg (Ob.row 140 2) (by simp [List.map_append,List.map_take,List.map_drop,irow,brow,zAF,List.map_cons,List.map_nil,zAy,Nd.encs_eq,Nd.enc,zAh,zAg,zAi,zAs,zAu,zAn])⟩,trivial⟩ rfl rfl rfl rfl rfl) (Le.rename [(0,0),(1,1),(2,2)] _ _ _ ⟨rfl,rfl,trivial⟩ ⟨rfl,⟨_,rfl,rfl⟩,rfl,⟨_,rfl,rfl⟩,rfl,⟨_,rfl,rfl⟩,trivial⟩ rfl rfl rfl rfl rfl)),Nat.lt_succ_self k⟩
    ·replace h:=zAq hb h;refine zAC ?_;cases h;exact (Le.rename [(0,0),(1,1)] _ _ _ ⟨rfl,trivial⟩ ⟨rfl,⟨_,rfl,rfl⟩,rfl,⟨_,rfl,rfl⟩,trivial⟩ rfl rfl rfl rfl rfl)
 ·show Tri _ _ _ _;refine zAm hle ?_;refine zAa ?_;refine zAb [] [] rfl ?_;obtain ⟨y25,hy25,h⟩:=zAc h;refine ⟨_,_,⟨_,_,hy25,rfl,rfl,rfl,rfl⟩,?_⟩
  show Tri _ _ _ _;refine zAv ?_;have hy:=Option.some.inj h;subst hy;unfold zAO;exact ⟨_,Le.refl _ _,rfl,rfl⟩
def zAl (p : (Int × Int)) : List S:=[.int .i64 p.1,.int .i64 p.2]
def zNF (n : Nat) (xs : List AV) (r : Ret) : Prop:=∃ (a0 : List Nd) (a1 : List Nd) (y0 : List (Int × Int)),zDt n a0 a1 = some y0 ∧ xs = [.s (.sl 4 (Nd.encs a0)),.s (.sl 4 (Nd.encs a1))] ∧ r = .row 83 2 ((List.map zAl) y0)
def zGd : zAx:=zAG fun xs r => ∃ n,zNF n xs r
theorem zIe : PSound Tryz.prog 45 zGd:=by
 have gok : ∀ f s,look? f [(37,zHl),(67,zJ2)] = some s → PSound Tryz.prog f s:=zAB (by
  simp only [List.forall_mem_cons]
  exact ⟨zJk,zOI,by simp⟩)
 refine zAS tokW Tryz.call45 Tryz.func45 rfl (fun xs r h => by obtain ⟨n,_,_,_,_,rfl,_⟩:=h; show 2 ≤ 134; decide) 134 rfl ?_;rintro xs r w0 G0 ⟨n,a1,a2,y0,h,rfl,rfl⟩ _;rw [zDt] at h;refine zAa ?_;refine zAb [4] [] rfl ?_;show Tri _ _ _ _;refine zAm (Le.rename [] [(0,.s (.sl 4 (Nd.encs a1))),(1,.s (.sl 4 (Nd.encs a2)))] [] 0 ⟨rfl,rfl,trivial⟩ trivial rfl rfl rfl rfl rfl) ?_;refine zAa ?_;refine zAb [5] [] rfl ?_;obtain ⟨⟨y3_least,y3_pair,y3_first,y3_other⟩,hy3,h⟩:=zAc h;refine ⟨_,⟨_,_,_,_,hy3,rfl,rfl⟩,?_⟩
 show Tri _ _ _ _;refine zAm (Le.giveBox 0 [.sl 1 ((List.map zAu) y3_least),.sl 1 ((List.map zAu) y3_pair),.sl 1 ((List.map (irow .i64)) y3_first),.sl 1 ((List.map (irow .i64)) y3_other)] rfl rfl) ?_;refine zAa ?_;refine zAb [6] [] rfl ?_;show Tri _ _ _ _
 refine zAm (Le.rename [(1,0)] [(0,.s (.sl 4 (Nd.encs a1))),(1,.s (.sl 4 (Nd.encs a2))),(5,.s (.pt [.sl 1 ((List.map zAu) y3_least),.sl 1 ((List.map zAu) y3_pair),.sl 1 ((List.map (irow .i64)) y3_first),.sl 1 ((List.map (irow .i64)) y3_other)])),(6,.orow 0)] [(0,.row 83 2 ((List.map zAl) []))] 1 ⟨rfl,rfl,rfl,rfl,trivial⟩ ⟨rfl,⟨_,rfl,congrArg (Ob.row 83 2) (by simp [List.map_append,List.map_take,List.map_drop,irow,brow,zAF,List.map_cons,List.map_nil,zAy,Nd.encs_eq,Nd.enc,zAh,zAg,zAi,zAs,zAu,zAn,zAl])⟩,trivial⟩ rfl rfl rfl rfl rfl) ?_;refine zAa ?_
 refine zAa ?_;refine zAb [] [] rfl ?_;show Tri _ _ _ _;obtain ⟨l8,hl,h⟩:=zAc h;refine zAp ⟨ofL [(6,.orow 0)],ofH [(0,.row 83 2 ((List.map zAl) l8))],1⟩ ?_ (fun σ' hle => ?_)
 ·refine zAk (zAA (X:=Nat × Int × Int × (List (Int × Int))) (fun y => match y with | (k,x5,x6,l7) => ⟨ofL [(0,.s (.sl 4 (Nd.encs a1))),(1,.s (.sl 4 (Nd.encs a2))),(5,.s (.pt [.sl 1 ((List.map zAu) y3_least),.sl 1 ((List.map zAu) y3_pair),.sl 1 ((List.map (irow .i64)) y3_first),.sl 1 ((List.map (irow .i64)) y3_other)])),(6,.orow 0),(7,.s (.int .i64 x5)),(8,.s (.int .i64 x6))],ofH [(0,.row 83 2 ((List.map zAl) l7))],1⟩) (fun y => zBq n a1 a2 y3_least y3_pair y3_first y3_other y.1 y.2.1 y.2.2.1 y.2.2.2 = some l8) (fun y => y.1) (n,0,0,[]) hl ?_ ?_)
  ·exact (Le.rename [(0,0)] _ _ _ ⟨rfl,rfl,rfl,rfl,rfl,rfl,trivial⟩ ⟨rfl,⟨_,rfl,rfl⟩,trivial⟩ rfl rfl rfl rfl rfl)
  ·rintro ⟨k,x5,x6,l7⟩ h;cases k with
   | zero => cases h
   | succ k =>
    replace h : zBq n a1 a2 y3_least y3_pair y3_first y3_other (k+1) x5 x6 l7 = some l8:=h;rw [zBq] at h;refine zAa ?_;refine zAa ?_;obtain ⟨x9,hj,h⟩:=zAc h;refine zAp ⟨ofL [(0,.s (.sl 4 (Nd.encs a1))),(1,.s (.sl 4 (Nd.encs a2))),(5,.s (.pt [.sl 1 ((List.map zAu) y3_least),.sl 1 ((List.map zAu) y3_pair),.sl 1 ((List.map (irow .i64)) y3_first),.sl 1 ((List.map (irow .i64)) y3_other)])),(6,.orow 0),(7,.s (.int .i64 x5)),(8,.s (.int .i64 x6)),(24,.s (.bool x9))],ofH [(0,.row 83 2 ((List.map zAl) l7))],1⟩ ?_ (fun σ' hle => ?_)
    ·replace h:=hj;refine zAb [] [17,19,22] rfl ?_;intro n10 hn10;obtain rfl : (a1.length : Int) = n10:=(hn10.trans (congrArg (fun m : Nat => (m : Int)) (rlen Nd.encs_eq a1))).symm;intro b hb;cases b with
     | true =>
      replace h:=zAr hb.symm h;intro n11 hn11;obtain rfl : (a2.length : Int) = n11:=(hn11.trans (congrArg (fun m : Nat => (m : Int)) (rlen Nd.encs_eq a2))).symm;cases h;exact (Le.rename [(0,0)] _ _ _ ⟨rfl,rfl,rfl,rfl,rfl,rfl,rfl,trivial⟩ ⟨rfl,⟨_,rfl,rfl⟩,trivial⟩ rfl rfl rfl rfl rfl)
     | false =>
      replace h:=zAq hb.symm h;cases h;exact (Le.rename [(0,0)] _ _ _ ⟨rfl,rfl,rfl,rfl,rfl,rfl,rfl,trivial⟩ ⟨rfl,⟨_,rfl,rfl⟩,trivial⟩ rfl rfl rfl rfl rfl)
    ·show Tri _ _ _ _;refine zAm hle ?_;refine zAe rfl (fun hb => ?_) (fun hb => ?_)
     ·replace h:=zAr hb h;refine zAj ?_;show Tri _ _ _ _;refine zAk ?_;refine zAa ?_;refine zAb [] [28,31] rfl ?_;obtain ⟨e12,he12,h⟩:=zAc h;refine And.intro (zAw (fun _ => rfl) he12).1 ?_;intro r13 hr13;obtain rfl : [.sl 1 ((List.map (irow .i64)) e12)] = r13:=(hr13.trans (zAw (fun _ => rfl) he12).2.1).symm;obtain ⟨e14,he14,h⟩:=zAc h;refine And.intro (zAw (fun _ => rfl) he14).1 ?_;intro r15 hr15;obtain rfl : [.int .i64 e14] = r15:=(hr15.trans (zAw (fun _ => rfl) he14).2.1).symm;show Tri _ _ _ _;refine zAa ?_;refine zAz (by exact tokW) (by exact gok) (by exact mixed) [] [38,41,46] [] rfl (by decide +kernel) ?_
      obtain ⟨e16,he16,h⟩:=zAc h;refine And.intro (zAw (fun _ => rfl) he16).1 ?_;intro r17 hr17;obtain rfl : [.sl 1 ((List.map (irow .i64)) e16)] = r17:=(hr17.trans (zAw (fun _ => rfl) he16).2.1).symm;obtain ⟨e18,he18,h⟩:=zAc h;refine And.intro (zAw (fun _ => rfl) he18).1 ?_;intro r19 hr19;obtain rfl : [.int .i64 e18] = r19:=(hr19.trans (zAw (fun _ => rfl) he18).2.1).symm;obtain ⟨e20,he20,h⟩:=zAc h;refine And.intro (zAw (fun _ => rfl) he20).1 ?_;intro r21 hr21;obtain rfl : [.int .i64 e20] = r21:=(hr21.trans (zAw (fun _ => rfl) he20).2.1).symm;show Tri _ _ _ _;refine zAa ?_
      refine zAz (by exact tokW) (by exact gok) (by exact mixed) [] [54,58,63] [] rfl (by decide +kernel) ?_;obtain ⟨e22,he22,h⟩:=zAc h;refine And.intro (zAw (fun _ => rfl) he22).1 ?_;intro r23 hr23;obtain rfl : [.sl 1 ((List.map (irow .i64)) e22)] = r23:=(hr23.trans (zAw (fun _ => rfl) he22).2.1).symm;obtain ⟨e24,he24,h⟩:=zAc h;refine And.intro (zAw (fun _ => rfl) he24).1 ?_;intro r25 hr25;obtain rfl : [.int .i64 e24] = r25:=(hr25.trans (zAw (fun _ => rfl) he24).2.1).symm;obtain ⟨e26,he26,h⟩:=zAc h;refine And.intro (zAw (fun _ => rfl) he26).1 ?_;intro r27 hr27
      obtain rfl : [.int .i64 e26] = r27:=(hr27.trans (zAw (fun _ => rfl) he26).2.1).symm;show Tri _ _ _ _;refine zAk ?_;refine zAa ?_;obtain ⟨x28,hj,h⟩:=zAc h
      refine zAp ⟨ofL [(0,.s (.sl 4 (Nd.encs a1))),(1,.s (.sl 4 (Nd.encs a2))),(5,.s (.pt [.sl 1 ((List.map zAu) y3_least),.sl 1 ((List.map zAu) y3_pair),.sl 1 ((List.map (irow .i64)) y3_first),.sl 1 ((List.map (irow .i64)) y3_other)])),(6,.orow 0),(7,.s (.int .i64 x5)),(8,.s (.int .i64 x6)),(10,.s (.bool (e14 == (IntKind.i64.wrap (e18 + e20))))),(11,.s (.bool (e14 == (IntKind.i64.wrap (e24 + e26))))),(69,.s (.bool x28))],ofH [(0,.row 83 2 ((List.map zAl) l7))],1⟩ ?_ (fun σ' hle => ?_)
      ·replace h:=hj;refine zAz (by exact tokW) (by exact gok) (by exact mixed) [] [73,76,79,85,89,94,97] [] rfl (by decide +kernel) ?_;obtain ⟨e29,he29,h⟩:=zAc h;refine And.intro (zAw (fun _ => rfl) he29).1 ?_;intro r30 hr30;obtain rfl : [.sl 1 ((List.map (irow .i64)) e29)] = r30:=(hr30.trans (zAw (fun _ => rfl) he29).2.1).symm;obtain ⟨e31,he31,h⟩:=zAc h;refine And.intro (zAw (fun _ => rfl) he31).1 ?_;intro r32 hr32;obtain rfl : [.int .i64 e31] = r32:=(hr32.trans (zAw (fun _ => rfl) he31).2.1).symm;intro b hb;cases b with
       | true =>
        replace h:=zAr hb.symm h;obtain ⟨e33,he33,h⟩:=zAc h;refine And.intro (zAw (fun _ => rfl) he33).1 ?_;intro r34 hr34;obtain rfl : [.sl 1 ((List.map (irow .i64)) e33)] = r34:=(hr34.trans (zAw (fun _ => rfl) he33).2.1).symm;obtain ⟨e35,he35,h⟩:=zAc h;refine And.intro (zAw (fun _ => rfl) he35).1 ?_;intro r36 hr36;obtain rfl : [.int .i64 e35] = r36:=(hr36.trans (zAw (fun _ => rfl) he35).2.1).symm;obtain ⟨e37,he37,h⟩:=zAc h;refine And.intro (zAw (fun _ => rfl) he37).1 ?_;intro r38 hr38;obtain rfl : [.sl 1 ((List.map (irow .i64)) e37)] = r38:=(hr38.trans (zAw (fun _ => rfl) he37).2.1).symm;obtain ⟨e39,he39,h⟩:=zAc h
        refine And.intro (zAw (fun _ => rfl) he39).1 ?_;intro r40 hr40;obtain rfl : [.int .i64 e39] = r40:=(hr40.trans (zAw (fun _ => rfl) he39).2.1).symm;cases h;exact (Le.rename [(0,0)] _ _ _ ⟨rfl,rfl,rfl,rfl,rfl,rfl,rfl,rfl,rfl,trivial⟩ ⟨rfl,⟨_,rfl,rfl⟩,trivial⟩ rfl rfl rfl rfl rfl)
       | false =>
        replace h:=zAq hb.symm h;cases h;exact (Le.rename [(0,0)] _ _ _ ⟨rfl,rfl,rfl,rfl,rfl,rfl,rfl,rfl,rfl,trivial⟩ ⟨rfl,⟨_,rfl,rfl⟩,trivial⟩ rfl rfl rfl rfl rfl)
      ·show Tri _ _ _ _;refine zAm hle ?_;refine zAe rfl (fun hb => ?_) (fun hb => ?_)
       ·replace h:=zAr hb h;refine zAa ?_;refine zAb [107] [106] rfl ?_;intro r41 hr41;obtain rfl : (List.map zAl) [(x5,x6)] = r41:=(hr41.trans (by simp [List.map_append,List.map_take,List.map_drop,irow,brow,zAF,List.map_cons,List.map_nil,zAy,Nd.encs_eq,Nd.enc,zAh,zAg,zAi,zAs,zAu,zAn,zAl])).symm;obtain ⟨hq,h⟩:=zAJ h
        refine And.intro (show (((List.map zAl) l7).length + ((List.map zAl) [(x5,x6)]).length) * 16 ≤ 140737488355328 ∧ ((List.map zAl) l7).length + ((List.map zAl) [(x5,x6)]).length ≤ 9223372036854775807 from by simp only [List.length_append,List.length_cons,List.length_nil,List.length_map,rlen (fun _ => rfl)] at hq ⊢; omega) ?_;show Tri _ _ _ _
        refine zAm (Le.rename [(1,0)] [(0,.s (.sl 4 (Nd.encs a1))),(1,.s (.sl 4 (Nd.encs a2))),(5,.s (.pt [.sl 1 ((List.map zAu) y3_least),.sl 1 ((List.map zAu) y3_pair),.sl 1 ((List.map (irow .i64)) y3_first),.sl 1 ((List.map (irow .i64)) y3_other)])),(6,.orow 0),(7,.s (.int .i64 x5)),(8,.s (.int .i64 x6))] [(0,.row 83 2 ((List.map zAl) (l7 ++ [(x5,x6)])))] 1 ⟨rfl,rfl,rfl,rfl,rfl,rfl,trivial⟩ ⟨rfl,⟨_,rfl,congrArg (Ob.row 83 2) (by simp [List.map_append,List.map_take,List.map_drop,irow,brow,zAF,List.map_cons,List.map_nil,zAy,Nd.encs_eq,Nd.enc,zAh,zAg,zAi,zAs,zAu,zAn,zAl])⟩,trivial⟩ rfl rfl rfl rfl rfl) ?_
        refine zAb [] [] rfl ?_;refine ⟨(k,IntKind.i64.wrap (x5 + 1),IntKind.i64.wrap (x6 + 1),l7 ++ [(x5,x6)]),h,(Le.rename [(0,0)] _ _ _ ⟨rfl,rfl,rfl,rfl,rfl,rfl,trivial⟩ ⟨rfl,⟨_,rfl,rfl⟩,trivial⟩ rfl rfl rfl rfl rfl),Nat.lt_succ_self k⟩
       ·replace h:=zAq hb h;refine zAa ?_;obtain ⟨x42,hj,h⟩:=zAc h;refine zAp ⟨ofL [(0,.s (.sl 4 (Nd.encs a1))),(1,.s (.sl 4 (Nd.encs a2))),(5,.s (.pt [.sl 1 ((List.map zAu) y3_least),.sl 1 ((List.map zAu) y3_pair),.sl 1 ((List.map (irow .i64)) y3_first),.sl 1 ((List.map (irow .i64)) y3_other)])),(6,.orow 0),(7,.s (.int .i64 x5)),(8,.s (.int .i64 x6)),(112,.s (.bool x42))],ofH [(0,.row 83 2 ((List.map zAl) l7))],1⟩ ?_ (fun σ' hle => ?_)
        ·replace h:=hj;refine zAz (by exact tokW) (by exact gok) (by exact mixed) [] [114,117,120,125] [] rfl (by decide +kernel) ?_;intro b hb;cases b with
         | true =>
          replace h:=zAr hb.symm h;intro b hb;cases b with
          | true =>
           replace h:=zAr hb.symm h;cases h;exact (Le.rename [(0,0)] _ _ _ ⟨rfl,rfl,rfl,rfl,rfl,rfl,rfl,trivial⟩ ⟨rfl,⟨_,rfl,rfl⟩,trivial⟩ rfl rfl rfl rfl rfl)
          | false =>
           replace h:=zAq hb.symm h;obtain ⟨⟨e43_kind,e43_text,e43_cols,e43_kids⟩,he43,h⟩:=zAc h;refine And.intro (zAw Nd.encs_eq he43).1 ?_;intro r44 hr44;obtain rfl : [.int .i64 e43_kind,.str e43_text,.int .i64 e43_cols,.sl 4 (Nd.encs e43_kids)] = r44:=(hr44.trans (zAw Nd.encs_eq he43).2.1).symm;obtain ⟨y45,hy45,h⟩:=zAc h;refine ⟨_,⟨_,_,_,hy45,rfl,rfl⟩,?_⟩
           obtain ⟨⟨e46_kind,e46_text,e46_cols,e46_kids⟩,he46,h⟩:=zAc h;refine And.intro (zAw Nd.encs_eq he46).1 ?_;intro r47 hr47;obtain rfl : [.int .i64 e46_kind,.str e46_text,.int .i64 e46_cols,.sl 4 (Nd.encs e46_kids)] = r47:=(hr47.trans (zAw Nd.encs_eq he46).2.1).symm;obtain ⟨y48,hy48,h⟩:=zAc h;refine ⟨_,⟨_,_,_,hy48,rfl,rfl⟩,?_⟩
           cases h;exact (Le.rename [(0,0)] _ _ _ ⟨rfl,rfl,rfl,rfl,rfl,rfl,rfl,trivial⟩ ⟨rfl,⟨_,rfl,rfl⟩,trivial⟩ rfl rfl rfl rfl rfl)
         | false =>
          replace h:=zAq hb.symm h;cases h;exact (Le.rename [(0,0)] _ _ _ ⟨rfl,rfl,rfl,rfl,rfl,rfl,rfl,trivial⟩ ⟨rfl,⟨_,rfl,rfl⟩,trivial⟩ rfl rfl rfl rfl rfl)
        ·show Tri _ _ _ _;refine zAm hle ?_;refine zAe rfl (fun hb => ?_) (fun hb => ?_)
         ·replace h:=zAr hb h;refine zAb [] [] rfl ?_;refine ⟨(k,IntKind.i64.wrap (x5 + 1),x6,l7),h,(Le.rename [(0,0)] _ _ _ ⟨rfl,rfl,rfl,rfl,rfl,rfl,trivial⟩ ⟨rfl,⟨_,rfl,rfl⟩,trivial⟩ rfl rfl rfl rfl rfl),Nat.lt_succ_self k⟩
         ·replace h:=zAq hb h;refine zAb [] [] rfl ?_;refine ⟨(k,x5,IntKind.i64.wrap (x6 + 1),l7),h,(Le.rename [(0,0)] _ _ _ ⟨rfl,rfl,rfl,rfl,rfl,rfl,trivial⟩ ⟨rfl,⟨_,rfl,rfl⟩,trivial⟩ rfl rfl rfl rfl rfl),Nat.lt_succ_self k⟩
     ·replace h:=zAq hb h;refine zAC ?_;cases h;exact (Le.rename [(0,0)] _ _ _ ⟨rfl,trivial⟩ ⟨rfl,⟨_,rfl,rfl⟩,trivial⟩ rfl rfl rfl rfl rfl)
 ·show Tri _ _ _ _;refine zAm hle ?_;refine zAa ?_;refine zAb [] [] rfl ?_;show Tri _ _ _ _;refine zAv ?_;have hy:=Option.some.inj h;subst hy;unfold zAO;exact ⟨_,Le.refl _ _,0,rfl,rfl⟩
end Go.Proofs.YtjdhkpdjecegnaaGreatDoor
