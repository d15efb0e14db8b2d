/-
  Joined out of: DzVA, DzVB, DzVC.
-/
import Derived.Test.YtjdhkpdjecegnaaGreatDoorZc
set_option linter.unusedVariables false
set_option linter.unusedSimpArgs false
set_option maxHeartbeats 2000000
set_option maxRecDepth 100000
namespace Go.Proofs.YtjdhkpdjecegnaaGreatDoor
open Go.Abs
def zOu (xs : List AV) (r : Ret) : Prop:=∃ (a0 : List UInt8) (y0 : Bool),zBV a0 = some y0 ∧ xs = [.s (.str a0)] ∧ r = .val (.s (.bool y0))
def zJU : zAt:=zAC fun xs r => zOu xs r
theorem zNQ : PSound Tryz.prog 80 zJU:=by
 have gok : ∀ (f : Nat) (s : zAt),(fun _ => none : Nat → Option zAt) f = some s → PSound Tryz.prog f s:=fun _ _ h => by cases h
 refine zAJ tokW Tryz.call80 Tryz.func80 rfl (fun xs r h => by obtain ⟨_,_,_,rfl,_⟩:=h; show 1 ≤ 5; decide) 5 rfl ?_;rintro xs r w0 G0 ⟨s1,y0,h,rfl,rfl⟩ _;rw [zBV] at h;refine zAa ?_;refine zAb [] [] rfl ?_;show Tri _ _ _ _;refine zAa ?_;refine zAb [] [] rfl ?_;show Tri _ _ _ _;refine zAh ?_;have hy:=Option.some.inj h;subst hy;unfold zAy;exact ⟨_,Le.refl _ _,rfl,rfl⟩
def zL6 (n : Nat) (xs : List AV) (r : Ret) : Prop:=∃ (a0 : List UInt8) (y0 : Bool),zCU n a0 = some y0 ∧ xs = [.s (.str a0)] ∧ r = .val (.s (.bool y0))
def zHU : zAt:=zAC fun xs r => ∃ n,zL6 n xs r
theorem zLz : PSound Tryz.prog 106 zHU:=by
 have gok : ∀ (f : Nat) (s : zAt),(fun _ => none : Nat → Option zAt) f = some s → PSound Tryz.prog f s:=fun _ _ h => by cases h
 refine zAJ tokW Tryz.call106 Tryz.func106 rfl (fun xs r h => by obtain ⟨n,_,_,_,rfl,_⟩:=h; show 1 ≤ 21; decide) 21 rfl ?_;rintro xs r w0 G0 ⟨n,s1,y0,h,rfl,rfl⟩ _;rw [zCU] at h;refine zAa ?_;refine zAb [] [] rfl ?_;show Tri _ _ _ _;refine zAa ?_;refine zAa ?_;refine zAb [] [] rfl ?_;show Tri _ _ _ _;obtain ⟨fl,hl,ho1⟩:=zAc h;refine zDF (fl:=fl) (fun z => match z with | _ => ⟨ofL [],fun _ => none,0⟩) ?_ (fun z σ' hz hle => ?_)
 ·refine zAi (zAG (X:=Nat × Int) (fun y => match y with | (k,i2) => ⟨ofL [(0,.s (.str s1)),(3,.s (.int .i64 i2))],fun _ => none,0⟩) (fun y => zBr s1 y.1 y.2 = some fl) (fun y => y.1) (n,0) hl ?_ ?_)
  ·exact (Le.forget _ ⟨rfl,rfl,trivial⟩)
  ·rintro ⟨k,i2⟩ h;cases k with
   | zero => cases h
   | succ k =>
    replace h : zBr s1 (k+1) i2 = some fl:=h;rw [zBr] at h;refine zAa ?_;refine zAa ?_;refine zAb [] [] rfl ?_;show Tri _ _ _ _;refine zAd rfl (fun hb => ?_) (fun hb => ?_)
    ·replace h:=zAm hb h;refine zAg ?_;show Tri _ _ _ _;refine zAa ?_;refine zAi ?_;refine zAa ?_;refine zAb [] [13] rfl ?_;obtain ⟨c3,hc3,h⟩:=zAc h;refine And.intro (zBe hc3).1 ?_;intro v4 hv4;obtain rfl : (c3.toNat : Int) = v4:=(hv4.trans (zBe hc3).2).symm;show Tri _ _ _ _;refine zAa ?_;obtain ⟨x5,hj,h⟩:=zAc h;refine zAp ⟨ofL [(0,.s (.str s1)),(3,.s (.int .i64 i2)),(20,.s (.bool x5))],fun _ => none,0⟩ ?_ (fun σ' hle => ?_)
     ·replace h:=hj;refine zAb [] [17] rfl ?_;intro b hb;cases b with
      | true =>
       replace h:=zAm hb.symm h;cases h;exact (Le.forget _ ⟨rfl,rfl,rfl,trivial⟩)
      | false =>
       replace h:=zAl hb.symm h;cases h;exact (Le.forget _ ⟨rfl,rfl,rfl,trivial⟩)
     ·show Tri _ _ _ _;refine zAk hle ?_;refine zAd rfl (fun hb => ?_) (fun hb => ?_)
      ·replace h:=zAm hb h;refine zAa ?_;refine zAb [] [] rfl ?_;show Tri _ _ _ _;refine zAh ?_;cases h;replace h : some _ = some _:=ho1;have hy:=Option.some.inj h;subst hy;unfold zAy;exact ⟨_,Le.refl _ _,rfl,rfl⟩
      ·replace h:=zAl hb h;refine zAg ?_;show Tri _ _ _ _;refine zAb [] [] rfl ?_;refine ⟨(k,IntKind.i64.wrap (i2 + 1)),h,(Le.forget _ ⟨rfl,rfl,trivial⟩),Nat.lt_succ_self k⟩
    ·replace h:=zAl hb h;refine zAI ?_;cases h;exact ⟨_,rfl,(Le.forget _ trivial)⟩
 ·subst hz;obtain _:=z;replace h:=ho1;show Tri _ _ _ _;refine zAk hle ?_;refine zAa ?_;refine zAb [] [] rfl ?_;show Tri _ _ _ _;refine zAh ?_;have hy:=Option.some.inj h;subst hy;unfold zAy;exact ⟨_,Le.refl _ _,rfl,rfl⟩
def zL5 (xs : List AV) (r : Ret) : Prop:=∃ (a0 : List UInt8) (y0 : Bool),zDD a0 = some y0 ∧ xs = [.s (.str a0)] ∧ r = .val (.s (.bool y0))
def zHT : zAt:=zAC fun xs r => zL5 xs r
theorem zLy : PSound Tryz.prog 108 zHT:=by
 have gok : ∀ (f : Nat) (s : zAt),(fun _ => none : Nat → Option zAt) f = some s → PSound Tryz.prog f s:=fun _ _ h => by cases h
 refine zAJ tokW Tryz.call108 Tryz.func108 rfl (fun xs r h => by obtain ⟨_,_,_,rfl,_⟩:=h; show 1 ≤ 9; decide) 9 rfl ?_;rintro xs r w0 G0 ⟨s1,y0,h,rfl,rfl⟩ _;rw [zDD] at h;refine zAa ?_;refine zAb [] [] rfl ?_;show Tri _ _ _ _;refine zAa ?_;refine zAa ?_;refine zAb [] [] rfl ?_;show Tri _ _ _ _;obtain ⟨fl,hj,ho1⟩:=zAc h;refine zDF (fl:=fl) (fun z => match z with | _ => ⟨ofL [],fun _ => none,0⟩) ?_ (fun z σ' hz hle => ?_)
 ·replace h:=hj;refine zAi ?_;refine zAa ?_;refine zAa ?_;refine zAb [] [] rfl ?_;show Tri _ _ _ _;obtain ⟨x2,hj,h⟩:=zAc h;refine zAp ⟨ofL [(4,.s (.bool x2))],fun _ => none,0⟩ ?_ (fun σ' hle => ?_)
  ·replace h:=hj;refine zAd rfl (fun hb => ?_) (fun hb => ?_)
   ·replace h:=zAm hb h;refine zAg ?_;cases h;exact (Le.forget _ ⟨rfl,trivial⟩)
   ·replace h:=zAl hb h;refine zAa ?_;refine zAb [] [] rfl ?_;show Tri _ _ _ _;refine zAd rfl (fun hb => ?_) (fun hb => ?_)
    ·replace h:=zAm hb h;refine zAg ?_;cases h;exact (Le.forget _ ⟨rfl,trivial⟩)
    ·replace h:=zAl hb h;refine zAa ?_;refine zAb [] [] rfl ?_;show Tri _ _ _ _;refine zAd rfl (fun hb => ?_) (fun hb => ?_)
     ·replace h:=zAm hb h;refine zAg ?_;cases h;exact (Le.forget _ ⟨rfl,trivial⟩)
     ·replace h:=zAl hb h;refine zAb [] [] rfl ?_;cases h;exact (Le.forget _ ⟨rfl,trivial⟩)
  ·show Tri _ _ _ _;refine zAk hle ?_;refine zAd rfl (fun hb => ?_) (fun hb => ?_)
   ·replace h:=zAm hb h;refine zAa ?_;refine zAb [] [] rfl ?_;show Tri _ _ _ _;refine zAh ?_;cases h;replace h : some _ = some _:=ho1;have hy:=Option.some.inj h;subst hy;unfold zAy;exact ⟨_,Le.refl _ _,rfl,rfl⟩
   ·replace h:=zAl hb h;refine zAg ?_;cases h;exact ⟨_,rfl,(Le.forget _ trivial)⟩
 ·subst hz;obtain _:=z;replace h:=ho1;show Tri _ _ _ _;refine zAk hle ?_;refine zAa ?_;refine zAb [] [] rfl ?_;show Tri _ _ _ _;refine zAh ?_;have hy:=Option.some.inj h;subst hy;unfold zAy;exact ⟨_,Le.refl _ _,rfl,rfl⟩
def zNk (xs : List AV) (r : Ret) : Prop:=∃ (a0 : List UInt8) (y0 : Bool),zDk a0 = some y0 ∧ xs = [.s (.str a0)] ∧ r = .val (.s (.bool y0))
def zGq : zAt:=zAC fun xs r => zNk xs r
theorem zH0 : PSound Tryz.prog 84 zGq:=by
 have gok : ∀ (f : Nat) (s : zAt),(fun _ => none : Nat → Option zAt) f = some s → PSound Tryz.prog f s:=fun _ _ h => by cases h
 refine zAJ tokW Tryz.call84 Tryz.func84 rfl (fun xs r h => by obtain ⟨_,_,_,rfl,_⟩:=h; show 1 ≤ 11; decide) 11 rfl ?_;rintro xs r w0 G0 ⟨s1,y0,h,rfl,rfl⟩ _;rw [zDk] at h;refine zAa ?_;refine zAb [] [] rfl ?_;show Tri _ _ _ _;refine zAa ?_;refine zAa ?_;refine zAb [] [] rfl ?_;show Tri _ _ _ _;obtain ⟨fl,hj,ho1⟩:=zAc h;refine zDF (fl:=fl) (fun z => match z with | _ => ⟨ofL [],fun _ => none,0⟩) ?_ (fun z σ' hz hle => ?_)
 ·replace h:=hj;refine zAi ?_;refine zAa ?_;refine zAa ?_;refine zAb [] [] rfl ?_;show Tri _ _ _ _;obtain ⟨x2,hj,h⟩:=zAc h;refine zAp ⟨ofL [(4,.s (.bool x2))],fun _ => none,0⟩ ?_ (fun σ' hle => ?_)
  ·replace h:=hj;refine zAd rfl (fun hb => ?_) (fun hb => ?_)
   ·replace h:=zAm hb h;refine zAg ?_;cases h;exact (Le.forget _ ⟨rfl,trivial⟩)
   ·replace h:=zAl hb h;refine zAa ?_;refine zAb [] [] rfl ?_;show Tri _ _ _ _;refine zAd rfl (fun hb => ?_) (fun hb => ?_)
    ·replace h:=zAm hb h;refine zAg ?_;cases h;exact (Le.forget _ ⟨rfl,trivial⟩)
    ·replace h:=zAl hb h;refine zAa ?_;refine zAb [] [] rfl ?_;show Tri _ _ _ _;refine zAd rfl (fun hb => ?_) (fun hb => ?_)
     ·replace h:=zAm hb h;refine zAg ?_;cases h;exact (Le.forget _ ⟨rfl,trivial⟩)
     ·replace h:=zAl hb h;refine zAa ?_;refine zAb [] [] rfl ?_;show Tri _ _ _ _;refine zAd rfl (fun hb => ?_) (fun hb => ?_)
      ·replace h:=zAm hb h;refine zAg ?_;cases h;exact (Le.forget _ ⟨rfl,trivial⟩)
      ·replace h:=zAl hb h;refine zAa ?_;refine zAb [] [] rfl ?_;show Tri _ _ _ _;refine zAd rfl (fun hb => ?_) (fun hb => ?_)
       ·replace h:=zAm hb h;refine zAg ?_;cases h;exact (Le.forget _ ⟨rfl,trivial⟩)
       ·replace h:=zAl hb h;refine zAb [] [] rfl ?_;cases h;exact (Le.forget _ ⟨rfl,trivial⟩)
  ·show Tri _ _ _ _;refine zAk hle ?_;refine zAd rfl (fun hb => ?_) (fun hb => ?_)
   ·replace h:=zAm hb h;refine zAa ?_;refine zAb [] [] rfl ?_;show Tri _ _ _ _;refine zAh ?_;cases h;replace h : some _ = some _:=ho1;have hy:=Option.some.inj h;subst hy;unfold zAy;exact ⟨_,Le.refl _ _,rfl,rfl⟩
   ·replace h:=zAl hb h;refine zAg ?_;cases h;exact ⟨_,rfl,(Le.forget _ trivial)⟩
 ·subst hz;obtain _:=z;replace h:=ho1;show Tri _ _ _ _;refine zAk hle ?_;refine zAa ?_;refine zAb [] [] rfl ?_;show Tri _ _ _ _;refine zAh ?_;have hy:=Option.some.inj h;subst hy;unfold zAy;exact ⟨_,Le.refl _ _,rfl,rfl⟩
def zNj (n : Nat) (xs : List AV) (r : Ret) : Prop:=∃ (a0 : List UInt8) (y0 : Bool),zD8 n a0 = some y0 ∧ xs = [.s (.str a0)] ∧ r = .val (.s (.bool y0))
def zIL : zAt:=zAC fun xs r => ∃ n,zNj n xs r
theorem zMk : PSound Tryz.prog 81 zIL:=by
 have gok : ∀ f s,look? f [(106,zHU),(107,zFE),(108,zHT),(84,zGq)] = some s → PSound Tryz.prog f s:=zAu (by
  simp only [List.forall_mem_cons]
  exact ⟨zLz,zIr,zLy,zH0,by simp⟩)
 refine zAJ tokW Tryz.call81 Tryz.func81 rfl (fun xs r h => by obtain ⟨n,_,_,_,rfl,_⟩:=h; show 1 ≤ 34; decide) 34 rfl ?_;rintro xs r w0 G0 ⟨n,s1,y0,h,rfl,rfl⟩ _;rw [zD8] at h;refine zAa ?_;refine zAb [] [] rfl ?_;show Tri _ _ _ _;refine zAa ?_;refine zAa ?_;refine zAb [] [] rfl ?_;show Tri _ _ _ _;refine zAd rfl (fun hb => ?_) (fun hb => ?_)
 ·replace h:=zAm hb h;refine zAa ?_;obtain ⟨x2,hj,h⟩:=zAc h;refine zAp ⟨ofL [(2,.s (.bool x2))],fun _ => none,0⟩ ?_ (fun σ' hle => ?_)
  ·replace h:=hj;refine zAb [] [8] rfl ?_;obtain ⟨y3,hy3,h⟩:=zAc h;refine ⟨_,⟨_,_,_,hy3,rfl,rfl⟩,?_⟩
   intro b hb;cases b with
   | true =>
    replace h:=zAm hb.symm h;cases h;exact (Le.forget _ ⟨rfl,trivial⟩)
   | false =>
    replace h:=zAl hb.symm h;obtain ⟨y4,hy4,h⟩:=zAc h;refine ⟨_,⟨_,_,_,hy4,rfl,rfl⟩,?_⟩
    cases h;exact (Le.forget _ ⟨rfl,trivial⟩)
  ·show Tri _ _ _ _;refine zAk hle ?_;refine zAh ?_;have hy:=Option.some.inj h;subst hy;unfold zAy;exact ⟨_,Le.refl _ _,rfl,rfl⟩
 ·replace h:=zAl hb h;refine zAg ?_;show Tri _ _ _ _;refine zAa ?_;obtain ⟨x5,hj,h⟩:=zAc h;refine zAp ⟨ofL [(2,.s (.bool x5))],fun _ => none,0⟩ ?_ (fun σ' hle => ?_)
  ·replace h:=hj;refine zAb [] [15,20,24,29] rfl ?_;intro b hb;cases b with
   | true =>
    replace h:=zAm hb.symm h;intro b hb;cases b with
    | true =>
     replace h:=zAm hb.symm h;obtain ⟨y6,hy6,h⟩:=zAc h;refine ⟨_,⟨_,_,_,hy6,rfl,rfl⟩,?_⟩
     intro b hb;cases b with
     | true =>
      replace h:=zAm hb.symm h;obtain ⟨y7,hy7,h⟩:=zAc h;refine ⟨_,⟨_,_,hy7,rfl,rfl⟩,?_⟩
      intro b hb;cases b with
      | true =>
       replace h:=zAm hb.symm h;obtain ⟨y8,hy8,h⟩:=zAc h;refine ⟨_,⟨_,_,hy8,rfl,rfl⟩,?_⟩
       cases h;exact (Le.forget _ ⟨rfl,trivial⟩)
      | false =>
       replace h:=zAl hb.symm h;cases h;exact (Le.forget _ ⟨rfl,trivial⟩)
     | false =>
      replace h:=zAl hb.symm h;intro b hb;subst hb;cases h;exact (Le.forget _ ⟨rfl,trivial⟩)
    | false =>
     replace h:=zAl hb.symm h;intro b hb;subst hb;intro b hb;subst hb;cases h;exact (Le.forget _ ⟨rfl,trivial⟩)
   | false =>
    replace h:=zAl hb.symm h;intro b hb;subst hb;intro b hb;subst hb;intro b hb;subst hb;cases h;exact (Le.forget _ ⟨rfl,trivial⟩)
  ·show Tri _ _ _ _;refine zAk hle ?_;refine zAh ?_;have hy:=Option.some.inj h;subst hy;unfold zAy;exact ⟨_,Le.refl _ _,rfl,rfl⟩
def zJs (xs : List AV) (r : Ret) : Prop:=∃ (a0 : List UInt8) (a1 : List UInt8) (y0 : List UInt8) (y1 : List UInt8) (y2 : Bool),zCv a0 a1 = some (y0,y1,y2) ∧ xs = [.s (.str a0),.s (.str a1)] ∧ r = .val (.tup [.s (.str y0),.s (.str y1),.s (.bool y2)])
def zF4 : zAt:=zAC fun xs r => zJs xs r
theorem zJc : PSound Tryz.prog 121 zF4:=by
 have gok : ∀ f s,look? f [(126,zFj)] = some s → PSound Tryz.prog f s:=zAu (by
  simp only [List.forall_mem_cons]
  exact ⟨zHQ,by simp⟩)
 refine zAJ tokW Tryz.call121 Tryz.func121 rfl (fun xs r h => by obtain ⟨_,_,_,_,_,_,rfl,_⟩:=h; show 2 ≤ 23; decide) 23 rfl ?_;rintro xs r w0 G0 ⟨s1,sep2,y0,y1,y2,h,rfl,rfl⟩ _;rw [zCv] at h;refine zAa ?_;refine zAb [] [] rfl ?_;show Tri _ _ _ _;refine zAa ?_;refine zAa ?_;refine zAb [] [] rfl ?_;obtain ⟨y3,hy3,h⟩:=zAc h;refine ⟨_,⟨_,_,_,hy3,rfl,rfl⟩,?_⟩
 show Tri _ _ _ _;refine zAa ?_;refine zAb [] [] rfl ?_;show Tri _ _ _ _;refine zAd rfl (fun hb => ?_) (fun hb => ?_)
 ·replace h:=zAm hb h;refine zAa ?_;refine zAF (by exact tokW) (by exact gok) (by exact mixed) [] [] [] rfl (by decide +kernel) ?_;obtain ⟨hq,h⟩:=zAU h;refine And.intro hq ?_;obtain ⟨hq,h⟩:=zAU h;refine And.intro hq ?_;show Tri _ _ _ _;refine zAh ?_;obtain ⟨hj1,hk1⟩:=Prod.mk.inj (Option.some.inj h)
  subst hj1;obtain ⟨hj2,hk2⟩:=Prod.mk.inj hk1;subst hj2;subst hk2;unfold zAy;exact ⟨_,Le.refl _ _,rfl,rfl⟩
 ·replace h:=zAl hb h;refine zAg ?_;show Tri _ _ _ _;refine zAa ?_;refine zAb [] [] rfl ?_;show Tri _ _ _ _;refine zAh ?_;obtain ⟨hj1,hk1⟩:=Prod.mk.inj (Option.some.inj h)
  subst hj1;obtain ⟨hj2,hk2⟩:=Prod.mk.inj hk1;subst hj2;subst hk2;unfold zAy;exact ⟨_,Le.refl _ _,rfl,rfl⟩
def zNn (xs : List AV) (r : Ret) : Prop:=∃ (a0 : List UInt8) (a1 : List UInt8) (y0 : List UInt8) (y1 : List UInt8) (y2 : Bool),zEb a0 a1 = some (y0,y1,y2) ∧ xs = [.s (.str a0),.s (.str a1)] ∧ r = .val (.tup [.s (.str y0),.s (.str y1),.s (.bool y2)])
def zIN : zAt:=zAC fun xs r => zNn xs r
theorem zMm : PSound Tryz.prog 109 zIN:=by
 have gok : ∀ f s,look? f [(121,zF4)] = some s → PSound Tryz.prog f s:=zAu (by
  simp only [List.forall_mem_cons]
  exact ⟨zJc,by simp⟩)
 refine zAJ tokW Tryz.call109 Tryz.func109 rfl (fun xs r h => by obtain ⟨_,_,_,_,_,_,rfl,_⟩:=h; show 2 ≤ 13; decide) 13 rfl ?_;rintro xs r w0 G0 ⟨s1,sep2,y0,y1,y2,h,rfl,rfl⟩ _;rw [zEb] at h;refine zAa ?_;refine zAb [] [] rfl ?_;show Tri _ _ _ _;refine zAa ?_;refine zAb [] [] rfl ?_;obtain ⟨⟨y3,y4,y5⟩,hy3,h⟩:=zAc h;refine ⟨_,⟨_,_,_,_,_,hy3,rfl,rfl⟩,?_⟩
 show Tri _ _ _ _;refine zAh ?_;obtain ⟨hj1,hk1⟩:=Prod.mk.inj (Option.some.inj h)
 subst hj1;obtain ⟨hj2,hk2⟩:=Prod.mk.inj hk1;subst hj2;subst hk2;unfold zAy;exact ⟨_,Le.refl _ _,rfl,rfl⟩
def zNl (n : Nat) (xs : List AV) (r : Ret) : Prop:=∃ (a0 : List UInt8) (y0 : Bool),zDl n a0 = some y0 ∧ xs = [.s (.str a0)] ∧ r = .val (.s (.bool y0))
def zIM : zAt:=zAC fun xs r => ∃ n,zNl n xs r
theorem zMl : PSound Tryz.prog 110 zIM:=by
 have gok : ∀ (f : Nat) (s : zAt),(fun _ => none : Nat → Option zAt) f = some s → PSound Tryz.prog f s:=fun _ _ h => by cases h
 refine zAJ tokW Tryz.call110 Tryz.func110 rfl (fun xs r h => by obtain ⟨n,_,_,_,rfl,_⟩:=h; show 1 ≤ 22; decide) 22 rfl ?_;rintro xs r w0 G0 ⟨n,s1,y0,h,rfl,rfl⟩ _;rw [zDl] at h;refine zAa ?_;refine zAb [] [] rfl ?_;show Tri _ _ _ _;refine zAa ?_;refine zAa ?_;refine zAb [] [] rfl ?_;show Tri _ _ _ _;obtain ⟨fl,hl,ho1⟩:=zAc h;refine zDF (fl:=fl) (fun z => match z with | _ => ⟨ofL [(0,.s (.str s1))],fun _ => none,0⟩) ?_ (fun z σ' hz hle => ?_)
 ·refine zAi (zAG (X:=Nat × Int) (fun y => match y with | (k,i2) => ⟨ofL [(0,.s (.str s1)),(3,.s (.int .i64 i2))],fun _ => none,0⟩) (fun y => zBA s1 y.1 y.2 = some fl) (fun y => y.1) (n,0) hl ?_ ?_)
  ·exact (Le.forget _ ⟨rfl,rfl,trivial⟩)
  ·rintro ⟨k,i2⟩ h;cases k with
   | zero => cases h
   | succ k =>
    replace h : zBA s1 (k+1) i2 = some fl:=h;rw [zBA] at h;refine zAa ?_;refine zAa ?_;refine zAb [] [] rfl ?_;show Tri _ _ _ _;refine zAd rfl (fun hb => ?_) (fun hb => ?_)
    ·replace h:=zAm hb h;refine zAg ?_;show Tri _ _ _ _;refine zAa ?_;refine zAi ?_;refine zAa ?_;obtain ⟨x3,hj,h⟩:=zAc h;refine zAp ⟨ofL [(0,.s (.str s1)),(3,.s (.int .i64 i2)),(19,.s (.bool x3))],fun _ => none,0⟩ ?_ (fun σ' hle => ?_)
     ·replace h:=hj;refine zAb [] [12,14,17] rfl ?_;obtain ⟨c4,hc4,h⟩:=zAc h;refine And.intro (zBe hc4).1 ?_;intro v5 hv5;obtain rfl : (c4.toNat : Int) = v5:=(hv5.trans (zBe hc4).2).symm;intro b hb;cases b with
      | true =>
       replace h:=zAm hb.symm h;cases h;exact (Le.forget _ ⟨rfl,rfl,rfl,trivial⟩)
      | false =>
       replace h:=zAl hb.symm h;obtain ⟨c6,hc6,h⟩:=zAc h;refine And.intro (zBe hc6).1 ?_;intro v7 hv7;obtain rfl : (c6.toNat : Int) = v7:=(hv7.trans (zBe hc6).2).symm;cases h;exact (Le.forget _ ⟨rfl,rfl,rfl,trivial⟩)
     ·show Tri _ _ _ _;refine zAk hle ?_;refine zAd rfl (fun hb => ?_) (fun hb => ?_)
      ·replace h:=zAm hb h;refine zAa ?_;refine zAb [] [] rfl ?_;show Tri _ _ _ _;refine zAh ?_;cases h;replace h : some _ = some _:=ho1;have hy:=Option.some.inj h;subst hy;unfold zAy;exact ⟨_,Le.refl _ _,rfl,rfl⟩
      ·replace h:=zAl hb h;refine zAg ?_;show Tri _ _ _ _;refine zAb [] [] rfl ?_;refine ⟨(k,IntKind.i64.wrap (i2 + 1)),h,(Le.forget _ ⟨rfl,rfl,trivial⟩),Nat.lt_succ_self k⟩
    ·replace h:=zAl hb h;refine zAI ?_;cases h;exact ⟨_,rfl,(Le.forget _ ⟨rfl,trivial⟩)⟩
 ·subst hz;obtain _:=z;replace h:=ho1;show Tri _ _ _ _;refine zAk hle ?_;refine zAa ?_;refine zAb [] [] rfl ?_;show Tri _ _ _ _;refine zAh ?_;have hy:=Option.some.inj h;subst hy;unfold zAy;exact ⟨_,Le.refl _ _,rfl,rfl⟩
def zNi (n : Nat) (xs : List AV) (r : Ret) : Prop:=∃ (a0 : List UInt8) (y0 : Bool),zDj n a0 = some y0 ∧ xs = [.s (.str a0)] ∧ r = .val (.s (.bool y0))
def zIK : zAt:=zAC fun xs r => ∃ n,zNi n xs r
theorem zMj : PSound Tryz.prog 82 zIK:=by
 have gok : ∀ f s,look? f [(109,zIN),(110,zIM)] = some s → PSound Tryz.prog f s:=zAu (by
  simp only [List.forall_mem_cons]
  exact ⟨zMm,zMl,by simp⟩)
 refine zAJ tokW Tryz.call82 Tryz.func82 rfl (fun xs r h => by obtain ⟨n,_,_,_,rfl,_⟩:=h; show 1 ≤ 27; decide) 27 rfl ?_;rintro xs r w0 G0 ⟨n,s1,y0,h,rfl,rfl⟩ _;rw [zDj] at h;refine zAa ?_;refine zAb [] [] rfl ?_;show Tri _ _ _ _;refine zAa ?_;refine zAb [] [] rfl ?_;obtain ⟨⟨y2,y3,y4⟩,hy2,h⟩:=zAc h;refine ⟨_,⟨_,_,_,_,_,hy2,rfl,rfl⟩,?_⟩
 show Tri _ _ _ _;refine zAa ?_;obtain ⟨x5,hj,h⟩:=zAc h;refine zAp ⟨ofL [(2,.s (.bool x5))],fun _ => none,0⟩ ?_ (fun σ' hle => ?_)
 ·replace h:=hj;refine zAb [] [15,19,22] rfl ?_;intro b hb;cases b with
  | true =>
   replace h:=zAm hb.symm h;obtain ⟨y6,hy6,h⟩:=zAc h;refine ⟨_,⟨_,_,_,hy6,rfl,rfl⟩,?_⟩
   intro b hb;cases b with
   | true =>
    replace h:=zAm hb.symm h;intro b hb;cases b with
    | true =>
     replace h:=zAm hb.symm h;cases h;exact (Le.forget _ ⟨rfl,trivial⟩)
    | false =>
     replace h:=zAl hb.symm h;obtain ⟨y7,hy7,h⟩:=zAc h;refine ⟨_,⟨_,_,_,hy7,rfl,rfl⟩,?_⟩
     cases h;exact (Le.forget _ ⟨rfl,trivial⟩)
   | false =>
    replace h:=zAl hb.symm h;cases h;exact (Le.forget _ ⟨rfl,trivial⟩)
  | false =>
   replace h:=zAl hb.symm h;intro b hb;subst hb;cases h;exact (Le.forget _ ⟨rfl,trivial⟩)
 ·show Tri _ _ _ _;refine zAk hle ?_;refine zAh ?_;have hy:=Option.some.inj h;subst hy;unfold zAy;exact ⟨_,Le.refl _ _,rfl,rfl⟩
def zOx (n : Nat) (xs : List AV) (r : Ret) : Prop:=∃ (a0 : List UInt8) (y0 : Bool),zEF n a0 = some y0 ∧ xs = [.s (.str a0)] ∧ r = .val (.s (.bool y0))
def zJW : zAt:=zAC fun xs r => ∃ n,zOx n xs r
theorem zNS : PSound Tryz.prog 83 zJW:=by
 have gok : ∀ (f : Nat) (s : zAt),(fun _ => none : Nat → Option zAt) f = some s → PSound Tryz.prog f s:=fun _ _ h => by cases h
 refine zAJ tokW Tryz.call83 Tryz.func83 rfl (fun xs r h => by obtain ⟨n,_,_,_,rfl,_⟩:=h; show 1 ≤ 23; decide) 23 rfl ?_;rintro xs r w0 G0 ⟨n,s1,y0,h,rfl,rfl⟩ _;rw [zEF] at h;refine zAa ?_;refine zAb [] [] rfl ?_;show Tri _ _ _ _;refine zAa ?_;refine zAa ?_;refine zAb [] [] rfl ?_;show Tri _ _ _ _;obtain ⟨fl,hl,ho1⟩:=zAc h;refine zDF (fl:=fl) (fun z => match z with | _ => ⟨ofL [(0,.s (.str s1))],fun _ => none,0⟩) ?_ (fun z σ' hz hle => ?_)
 ·refine zAi (zAG (X:=Nat × Int) (fun y => match y with | (k,i2) => ⟨ofL [(0,.s (.str s1)),(3,.s (.int .i64 i2))],fun _ => none,0⟩) (fun y => zBF s1 y.1 y.2 = some fl) (fun y => y.1) (n,0) hl ?_ ?_)
  ·exact (Le.forget _ ⟨rfl,rfl,trivial⟩)
  ·rintro ⟨k,i2⟩ h;cases k with
   | zero => cases h
   | succ k =>
    replace h : zBF s1 (k+1) i2 = some fl:=h;rw [zBF] at h;refine zAa ?_;refine zAa ?_;refine zAb [] [] rfl ?_;show Tri _ _ _ _;refine zAd rfl (fun hb => ?_) (fun hb => ?_)
    ·replace h:=zAm hb h;refine zAg ?_;show Tri _ _ _ _;refine zAa ?_;refine zAi ?_;refine zAa ?_;obtain ⟨x3,hj,h⟩:=zAc h;refine zAp ⟨ofL [(0,.s (.str s1)),(3,.s (.int .i64 i2)),(19,.s (.bool x3))],fun _ => none,0⟩ ?_ (fun σ' hle => ?_)
     ·replace h:=hj;refine zAb [] [12,14,17] rfl ?_;obtain ⟨c4,hc4,h⟩:=zAc h;refine And.intro (zBe hc4).1 ?_;intro v5 hv5;obtain rfl : (c4.toNat : Int) = v5:=(hv5.trans (zBe hc4).2).symm;intro b hb;cases b with
      | true =>
       replace h:=zAm hb.symm h;cases h;exact (Le.forget _ ⟨rfl,rfl,rfl,trivial⟩)
      | false =>
       replace h:=zAl hb.symm h;obtain ⟨c6,hc6,h⟩:=zAc h;refine And.intro (zBe hc6).1 ?_;intro v7 hv7;obtain rfl : (c6.toNat : Int) = v7:=(hv7.trans (zBe hc6).2).symm;cases h;exact (Le.forget _ ⟨rfl,rfl,rfl,trivial⟩)
     ·show Tri _ _ _ _;refine zAk hle ?_;refine zAd rfl (fun hb => ?_) (fun hb => ?_)
      ·replace h:=zAm hb h;refine zAa ?_;refine zAb [] [] rfl ?_;show Tri _ _ _ _;refine zAh ?_;cases h;replace h : some _ = some _:=ho1;have hy:=Option.some.inj h;subst hy;unfold zAy;exact ⟨_,Le.refl _ _,rfl,rfl⟩
      ·replace h:=zAl hb h;refine zAg ?_;show Tri _ _ _ _;refine zAb [] [] rfl ?_;refine ⟨(k,IntKind.i64.wrap (i2 + 1)),h,(Le.forget _ ⟨rfl,rfl,trivial⟩),Nat.lt_succ_self k⟩
    ·replace h:=zAl hb h;refine zAI ?_;cases h;exact ⟨_,rfl,(Le.forget _ ⟨rfl,trivial⟩)⟩
 ·subst hz;obtain _:=z;replace h:=ho1;show Tri _ _ _ _;refine zAk hle ?_;refine zAa ?_;refine zAb [] [] rfl ?_;show Tri _ _ _ _;refine zAh ?_;have hy:=Option.some.inj h;subst hy;unfold zAy;exact ⟨_,Le.refl _ _,rfl,rfl⟩
def zOv (xs : List AV) (r : Ret) : Prop:=∃ (a0 : List UInt8) (y0 : Bool),zEE a0 = some y0 ∧ xs = [.s (.str a0)] ∧ r = .val (.s (.bool y0))
def zJV : zAt:=zAC fun xs r => zOv xs r
theorem zNR : PSound Tryz.prog 85 zJV:=by
 have gok : ∀ f s,look? f [(111,zFi)] = some s → PSound Tryz.prog f s:=zAu (by
  simp only [List.forall_mem_cons]
  exact ⟨zHP,by simp⟩)
 refine zAJ tokW Tryz.call85 Tryz.func85 rfl (fun xs r h => by obtain ⟨_,_,_,rfl,_⟩:=h; show 1 ≤ 18; decide) 18 rfl ?_;rintro xs r w0 G0 ⟨s1,y0,h,rfl,rfl⟩ _;rw [zEE] at h;refine zAa ?_;refine zAb [] [] rfl ?_;show Tri _ _ _ _;refine zAa ?_;obtain ⟨x2,hj,h⟩:=zAc h;refine zAp ⟨ofL [(2,.s (.bool x2))],fun _ => none,0⟩ ?_ (fun σ' hle => ?_)
 ·replace h:=hj;refine zAb [] [6,8,12,14] rfl ?_;intro b hb;cases b with
  | true =>
   replace h:=zAm hb.symm h;obtain ⟨c3,hc3,h⟩:=zAc h;refine And.intro (zBe hc3).1 ?_;intro v4 hv4;obtain rfl : (c3.toNat : Int) = v4:=(hv4.trans (zBe hc3).2).symm;obtain ⟨y5,hy5,h⟩:=zAc h;refine ⟨_,⟨_,_,_,hy5,rfl,rfl⟩,?_⟩
   intro b hb;cases b with
   | true =>
    replace h:=zAm hb.symm h;obtain ⟨c6,hc6,h⟩:=zAc h;refine And.intro (zBe hc6).1 ?_;intro v7 hv7;obtain rfl : (c6.toNat : Int) = v7:=(hv7.trans (zBe hc6).2).symm;obtain ⟨y8,hy8,h⟩:=zAc h;refine ⟨_,⟨_,_,_,hy8,rfl,rfl⟩,?_⟩
    cases h;exact (Le.forget _ ⟨rfl,trivial⟩)
   | false =>
    replace h:=zAl hb.symm h;cases h;exact (Le.forget _ ⟨rfl,trivial⟩)
  | false =>
   replace h:=zAl hb.symm h;intro b hb;subst hb;cases h;exact (Le.forget _ ⟨rfl,trivial⟩)
 ·show Tri _ _ _ _;refine zAk hle ?_;refine zAh ?_;have hy:=Option.some.inj h;subst hy;unfold zAy;exact ⟨_,Le.refl _ _,rfl,rfl⟩
def zAq (p : Unit) : List S:=[.str [],.int .i64 0,.nf,.str [114,111,119],.int .i64 0,.fn 80,.str [115,121,109],.int .i64 0,.fn 81,.str [110,117,109],.int .i64 0,.fn 82,.str [116,101,120,116],.int .i64 0,.fn 83,.str [102,114,97,99],.int .i64 2,.fn 80,.str [114,111,111,116],.int .i64 2,.fn 80,.str [115,117,98],.int .i64 2,.fn 80,.str [115,117,112],.int .i64 2,.fn 80,.str [98,111,116,104],.int .i64 3,.fn 80,.str [97,99,99,101,110,116],.int .i64 1,.fn 84,.str [102,101,110,99,101],.int .i64 1,.fn 85,.str [109,97,116,114,105,120],.int .i64 0,.fn 80]
def zOw (xs : List AV) (r : Ret) : Prop:=∃ (y0 : Unit),zDY = some y0 ∧ xs = [] ∧ r = .val (.agg ((zAq y0).map .s))
def zGZ : zAt:=zAC fun xs r => zOw xs r
theorem zJa : PSound Tryz.prog 53 zGZ:=by
 have gok : ∀ (f : Nat) (s : zAt),(fun _ => none : Nat → Option zAt) f = some s → PSound Tryz.prog f s:=fun _ _ h => by cases h
 refine zAJ tokW Tryz.call53 Tryz.func53 rfl (fun xs r h => by obtain ⟨_,_,rfl,_⟩:=h; show 0 ≤ 14; decide) 14 rfl ?_;rintro xs r w0 G0 ⟨y0,h,rfl,rfl⟩ _;rw [zDY] at h;refine zAa ?_;refine zAb [0] [] rfl ?_;show Tri _ _ _ _;refine zAa ?_;refine zAb [] [] rfl ?_;show Tri _ _ _ _;refine zAh ?_;have hy:=Option.some.inj h;subst hy;unfold zAy;exact ⟨_,Le.refl _ _,rfl,rfl⟩
def zAn (p : (Unit × Int)) : List S:=[.str [],.int .i64 0,.nf,.str [114,111,119],.int .i64 0,.fn 80,.str [115,121,109],.int .i64 0,.fn 81,.str [110,117,109],.int .i64 0,.fn 82,.str [116,101,120,116],.int .i64 0,.fn 83,.str [102,114,97,99],.int .i64 2,.fn 80,.str [114,111,111,116],.int .i64 2,.fn 80,.str [115,117,98],.int .i64 2,.fn 80,.str [115,117,112],.int .i64 2,.fn 80,.str [98,111,116,104],.int .i64 3,.fn 80,.str [97,99,99,101,110,116],.int .i64 1,.fn 84,.str [102,101,110,99,101],.int .i64 1,.fn 85,.str [109,97,116,114,105,120],.int .i64 0,.fn 80,.int .i64 p.2]
def zID (n : Nat) (xs : List AV) (os : List Ob) (x : AV) (os' : List (Option Ob)) : Prop:=∃ (a0 : (Unit × Int)) (a1 : Nd) (y0 : Bool) (z0 : (Unit × Int)),zCb n a0 a1 = some (y0,z0) ∧ xs = [.op 0 0,.s (.pt (Nd.enc a1))] ∧ os = [.box 94 ((zAn a0).map .s)] ∧ x = .s (.bool y0) ∧ os' = [some (.box 94 ((zAn z0).map .s))]
def zFB : zAt:=zCd (fun xs os x os' => ∃ n,zID n xs os x os')
theorem zIo : PSound Tryz.prog 86 zFB:=by
 have gok : ∀ f s,look? f [(80,zJU),(81,zIL),(82,zIK),(83,zJW),(84,zGq),(85,zJV)] = some s → PSound Tryz.prog f s:=zAu (by
  simp only [List.forall_mem_cons]
  exact ⟨zNQ,zMk,zMj,zNS,zH0,zNR,by simp⟩)
 refine PSound.withNil (zHl tokW Tryz.call86 Tryz.func86 rfl (fun xs os x os' h => by obtain ⟨n,_,_,_,_,_,rfl,rfl,_,rfl⟩:=h; exact ⟨by show 2 ≤ 120; decide,by show 1 ≤ 1; decide⟩) 120 rfl ?_) _;rintro xs os x os' w0 G0 B0 ⟨n,⟨_,o1_nodes⟩,⟨a2_kind,a2_text,a2_cols,a2_kids⟩,y0,z0,h,rfl,rfl,rfl,rfl⟩ _;rw [zCb] at h;refine zAa ?_;refine zAb [] [] rfl ?_;show Tri _ _ _ _;refine zAa ?_;refine zAa ?_;obtain ⟨x3,hj,h⟩:=zAc h
 refine zAp ⟨ofL [(0,.op 0 0),(1,.s (.pt [.int .i64 a2_kind,.str a2_text,.int .i64 a2_cols,.sl 4 (Nd.encs a2_kids)])),(34,.s (.bool x3))],ofH [(0,.box 94 [.s (.str []),.s (.int .i64 0),.s (.nf),.s (.str [114,111,119]),.s (.int .i64 0),.s (.fn 80),.s (.str [115,121,109]),.s (.int .i64 0),.s (.fn 81),.s (.str [110,117,109]),.s (.int .i64 0),.s (.fn 82),.s (.str [116,101,120,116]),.s (.int .i64 0),.s (.fn 83),.s (.str [102,114,97,99]),.s (.int .i64 2),.s (.fn 80),.s (.str [114,111,111,116]),.s (.int .i64 2),.s (.fn 80),.s (.str [115,117,98]),.s (.int .i64 2),.s (.fn 80),.s (.str [115,117,112]),.s (.int .i64 2),.s (.fn 80),.s (.str [98,111,116,104]),.s (.int .i64 3),.s (.fn 80),.s (.str [97,99,99,101,110,116]),.s (.int .i64 1),.s (.fn 84),.s (.str [102,101,110,99,101]),.s (.int .i64 1),.s (.fn 85),.s (.str [109,97,116,114,105,120]),.s (.int .i64 0),.s (.fn 80),.s (.int .i64 o1_nodes)])],1⟩ ?_ (fun σ' hle => ?_)
 ·replace h:=hj;refine zAF (by exact tokW) (by exact gok) (by exact mixed) [] [10,17,22] [22] rfl (by decide +kernel) ?_;intro b hb;cases b with
  | true =>
   replace h:=zAm hb.symm h;intro b hb;subst hb;cases h;exact (Le.rename [(0,0)] _ _ _ ⟨rfl,rfl,rfl,trivial⟩ ⟨rfl,⟨_,rfl,rfl⟩,trivial⟩ rfl rfl rfl rfl rfl)
  | false =>
   replace h:=zAl hb.symm h;intro b hb;cases b with
   | true =>
    replace h:=zAm hb.symm h;cases h;exact (Le.rename [(0,0)] _ _ _ ⟨rfl,rfl,rfl,trivial⟩ ⟨rfl,⟨_,rfl,rfl⟩,trivial⟩ rfl rfl rfl rfl rfl)
   | false =>
    replace h:=zAl hb.symm h;intro vsp hvsp;cases hc : (a2_kind == 1) with
    | true =>
     replace h:=zAm hc h;obtain rfl : (1 : Int) = vsp:=(hvsp.trans (eq_of_beq hc)).symm;refine And.intro (by decide) ?_;obtain ⟨y4,hy4,h⟩:=zAc h;refine ⟨_,⟨_,_,hy4,rfl,rfl⟩,?_⟩
     cases h;exact (Le.rename [(0,0)] _ _ _ ⟨rfl,rfl,rfl,trivial⟩ ⟨rfl,⟨_,rfl,rfl⟩,trivial⟩ rfl rfl rfl rfl rfl)
    | false =>
     replace h:=zAl hc h;cases hc : (a2_kind == 2) with
     | true =>
      replace h:=zAm hc h;obtain rfl : (2 : Int) = vsp:=(hvsp.trans (eq_of_beq hc)).symm;refine And.intro (by decide) ?_;obtain ⟨y5,hy5,h⟩:=zAc h;refine ⟨_,⟨_,_,_,hy5,rfl,rfl⟩,?_⟩
      cases h;exact (Le.rename [(0,0)] _ _ _ ⟨rfl,rfl,rfl,trivial⟩ ⟨rfl,⟨_,rfl,rfl⟩,trivial⟩ rfl rfl rfl rfl rfl)
     | false =>
      replace h:=zAl hc h;cases hc : (a2_kind == 3) with
      | true =>
       replace h:=zAm hc h;obtain rfl : (3 : Int) = vsp:=(hvsp.trans (eq_of_beq hc)).symm;refine And.intro (by decide) ?_;obtain ⟨y6,hy6,h⟩:=zAc h;refine ⟨_,⟨_,_,_,hy6,rfl,rfl⟩,?_⟩
       cases h;exact (Le.rename [(0,0)] _ _ _ ⟨rfl,rfl,rfl,trivial⟩ ⟨rfl,⟨_,rfl,rfl⟩,trivial⟩ rfl rfl rfl rfl rfl)
      | false =>
       replace h:=zAl hc h;cases hc : (a2_kind == 4) with
       | true =>
        replace h:=zAm hc h;obtain rfl : (4 : Int) = vsp:=(hvsp.trans (eq_of_beq hc)).symm;refine And.intro (by decide) ?_;obtain ⟨y7,hy7,h⟩:=zAc h;refine ⟨_,⟨_,_,_,hy7,rfl,rfl⟩,?_⟩
        cases h;exact (Le.rename [(0,0)] _ _ _ ⟨rfl,rfl,rfl,trivial⟩ ⟨rfl,⟨_,rfl,rfl⟩,trivial⟩ rfl rfl rfl rfl rfl)
       | false =>
        replace h:=zAl hc h;cases hc : (a2_kind == 5) with
        | true =>
         replace h:=zAm hc h;obtain rfl : (5 : Int) = vsp:=(hvsp.trans (eq_of_beq hc)).symm;refine And.intro (by decide) ?_;obtain ⟨y8,hy8,h⟩:=zAc h;refine ⟨_,⟨_,_,hy8,rfl,rfl⟩,?_⟩
         cases h;exact (Le.rename [(0,0)] _ _ _ ⟨rfl,rfl,rfl,trivial⟩ ⟨rfl,⟨_,rfl,rfl⟩,trivial⟩ rfl rfl rfl rfl rfl)
        | false =>
         replace h:=zAl hc h;cases hc : (a2_kind == 6) with
         | true =>
          replace h:=zAm hc h;obtain rfl : (6 : Int) = vsp:=(hvsp.trans (eq_of_beq hc)).symm;refine And.intro (by decide) ?_;obtain ⟨y9,hy9,h⟩:=zAc h;refine ⟨_,⟨_,_,hy9,rfl,rfl⟩,?_⟩
          cases h;exact (Le.rename [(0,0)] _ _ _ ⟨rfl,rfl,rfl,trivial⟩ ⟨rfl,⟨_,rfl,rfl⟩,trivial⟩ rfl rfl rfl rfl rfl)
         | false =>
          replace h:=zAl hc h;cases hc : (a2_kind == 7) with
          | true =>
           replace h:=zAm hc h;obtain rfl : (7 : Int) = vsp:=(hvsp.trans (eq_of_beq hc)).symm;refine And.intro (by decide) ?_;obtain ⟨y10,hy10,h⟩:=zAc h;refine ⟨_,⟨_,_,hy10,rfl,rfl⟩,?_⟩
           cases h;exact (Le.rename [(0,0)] _ _ _ ⟨rfl,rfl,rfl,trivial⟩ ⟨rfl,⟨_,rfl,rfl⟩,trivial⟩ rfl rfl rfl rfl rfl)
          | false =>
           replace h:=zAl hc h;cases hc : (a2_kind == 8) with
           | true =>
            replace h:=zAm hc h;obtain rfl : (8 : Int) = vsp:=(hvsp.trans (eq_of_beq hc)).symm;refine And.intro (by decide) ?_;obtain ⟨y11,hy11,h⟩:=zAc h;refine ⟨_,⟨_,_,hy11,rfl,rfl⟩,?_⟩
            cases h;exact (Le.rename [(0,0)] _ _ _ ⟨rfl,rfl,rfl,trivial⟩ ⟨rfl,⟨_,rfl,rfl⟩,trivial⟩ rfl rfl rfl rfl rfl)
           | false =>
            replace h:=zAl hc h;cases hc : (a2_kind == 9) with
            | true =>
             replace h:=zAm hc h;obtain rfl : (9 : Int) = vsp:=(hvsp.trans (eq_of_beq hc)).symm;refine And.intro (by decide) ?_;obtain ⟨y12,hy12,h⟩:=zAc h;refine ⟨_,⟨_,_,hy12,rfl,rfl⟩,?_⟩
             cases h;exact (Le.rename [(0,0)] _ _ _ ⟨rfl,rfl,rfl,trivial⟩ ⟨rfl,⟨_,rfl,rfl⟩,trivial⟩ rfl rfl rfl rfl rfl)
            | false =>
             replace h:=zAl hc h;cases hc : (a2_kind == 10) with
             | true =>
              replace h:=zAm hc h;obtain rfl : (10 : Int) = vsp:=(hvsp.trans (eq_of_beq hc)).symm;refine And.intro (by decide) ?_;obtain ⟨y13,hy13,h⟩:=zAc h;refine ⟨_,⟨_,_,hy13,rfl,rfl⟩,?_⟩
              cases h;exact (Le.rename [(0,0)] _ _ _ ⟨rfl,rfl,rfl,trivial⟩ ⟨rfl,⟨_,rfl,rfl⟩,trivial⟩ rfl rfl rfl rfl rfl)
             | false =>
              replace h:=zAl hc h;cases hc : (a2_kind == 11) with
              | true =>
               replace h:=zAm hc h;obtain rfl : (11 : Int) = vsp:=(hvsp.trans (eq_of_beq hc)).symm;refine And.intro (by decide) ?_;obtain ⟨y14,hy14,h⟩:=zAc h;refine ⟨_,⟨_,_,hy14,rfl,rfl⟩,?_⟩
               cases h;exact (Le.rename [(0,0)] _ _ _ ⟨rfl,rfl,rfl,trivial⟩ ⟨rfl,⟨_,rfl,rfl⟩,trivial⟩ rfl rfl rfl rfl rfl)
              | false =>
               replace h:=zAl hc h;cases hc : (a2_kind == 12) with
               | true =>
                replace h:=zAm hc h;obtain rfl : (12 : Int) = vsp:=(hvsp.trans (eq_of_beq hc)).symm;refine And.intro (by decide) ?_;obtain ⟨y15,hy15,h⟩:=zAc h;refine ⟨_,⟨_,_,hy15,rfl,rfl⟩,?_⟩
                cases h;exact (Le.rename [(0,0)] _ _ _ ⟨rfl,rfl,rfl,trivial⟩ ⟨rfl,⟨_,rfl,rfl⟩,trivial⟩ rfl rfl rfl rfl rfl)
               | false =>
                replace h:=zAl hc h;cases h
 ·show Tri _ _ _ _;refine zAk hle ?_;refine zAd rfl (fun hb => ?_) (fun hb => ?_)
  ·replace h:=zAm hb h;refine zAa ?_;refine zAb [] [] rfl ?_;show Tri _ _ _ _;refine zAh ?_;obtain ⟨hj1,hk1⟩:=Prod.mk.inj (Option.some.inj h)
   subst hj1;subst hk1;unfold zCX
   exact ⟨_,(Le.rename [(0,0)] [(4,.s (.bool false))] [(0,.box 94 [.s (.str []),.s (.int .i64 0),.s (.nf),.s (.str [114,111,119]),.s (.int .i64 0),.s (.fn 80),.s (.str [115,121,109]),.s (.int .i64 0),.s (.fn 81),.s (.str [110,117,109]),.s (.int .i64 0),.s (.fn 82),.s (.str [116,101,120,116]),.s (.int .i64 0),.s (.fn 83),.s (.str [102,114,97,99]),.s (.int .i64 2),.s (.fn 80),.s (.str [114,111,111,116]),.s (.int .i64 2),.s (.fn 80),.s (.str [115,117,98]),.s (.int .i64 2),.s (.fn 80),.s (.str [115,117,112]),.s (.int .i64 2),.s (.fn 80),.s (.str [98,111,116,104]),.s (.int .i64 3),.s (.fn 80),.s (.str [97,99,99,101,110,116]),.s (.int .i64 1),.s (.fn 84),.s (.str [102,101,110,99,101]),.s (.int .i64 1),.s (.fn 85),.s (.str [109,97,116,114,105,120]),.s (.int .i64 0),.s (.fn 80),.s (.int .i64 o1_nodes)])] 1 ⟨rfl,trivial⟩ ⟨rfl,⟨_,rfl,rfl⟩,trivial⟩ rfl rfl rfl rfl rfl),rfl,rfl,rfl,rfl,trivial⟩
  ·replace h:=zAl hb h;refine zAg ?_;show Tri _ _ _ _;refine zAa ?_;refine zAa ?_;refine zAb [] [] rfl ?_;show Tri _ _ _ _;refine zAi ?_;refine zAa ?_;refine zAb [] [] rfl ?_;show Tri _ _ _ _;refine zAd rfl (fun hb => ?_) (fun hb => ?_)
   ·replace h:=zAm hb h;refine zAa ?_;obtain ⟨x16,hj,h⟩:=zAc h
    refine zAp ⟨ofL [(4,.s (.bool x16))],ofH [(0,.box 94 [.s (.str []),.s (.int .i64 0),.s (.nf),.s (.str [114,111,119]),.s (.int .i64 0),.s (.fn 80),.s (.str [115,121,109]),.s (.int .i64 0),.s (.fn 81),.s (.str [110,117,109]),.s (.int .i64 0),.s (.fn 82),.s (.str [116,101,120,116]),.s (.int .i64 0),.s (.fn 83),.s (.str [102,114,97,99]),.s (.int .i64 2),.s (.fn 80),.s (.str [114,111,111,116]),.s (.int .i64 2),.s (.fn 80),.s (.str [115,117,98]),.s (.int .i64 2),.s (.fn 80),.s (.str [115,117,112]),.s (.int .i64 2),.s (.fn 80),.s (.str [98,111,116,104]),.s (.int .i64 3),.s (.fn 80),.s (.str [97,99,99,101,110,116]),.s (.int .i64 1),.s (.fn 84),.s (.str [102,101,110,99,101]),.s (.int .i64 1),.s (.fn 85),.s (.str [109,97,116,114,105,120]),.s (.int .i64 0),.s (.fn 80),.s (.int .i64 o1_nodes)])],1⟩ ?_ (fun σ' hle => ?_)
    ·replace h:=hj;refine zAb [] [46,51] rfl ?_;intro b hb;cases b with
     | true =>
      replace h:=zAm hb.symm h;intro n17 hn17;obtain rfl : (a2_kids.length : Int) = n17:=(hn17.trans (congrArg (fun m : Nat => (m : Int)) (rlen Nd.encs_eq a2_kids))).symm;cases h;exact (Le.rename [(0,0)] _ _ _ ⟨rfl,trivial⟩ ⟨rfl,⟨_,rfl,rfl⟩,trivial⟩ rfl rfl rfl rfl rfl)
     | false =>
      replace h:=zAl hb.symm h;cases h;exact (Le.rename [(0,0)] _ _ _ ⟨rfl,trivial⟩ ⟨rfl,⟨_,rfl,rfl⟩,trivial⟩ rfl rfl rfl rfl rfl)
    ·show Tri _ _ _ _;refine zAk hle ?_;refine zAh ?_;obtain ⟨hj1,hk1⟩:=Prod.mk.inj (Option.some.inj h)
     subst hj1;subst hk1;unfold zCX
     exact ⟨_,(Le.rename [(0,0)] [(4,.s (.bool x16))] [(0,.box 94 [.s (.str []),.s (.int .i64 0),.s (.nf),.s (.str [114,111,119]),.s (.int .i64 0),.s (.fn 80),.s (.str [115,121,109]),.s (.int .i64 0),.s (.fn 81),.s (.str [110,117,109]),.s (.int .i64 0),.s (.fn 82),.s (.str [116,101,120,116]),.s (.int .i64 0),.s (.fn 83),.s (.str [102,114,97,99]),.s (.int .i64 2),.s (.fn 80),.s (.str [114,111,111,116]),.s (.int .i64 2),.s (.fn 80),.s (.str [115,117,98]),.s (.int .i64 2),.s (.fn 80),.s (.str [115,117,112]),.s (.int .i64 2),.s (.fn 80),.s (.str [98,111,116,104]),.s (.int .i64 3),.s (.fn 80),.s (.str [97,99,99,101,110,116]),.s (.int .i64 1),.s (.fn 84),.s (.str [102,101,110,99,101]),.s (.int .i64 1),.s (.fn 85),.s (.str [109,97,116,114,105,120]),.s (.int .i64 0),.s (.fn 80),.s (.int .i64 o1_nodes)])] 1 ⟨rfl,trivial⟩ ⟨rfl,⟨_,rfl,rfl⟩,trivial⟩ rfl rfl rfl rfl rfl),rfl,rfl,rfl,rfl,trivial⟩
   ·replace h:=zAl hb h;refine zAa ?_;refine zAb [] [] rfl ?_;show Tri _ _ _ _;refine zAd rfl (fun hb => ?_) (fun hb => ?_)
    ·replace h:=zAm hb h;refine zAa ?_;obtain ⟨x18,hj,h⟩:=zAc h
     refine zAp ⟨ofL [(4,.s (.bool x18))],ofH [(0,.box 94 [.s (.str []),.s (.int .i64 0),.s (.nf),.s (.str [114,111,119]),.s (.int .i64 0),.s (.fn 80),.s (.str [115,121,109]),.s (.int .i64 0),.s (.fn 81),.s (.str [110,117,109]),.s (.int .i64 0),.s (.fn 82),.s (.str [116,101,120,116]),.s (.int .i64 0),.s (.fn 83),.s (.str [102,114,97,99]),.s (.int .i64 2),.s (.fn 80),.s (.str [114,111,111,116]),.s (.int .i64 2),.s (.fn 80),.s (.str [115,117,98]),.s (.int .i64 2),.s (.fn 80),.s (.str [115,117,112]),.s (.int .i64 2),.s (.fn 80),.s (.str [98,111,116,104]),.s (.int .i64 3),.s (.fn 80),.s (.str [97,99,99,101,110,116]),.s (.int .i64 1),.s (.fn 84),.s (.str [102,101,110,99,101]),.s (.int .i64 1),.s (.fn 85),.s (.str [109,97,116,114,105,120]),.s (.int .i64 0),.s (.fn 80),.s (.int .i64 o1_nodes)])],1⟩ ?_ (fun σ' hle => ?_)
     ·replace h:=hj;refine zAF (by exact tokW) (by exact gok) (by exact mixed) [] [61,68,73,76,81,84,89] [] rfl (by decide +kernel) ?_;intro b hb;cases b with
      | true =>
       replace h:=zAm hb.symm h;intro b hb;cases b with
       | true =>
        replace h:=zAm hb.symm h;intro n19 hn19;obtain rfl : (a2_kids.length : Int) = n19:=(hn19.trans (congrArg (fun m : Nat => (m : Int)) (rlen Nd.encs_eq a2_kids))).symm;intro b hb;cases b with
        | true =>
         replace h:=zAm hb.symm h;intro n20 hn20;obtain rfl : (a2_kids.length : Int) = n20:=(hn20.trans (congrArg (fun m : Nat => (m : Int)) (rlen Nd.encs_eq a2_kids))).symm;intro b hb;cases b with
         | true =>
          replace h:=zAm hb.symm h;intro n21 hn21;obtain rfl : (a2_kids.length : Int) = n21:=(hn21.trans (congrArg (fun m : Nat => (m : Int)) (rlen Nd.encs_eq a2_kids))).symm;obtain ⟨hq,h⟩:=zAU h;refine And.intro hq ?_;cases h;exact (Le.rename [(0,0)] _ _ _ ⟨rfl,trivial⟩ ⟨rfl,⟨_,rfl,rfl⟩,trivial⟩ rfl rfl rfl rfl rfl)
         | false =>
          replace h:=zAl hb.symm h;cases h;exact (Le.rename [(0,0)] _ _ _ ⟨rfl,trivial⟩ ⟨rfl,⟨_,rfl,rfl⟩,trivial⟩ rfl rfl rfl rfl rfl)
        | false =>
         replace h:=zAl hb.symm h;intro b hb;subst hb;cases h;exact (Le.rename [(0,0)] _ _ _ ⟨rfl,trivial⟩ ⟨rfl,⟨_,rfl,rfl⟩,trivial⟩ rfl rfl rfl rfl rfl)
       | false =>
        replace h:=zAl hb.symm h;intro b hb;subst hb;intro b hb;subst hb;cases h;exact (Le.rename [(0,0)] _ _ _ ⟨rfl,trivial⟩ ⟨rfl,⟨_,rfl,rfl⟩,trivial⟩ rfl rfl rfl rfl rfl)
      | false =>
       replace h:=zAl hb.symm h;intro b hb;subst hb;intro b hb;subst hb;intro b hb;subst hb;cases h;exact (Le.rename [(0,0)] _ _ _ ⟨rfl,trivial⟩ ⟨rfl,⟨_,rfl,rfl⟩,trivial⟩ rfl rfl rfl rfl rfl)
     ·show Tri _ _ _ _;refine zAk hle ?_;refine zAh ?_;obtain ⟨hj1,hk1⟩:=Prod.mk.inj (Option.some.inj h)
      subst hj1;subst hk1;unfold zCX
      exact ⟨_,(Le.rename [(0,0)] [(4,.s (.bool x18))] [(0,.box 94 [.s (.str []),.s (.int .i64 0),.s (.nf),.s (.str [114,111,119]),.s (.int .i64 0),.s (.fn 80),.s (.str [115,121,109]),.s (.int .i64 0),.s (.fn 81),.s (.str [110,117,109]),.s (.int .i64 0),.s (.fn 82),.s (.str [116,101,120,116]),.s (.int .i64 0),.s (.fn 83),.s (.str [102,114,97,99]),.s (.int .i64 2),.s (.fn 80),.s (.str [114,111,111,116]),.s (.int .i64 2),.s (.fn 80),.s (.str [115,117,98]),.s (.int .i64 2),.s (.fn 80),.s (.str [115,117,112]),.s (.int .i64 2),.s (.fn 80),.s (.str [98,111,116,104]),.s (.int .i64 3),.s (.fn 80),.s (.str [97,99,99,101,110,116]),.s (.int .i64 1),.s (.fn 84),.s (.str [102,101,110,99,101]),.s (.int .i64 1),.s (.fn 85),.s (.str [109,97,116,114,105,120]),.s (.int .i64 0),.s (.fn 80),.s (.int .i64 o1_nodes)])] 1 ⟨rfl,trivial⟩ ⟨rfl,⟨_,rfl,rfl⟩,trivial⟩ rfl rfl rfl rfl rfl),rfl,rfl,rfl,rfl,trivial⟩
    ·replace h:=zAl hb h;refine zAg ?_;show Tri _ _ _ _;refine zAa ?_;obtain ⟨x22,hj,h⟩:=zAc h
     refine zAp ⟨ofL [(4,.s (.bool x22))],ofH [(0,.box 94 [.s (.str []),.s (.int .i64 0),.s (.nf),.s (.str [114,111,119]),.s (.int .i64 0),.s (.fn 80),.s (.str [115,121,109]),.s (.int .i64 0),.s (.fn 81),.s (.str [110,117,109]),.s (.int .i64 0),.s (.fn 82),.s (.str [116,101,120,116]),.s (.int .i64 0),.s (.fn 83),.s (.str [102,114,97,99]),.s (.int .i64 2),.s (.fn 80),.s (.str [114,111,111,116]),.s (.int .i64 2),.s (.fn 80),.s (.str [115,117,98]),.s (.int .i64 2),.s (.fn 80),.s (.str [115,117,112]),.s (.int .i64 2),.s (.fn 80),.s (.str [98,111,116,104]),.s (.int .i64 3),.s (.fn 80),.s (.str [97,99,99,101,110,116]),.s (.int .i64 1),.s (.fn 84),.s (.str [102,101,110,99,101]),.s (.int .i64 1),.s (.fn 85),.s (.str [109,97,116,114,105,120]),.s (.int .i64 0),.s (.fn 80),.s (.int .i64 o1_nodes)])],1⟩ ?_ (fun σ' hle => ?_)
     ·replace h:=hj;refine zAF (by exact tokW) (by exact gok) (by exact mixed) [] [102,107,112] [20] rfl (by decide +kernel) ?_;intro b hb;cases b with
      | true =>
       replace h:=zAm hb.symm h;intro n23 hn23;obtain rfl : (a2_kids.length : Int) = n23:=(hn23.trans (congrArg (fun m : Nat => (m : Int)) (rlen Nd.encs_eq a2_kids))).symm;intro vsp hvsp;cases hc : (a2_kind == 1) with
       | true =>
        replace h:=zAm hc h;obtain rfl : (1 : Int) = vsp:=(hvsp.trans (eq_of_beq hc)).symm;refine And.intro (by decide) ?_;cases h;exact (Le.rename [(0,0)] _ _ _ ⟨rfl,trivial⟩ ⟨rfl,⟨_,rfl,rfl⟩,trivial⟩ rfl rfl rfl rfl rfl)
       | false =>
        replace h:=zAl hc h;cases hc : (a2_kind == 2) with
        | true =>
         replace h:=zAm hc h;obtain rfl : (2 : Int) = vsp:=(hvsp.trans (eq_of_beq hc)).symm;refine And.intro (by decide) ?_;cases h;exact (Le.rename [(0,0)] _ _ _ ⟨rfl,trivial⟩ ⟨rfl,⟨_,rfl,rfl⟩,trivial⟩ rfl rfl rfl rfl rfl)
        | false =>
         replace h:=zAl hc h;cases hc : (a2_kind == 3) with
         | true =>
          replace h:=zAm hc h;obtain rfl : (3 : Int) = vsp:=(hvsp.trans (eq_of_beq hc)).symm;refine And.intro (by decide) ?_;cases h;exact (Le.rename [(0,0)] _ _ _ ⟨rfl,trivial⟩ ⟨rfl,⟨_,rfl,rfl⟩,trivial⟩ rfl rfl rfl rfl rfl)
         | false =>
          replace h:=zAl hc h;cases hc : (a2_kind == 4) with
          | true =>
           replace h:=zAm hc h;obtain rfl : (4 : Int) = vsp:=(hvsp.trans (eq_of_beq hc)).symm;refine And.intro (by decide) ?_;cases h;exact (Le.rename [(0,0)] _ _ _ ⟨rfl,trivial⟩ ⟨rfl,⟨_,rfl,rfl⟩,trivial⟩ rfl rfl rfl rfl rfl)
          | false =>
           replace h:=zAl hc h;cases hc : (a2_kind == 5) with
           | true =>
            replace h:=zAm hc h;obtain rfl : (5 : Int) = vsp:=(hvsp.trans (eq_of_beq hc)).symm;refine And.intro (by decide) ?_;cases h;exact (Le.rename [(0,0)] _ _ _ ⟨rfl,trivial⟩ ⟨rfl,⟨_,rfl,rfl⟩,trivial⟩ rfl rfl rfl rfl rfl)
           | false =>
            replace h:=zAl hc h;cases hc : (a2_kind == 6) with
            | true =>
             replace h:=zAm hc h;obtain rfl : (6 : Int) = vsp:=(hvsp.trans (eq_of_beq hc)).symm;refine And.intro (by decide) ?_;cases h;exact (Le.rename [(0,0)] _ _ _ ⟨rfl,trivial⟩ ⟨rfl,⟨_,rfl,rfl⟩,trivial⟩ rfl rfl rfl rfl rfl)
            | false =>
             replace h:=zAl hc h;cases hc : (a2_kind == 7) with
             | true =>
              replace h:=zAm hc h;obtain rfl : (7 : Int) = vsp:=(hvsp.trans (eq_of_beq hc)).symm;refine And.intro (by decide) ?_;cases h;exact (Le.rename [(0,0)] _ _ _ ⟨rfl,trivial⟩ ⟨rfl,⟨_,rfl,rfl⟩,trivial⟩ rfl rfl rfl rfl rfl)
             | false =>
              replace h:=zAl hc h;cases hc : (a2_kind == 8) with
              | true =>
               replace h:=zAm hc h;obtain rfl : (8 : Int) = vsp:=(hvsp.trans (eq_of_beq hc)).symm;refine And.intro (by decide) ?_;cases h;exact (Le.rename [(0,0)] _ _ _ ⟨rfl,trivial⟩ ⟨rfl,⟨_,rfl,rfl⟩,trivial⟩ rfl rfl rfl rfl rfl)
              | false =>
               replace h:=zAl hc h;cases hc : (a2_kind == 9) with
               | true =>
                replace h:=zAm hc h;obtain rfl : (9 : Int) = vsp:=(hvsp.trans (eq_of_beq hc)).symm;refine And.intro (by decide) ?_;cases h;exact (Le.rename [(0,0)] _ _ _ ⟨rfl,trivial⟩ ⟨rfl,⟨_,rfl,rfl⟩,trivial⟩ rfl rfl rfl rfl rfl)
               | false =>
                replace h:=zAl hc h;cases hc : (a2_kind == 10) with
                | true =>
                 replace h:=zAm hc h;obtain rfl : (10 : Int) = vsp:=(hvsp.trans (eq_of_beq hc)).symm;refine And.intro (by decide) ?_;cases h;exact (Le.rename [(0,0)] _ _ _ ⟨rfl,trivial⟩ ⟨rfl,⟨_,rfl,rfl⟩,trivial⟩ rfl rfl rfl rfl rfl)
                | false =>
                 replace h:=zAl hc h;cases hc : (a2_kind == 11) with
                 | true =>
                  replace h:=zAm hc h;obtain rfl : (11 : Int) = vsp:=(hvsp.trans (eq_of_beq hc)).symm;refine And.intro (by decide) ?_;cases h;exact (Le.rename [(0,0)] _ _ _ ⟨rfl,trivial⟩ ⟨rfl,⟨_,rfl,rfl⟩,trivial⟩ rfl rfl rfl rfl rfl)
                 | false =>
                  replace h:=zAl hc h;cases hc : (a2_kind == 12) with
                  | true =>
                   replace h:=zAm hc h;obtain rfl : (12 : Int) = vsp:=(hvsp.trans (eq_of_beq hc)).symm;refine And.intro (by decide) ?_;cases h;exact (Le.rename [(0,0)] _ _ _ ⟨rfl,trivial⟩ ⟨rfl,⟨_,rfl,rfl⟩,trivial⟩ rfl rfl rfl rfl rfl)
                  | false =>
                   replace h:=zAl hc h;cases h
      | false =>
       replace h:=zAl hb.symm h;cases h;exact (Le.rename [(0,0)] _ _ _ ⟨rfl,trivial⟩ ⟨rfl,⟨_,rfl,rfl⟩,trivial⟩ rfl rfl rfl rfl rfl)
     ·show Tri _ _ _ _;refine zAk hle ?_;refine zAh ?_;obtain ⟨hj1,hk1⟩:=Prod.mk.inj (Option.some.inj h)
      subst hj1;subst hk1;unfold zCX
      exact ⟨_,(Le.rename [(0,0)] [(4,.s (.bool x22))] [(0,.box 94 [.s (.str []),.s (.int .i64 0),.s (.nf),.s (.str [114,111,119]),.s (.int .i64 0),.s (.fn 80),.s (.str [115,121,109]),.s (.int .i64 0),.s (.fn 81),.s (.str [110,117,109]),.s (.int .i64 0),.s (.fn 82),.s (.str [116,101,120,116]),.s (.int .i64 0),.s (.fn 83),.s (.str [102,114,97,99]),.s (.int .i64 2),.s (.fn 80),.s (.str [114,111,111,116]),.s (.int .i64 2),.s (.fn 80),.s (.str [115,117,98]),.s (.int .i64 2),.s (.fn 80),.s (.str [115,117,112]),.s (.int .i64 2),.s (.fn 80),.s (.str [98,111,116,104]),.s (.int .i64 3),.s (.fn 80),.s (.str [97,99,99,101,110,116]),.s (.int .i64 1),.s (.fn 84),.s (.str [102,101,110,99,101]),.s (.int .i64 1),.s (.fn 85),.s (.str [109,97,116,114,105,120]),.s (.int .i64 0),.s (.fn 80),.s (.int .i64 o1_nodes)])] 1 ⟨rfl,trivial⟩ ⟨rfl,⟨_,rfl,rfl⟩,trivial⟩ rfl rfl rfl rfl rfl),rfl,rfl,rfl,rfl,trivial⟩
def zBY (n : Nat) (xs : List AV) (os : List Ob) (x : AV) (os' : List (Option Ob)) : Prop:=∃ (a0 : (Unit × Int)) (a1 : Nd) (a2 : Int) (y0 : Bool) (z0 : (Unit × Int)),zA9 n a0 a1 a2 = some (y0,z0) ∧ xs = [.op 0 0,.s (.pt (Nd.enc a1)),.s (.int .i64 a2)] ∧ os = [.box 94 ((zAn a0).map .s)] ∧ x = .s (.bool y0) ∧ os' = [some (.box 94 ((zAn z0).map .s))]
theorem zGR (n : Nat) (ih : PSound Tryz.prog 54 (zCd (zBY n))) : PSound Tryz.prog 54 (zCd (zBY (n + 1))):=by
 have gok : ∀ f s,look? f [(86,zFB),(54,zCd (zBY n))] = some s → PSound Tryz.prog f s:=zAu (by
  simp only [List.forall_mem_cons]
  exact ⟨zIo,ih,by simp⟩)
 refine PSound.withNil (zHl tokW Tryz.call54 Tryz.func54 rfl (fun xs os x os' h => by obtain ⟨_,_,_,_,_,_,rfl,rfl,_,rfl⟩:=h; exact ⟨by show 3 ≤ 67; decide,by show 1 ≤ 1; decide⟩) 67 rfl ?_) _;rintro xs os x os' w0 G0 B0 ⟨⟨_,o1_nodes⟩,⟨a2_kind,a2_text,a2_cols,a2_kids⟩,a3,y0,z0,h,rfl,rfl,rfl,rfl⟩ _;rw [zA9] at h;refine zAa ?_;refine zAb [] [] rfl ?_;show Tri _ _ _ _;refine zAa ?_;refine zAb [] [] rfl ?_;show Tri _ _ _ _;refine zAa ?_;refine zAa ?_;obtain ⟨⟨x4,x5⟩,hj,h⟩:=zAc h
 refine zAp ⟨ofL [(0,.op 0 0),(1,.s (.pt [.int .i64 a2_kind,.str a2_text,.int .i64 a2_cols,.sl 4 (Nd.encs a2_kids)])),(2,.s (.int .i64 a3)),(29,.s (.bool x4))],ofH [(0,.box 94 [.s (.str []),.s (.int .i64 0),.s (.nf),.s (.str [114,111,119]),.s (.int .i64 0),.s (.fn 80),.s (.str [115,121,109]),.s (.int .i64 0),.s (.fn 81),.s (.str [110,117,109]),.s (.int .i64 0),.s (.fn 82),.s (.str [116,101,120,116]),.s (.int .i64 0),.s (.fn 83),.s (.str [102,114,97,99]),.s (.int .i64 2),.s (.fn 80),.s (.str [114,111,111,116]),.s (.int .i64 2),.s (.fn 80),.s (.str [115,117,98]),.s (.int .i64 2),.s (.fn 80),.s (.str [115,117,112]),.s (.int .i64 2),.s (.fn 80),.s (.str [98,111,116,104]),.s (.int .i64 3),.s (.fn 80),.s (.str [97,99,99,101,110,116]),.s (.int .i64 1),.s (.fn 84),.s (.str [102,101,110,99,101]),.s (.int .i64 1),.s (.fn 85),.s (.str [109,97,116,114,105,120]),.s (.int .i64 0),.s (.fn 80),.s (.int .i64 x5)])],1⟩ ?_ (fun σ' hle => ?_)
 ·replace h:=hj;refine zAb [] [20,24] rfl ?_;intro b hb;cases b with
  | true =>
   replace h:=zAm hb.symm h;intro b hb;subst hb;cases h;exact (Le.rename [(0,0)] _ _ _ ⟨rfl,rfl,rfl,rfl,trivial⟩ ⟨rfl,⟨_,rfl,rfl⟩,trivial⟩ rfl rfl rfl rfl rfl)
  | false =>
   replace h:=zAl hb.symm h;intro b hb;cases b with
   | true =>
    replace h:=zAm hb.symm h;cases h;exact (Le.rename [(0,0)] _ _ _ ⟨rfl,rfl,rfl,rfl,trivial⟩ ⟨rfl,⟨_,rfl,rfl⟩,trivial⟩ rfl rfl rfl rfl rfl)
   | false =>
    replace h:=zAl hb.symm h;obtain ⟨⟨y6,⟨_,w7_nodes⟩⟩,hy6,h⟩:=zAc h;refine ⟨_,_,⟨_,_,_,_,_,hy6,rfl,rfl,rfl,rfl⟩,?_⟩
    cases h;exact (Le.rename [(0,0)] _ _ _ ⟨rfl,rfl,rfl,rfl,trivial⟩ ⟨rfl,⟨_,rfl,rfl⟩,trivial⟩ rfl rfl rfl rfl rfl)
 ·show Tri _ _ _ _;refine zAk hle ?_;refine zAd rfl (fun hb => ?_) (fun hb => ?_)
  ·replace h:=zAm hb h;refine zAa ?_;refine zAb [] [] rfl ?_;show Tri _ _ _ _;refine zAh ?_;obtain ⟨hj1,hk1⟩:=Prod.mk.inj (Option.some.inj h)
   subst hj1;subst hk1;unfold zCX
   exact ⟨_,(Le.rename [(0,0)] [(6,.s (.bool false))] [(0,.box 94 [.s (.str []),.s (.int .i64 0),.s (.nf),.s (.str [114,111,119]),.s (.int .i64 0),.s (.fn 80),.s (.str [115,121,109]),.s (.int .i64 0),.s (.fn 81),.s (.str [110,117,109]),.s (.int .i64 0),.s (.fn 82),.s (.str [116,101,120,116]),.s (.int .i64 0),.s (.fn 83),.s (.str [102,114,97,99]),.s (.int .i64 2),.s (.fn 80),.s (.str [114,111,111,116]),.s (.int .i64 2),.s (.fn 80),.s (.str [115,117,98]),.s (.int .i64 2),.s (.fn 80),.s (.str [115,117,112]),.s (.int .i64 2),.s (.fn 80),.s (.str [98,111,116,104]),.s (.int .i64 3),.s (.fn 80),.s (.str [97,99,99,101,110,116]),.s (.int .i64 1),.s (.fn 84),.s (.str [102,101,110,99,101]),.s (.int .i64 1),.s (.fn 85),.s (.str [109,97,116,114,105,120]),.s (.int .i64 0),.s (.fn 80),.s (.int .i64 x5)])] 1 ⟨rfl,trivial⟩ ⟨rfl,⟨_,rfl,rfl⟩,trivial⟩ rfl rfl rfl rfl rfl),rfl,rfl,rfl,rfl,trivial⟩
  ·replace h:=zAl hb h;refine zAg ?_;show Tri _ _ _ _;refine zAa ?_;refine zAa ?_;refine zAb [] [34] rfl ?_;intro n8 hn8;obtain rfl : (a2_kids.length : Int) = n8:=(hn8.trans (congrArg (fun m : Nat => (m : Int)) (rlen Nd.encs_eq a2_kids))).symm;show Tri _ _ _ _;obtain ⟨fl,hl,ho1⟩:=zAc h
   refine zDF (fl:=fl) (fun z => match z with | x11 => ⟨ofL [],ofH [(0,.box 94 [.s (.str []),.s (.int .i64 0),.s (.nf),.s (.str [114,111,119]),.s (.int .i64 0),.s (.fn 80),.s (.str [115,121,109]),.s (.int .i64 0),.s (.fn 81),.s (.str [110,117,109]),.s (.int .i64 0),.s (.fn 82),.s (.str [116,101,120,116]),.s (.int .i64 0),.s (.fn 83),.s (.str [102,114,97,99]),.s (.int .i64 2),.s (.fn 80),.s (.str [114,111,111,116]),.s (.int .i64 2),.s (.fn 80),.s (.str [115,117,98]),.s (.int .i64 2),.s (.fn 80),.s (.str [115,117,112]),.s (.int .i64 2),.s (.fn 80),.s (.str [98,111,116,104]),.s (.int .i64 3),.s (.fn 80),.s (.str [97,99,99,101,110,116]),.s (.int .i64 1),.s (.fn 84),.s (.str [102,101,110,99,101]),.s (.int .i64 1),.s (.fn 85),.s (.str [109,97,116,114,105,120]),.s (.int .i64 0),.s (.fn 80),.s (.int .i64 x11)])],1⟩) ?_ (fun x11 σ' hz hle => ?_)
   ·refine zAi (zAG (X:=Nat × Int × Int) (fun y => match y with | (k,x9,x10) => ⟨ofL [(0,.op 0 0),(1,.s (.pt [.int .i64 a2_kind,.str a2_text,.int .i64 a2_cols,.sl 4 (Nd.encs a2_kids)])),(2,.s (.int .i64 a3)),(34,.s (.int .i64 (a2_kids.length : Int))),(35,.s (.int .i64 x10))],ofH [(0,.box 94 [.s (.str []),.s (.int .i64 0),.s (.nf),.s (.str [114,111,119]),.s (.int .i64 0),.s (.fn 80),.s (.str [115,121,109]),.s (.int .i64 0),.s (.fn 81),.s (.str [110,117,109]),.s (.int .i64 0),.s (.fn 82),.s (.str [116,101,120,116]),.s (.int .i64 0),.s (.fn 83),.s (.str [102,114,97,99]),.s (.int .i64 2),.s (.fn 80),.s (.str [114,111,111,116]),.s (.int .i64 2),.s (.fn 80),.s (.str [115,117,98]),.s (.int .i64 2),.s (.fn 80),.s (.str [115,117,112]),.s (.int .i64 2),.s (.fn 80),.s (.str [98,111,116,104]),.s (.int .i64 3),.s (.fn 80),.s (.str [97,99,99,101,110,116]),.s (.int .i64 1),.s (.fn 84),.s (.str [102,101,110,99,101]),.s (.int .i64 1),.s (.fn 85),.s (.str [109,97,116,114,105,120]),.s (.int .i64 0),.s (.fn 80),.s (.int .i64 x9)])],1⟩) (fun y => zAY (zA9 n) a2_kind a2_kids a3 y.1 y.2.1 y.2.2 = some fl) (fun y => y.1) (n,x5,0) hl ?_ ?_)
    ·exact (Le.rename [(0,0)] _ _ _ ⟨rfl,rfl,rfl,rfl,rfl,trivial⟩ ⟨rfl,⟨_,rfl,rfl⟩,trivial⟩ rfl rfl rfl rfl rfl)
    ·rintro ⟨k,x9,x10⟩ h;cases k with
     | zero => cases h
     | succ k =>
      replace h : zAY (zA9 n) a2_kind a2_kids a3 (k+1) x9 x10 = some fl:=h;rw [zAY] at h;refine zAa ?_;refine zAb [] [] rfl ?_;show Tri _ _ _ _;refine zAa ?_;refine zAd rfl (fun hb => ?_) (fun hb => ?_)
      ·replace h:=zAm hb h;refine zAg ?_;show Tri _ _ _ _;refine zAa ?_;refine zAi ?_;refine zAa ?_;refine zAb [] [] rfl ?_;show Tri _ _ _ _;refine zAa ?_;obtain ⟨⟨x12,x13⟩,hj,h⟩:=zAc h
       refine zAp ⟨ofL [(0,.op 0 0),(1,.s (.pt [.int .i64 a2_kind,.str a2_text,.int .i64 a2_cols,.sl 4 (Nd.encs a2_kids)])),(2,.s (.int .i64 a3)),(34,.s (.int .i64 (a2_kids.length : Int))),(35,.s (.int .i64 x10)),(65,.s (.bool x12))],ofH [(0,.box 94 [.s (.str []),.s (.int .i64 0),.s (.nf),.s (.str [114,111,119]),.s (.int .i64 0),.s (.fn 80),.s (.str [115,121,109]),.s (.int .i64 0),.s (.fn 81),.s (.str [110,117,109]),.s (.int .i64 0),.s (.fn 82),.s (.str [116,101,120,116]),.s (.int .i64 0),.s (.fn 83),.s (.str [102,114,97,99]),.s (.int .i64 2),.s (.fn 80),.s (.str [114,111,111,116]),.s (.int .i64 2),.s (.fn 80),.s (.str [115,117,98]),.s (.int .i64 2),.s (.fn 80),.s (.str [115,117,112]),.s (.int .i64 2),.s (.fn 80),.s (.str [98,111,116,104]),.s (.int .i64 3),.s (.fn 80),.s (.str [97,99,99,101,110,116]),.s (.int .i64 1),.s (.fn 84),.s (.str [102,101,110,99,101]),.s (.int .i64 1),.s (.fn 85),.s (.str [109,97,116,114,105,120]),.s (.int .i64 0),.s (.fn 80),.s (.int .i64 x13)])],1⟩ ?_ (fun σ' hle => ?_)
       ·replace h:=hj;refine zAF (by exact tokW) (by exact gok) (by exact mixed) [] [48,53,60] [25] rfl (by decide +kernel) ?_;obtain ⟨⟨e14_kind,e14_text,e14_cols,e14_kids⟩,he14,h⟩:=zAc h;refine And.intro (zAz Nd.encs_eq he14).1 ?_;intro r15 hr15;obtain rfl : [.int .i64 e14_kind,.str e14_text,.int .i64 e14_cols,.sl 4 (Nd.encs e14_kids)] = r15:=(hr15.trans (zAz Nd.encs_eq he14).2.1).symm;intro b hb;cases b with
        | true =>
         replace h:=zAm hb.symm h;cases h;exact (Le.rename [(0,0)] _ _ _ ⟨rfl,rfl,rfl,rfl,rfl,rfl,trivial⟩ ⟨rfl,⟨_,rfl,rfl⟩,trivial⟩ rfl rfl rfl rfl rfl)
        | false =>
         replace h:=zAl hb.symm h;obtain ⟨⟨e16_kind,e16_text,e16_cols,e16_kids⟩,he16,h⟩:=zAc h;refine And.intro (zAz Nd.encs_eq he16).1 ?_;intro r17 hr17;obtain rfl : [.int .i64 e16_kind,.str e16_text,.int .i64 e16_cols,.sl 4 (Nd.encs e16_kids)] = r17:=(hr17.trans (zAz Nd.encs_eq he16).2.1).symm;obtain ⟨⟨y18,⟨_,w19_nodes⟩⟩,hy18,h⟩:=zAc h;refine ⟨_,_,⟨_,_,_,_,_,hy18,rfl,rfl,rfl,rfl⟩,?_⟩
         cases h;exact (Le.rename [(0,0)] _ _ _ ⟨rfl,rfl,rfl,rfl,rfl,rfl,trivial⟩ ⟨rfl,⟨_,rfl,rfl⟩,trivial⟩ rfl rfl rfl rfl rfl)
       ·show Tri _ _ _ _;refine zAk hle ?_;refine zAd rfl (fun hb => ?_) (fun hb => ?_)
        ·replace h:=zAm hb h;refine zAa ?_;refine zAb [] [] rfl ?_;show Tri _ _ _ _;refine zAh ?_;cases h;replace h : some _ = some _:=ho1;obtain ⟨hj1,hk1⟩:=Prod.mk.inj (Option.some.inj h)
         subst hj1;subst hk1;unfold zCX
         exact ⟨_,(Le.rename [(0,0)] [(6,.s (.bool false))] [(0,.box 94 [.s (.str []),.s (.int .i64 0),.s (.nf),.s (.str [114,111,119]),.s (.int .i64 0),.s (.fn 80),.s (.str [115,121,109]),.s (.int .i64 0),.s (.fn 81),.s (.str [110,117,109]),.s (.int .i64 0),.s (.fn 82),.s (.str [116,101,120,116]),.s (.int .i64 0),.s (.fn 83),.s (.str [102,114,97,99]),.s (.int .i64 2),.s (.fn 80),.s (.str [114,111,111,116]),.s (.int .i64 2),.s (.fn 80),.s (.str [115,117,98]),.s (.int .i64 2),.s (.fn 80),.s (.str [115,117,112]),.s (.int .i64 2),.s (.fn 80),.s (.str [98,111,116,104]),.s (.int .i64 3),.s (.fn 80),.s (.str [97,99,99,101,110,116]),.s (.int .i64 1),.s (.fn 84),.s (.str [102,101,110,99,101]),.s (.int .i64 1),.s (.fn 85),.s (.str [109,97,116,114,105,120]),.s (.int .i64 0),.s (.fn 80),.s (.int .i64 x13)])] 1 ⟨rfl,trivial⟩ ⟨rfl,⟨_,rfl,rfl⟩,trivial⟩ rfl rfl rfl rfl rfl),rfl,rfl,rfl,rfl,trivial⟩
        ·replace h:=zAl hb h;refine zAg ?_;show Tri _ _ _ _;refine zAb [] [] rfl ?_;refine ⟨(k,x13,IntKind.i64.wrap (x10 + 1)),h,(Le.rename [(0,0)] _ _ _ ⟨rfl,rfl,rfl,rfl,rfl,trivial⟩ ⟨rfl,⟨_,rfl,rfl⟩,trivial⟩ rfl rfl rfl rfl rfl),Nat.lt_succ_self k⟩
      ·replace h:=zAl hb h;refine zAI ?_;cases h;exact ⟨_,rfl,(Le.rename [(0,0)] _ _ _ trivial ⟨rfl,⟨_,rfl,rfl⟩,trivial⟩ rfl rfl rfl rfl rfl)⟩
   ·subst hz;replace h:=ho1;show Tri _ _ _ _;refine zAk hle ?_;refine zAa ?_;refine zAb [] [] rfl ?_;show Tri _ _ _ _;refine zAh ?_;obtain ⟨hj1,hk1⟩:=Prod.mk.inj (Option.some.inj h)
    subst hj1;subst hk1;unfold zCX
    exact ⟨_,(Le.rename [(0,0)] [(6,.s (.bool true))] [(0,.box 94 [.s (.str []),.s (.int .i64 0),.s (.nf),.s (.str [114,111,119]),.s (.int .i64 0),.s (.fn 80),.s (.str [115,121,109]),.s (.int .i64 0),.s (.fn 81),.s (.str [110,117,109]),.s (.int .i64 0),.s (.fn 82),.s (.str [116,101,120,116]),.s (.int .i64 0),.s (.fn 83),.s (.str [102,114,97,99]),.s (.int .i64 2),.s (.fn 80),.s (.str [114,111,111,116]),.s (.int .i64 2),.s (.fn 80),.s (.str [115,117,98]),.s (.int .i64 2),.s (.fn 80),.s (.str [115,117,112]),.s (.int .i64 2),.s (.fn 80),.s (.str [98,111,116,104]),.s (.int .i64 3),.s (.fn 80),.s (.str [97,99,99,101,110,116]),.s (.int .i64 1),.s (.fn 84),.s (.str [102,101,110,99,101]),.s (.int .i64 1),.s (.fn 85),.s (.str [109,97,116,114,105,120]),.s (.int .i64 0),.s (.fn 80),.s (.int .i64 x11)])] 1 ⟨rfl,trivial⟩ ⟨rfl,⟨_,rfl,rfl⟩,trivial⟩ rfl rfl rfl rfl rfl),rfl,rfl,rfl,rfl,trivial⟩
theorem zG3 : ∀ n,PSound Tryz.prog 54 (zCd (zBY n)):=by
 intro n
 induction n with
 | zero => exact zIs Tryz.call54 (fun xs os x os' h => by obtain ⟨_,_,_,_,_,h,_⟩:=h; cases h) _
 | succ n ih => exact zGR n ih
def zFf : zAt:=zCd (fun xs os x os' => ∃ n,zBY n xs os x os')
theorem zHM : PSound Tryz.prog 54 zFf:=zJE zG3 _
def zOt (n : Nat) (xs : List AV) (r : Ret) : Prop:=∃ (a0 : Nd) (y0 : Bool),zA8 n a0 = some y0 ∧ xs = [.agg ((Nd.enc a0).map .s)] ∧ r = .val (.s (.bool y0))
def zC6 : zAt:=zAC fun xs r => ∃ n,zOt n xs r
theorem zDp : PSound Tryz.prog 33 zC6:=by
 have gok : ∀ f s,look? f [(53,zGZ),(54,zFf)] = some s → PSound Tryz.prog f s:=zAu (by
  simp only [List.forall_mem_cons]
  exact ⟨zJa,zHM,by simp⟩)
 refine zAJ tokW Tryz.call33 Tryz.func33 rfl (fun xs r h => by obtain ⟨n,_,_,_,rfl,_⟩:=h; show 1 ≤ 14; decide) 14 rfl ?_;rintro xs r w0 G0 ⟨n,⟨n1_kind,n1_text,n1_cols,n1_kids⟩,y0,h,rfl,rfl⟩ _;rw [zA8] at h;refine zAa ?_;refine zAb [] [] rfl ?_;show Tri _ _ _ _;refine zAa ?_;refine zAb [6] [] rfl ?_;obtain ⟨_,hy2,h⟩:=zAc h;refine ⟨_,⟨_,hy2,rfl,rfl⟩,?_⟩
 show Tri _ _ _ _;refine zAa ?_;obtain ⟨x3,hj,h⟩:=zAc h;refine zAp ⟨ofL [(2,.s (.bool x3))],fun _ => none,0⟩ ?_ (fun σ' hle => ?_)
 ·replace h:=hj;refine zAb [] [10] rfl ?_;intro b hb;cases b with
  | true =>
   replace h:=zAm hb.symm h;obtain ⟨⟨y4,⟨_,w5_nodes⟩⟩,hy4,h⟩:=zAc h;refine ⟨_,_,⟨_,_,_,_,_,_,hy4,rfl,rfl,rfl,rfl⟩,?_⟩
   cases h;exact (Le.rename [] _ [] 0 ⟨rfl,trivial⟩ trivial rfl rfl rfl rfl rfl)
  | false =>
   replace h:=zAl hb.symm h;cases h;exact (Le.rename [] _ [] 0 ⟨rfl,trivial⟩ trivial rfl rfl rfl rfl rfl)
 ·show Tri _ _ _ _;refine zAk hle ?_;refine zAh ?_;have hy:=Option.some.inj h;subst hy;unfold zAy;exact ⟨_,Le.refl _ _,rfl,rfl⟩
def zJr (n : Nat) (xs : List AV) (r : Ret) : Prop:=∃ (a0 : List Nd) (y0 : Bool),zBX n a0 = some y0 ∧ xs = [.s (.sl 4 (Nd.encs a0))] ∧ r = .val (.s (.bool y0))
def zEh : zAt:=zAC fun xs r => ∃ n,zJr n xs r
theorem zFK : PSound Tryz.prog 87 zEh:=by
 have gok : ∀ f s,look? f [(33,zC6)] = some s → PSound Tryz.prog f s:=zAu (by
  simp only [List.forall_mem_cons]
  exact ⟨zDp,by simp⟩)
 refine zAJ tokW Tryz.call87 Tryz.func87 rfl (fun xs r h => by obtain ⟨n,_,_,_,rfl,_⟩:=h; show 1 ≤ 6; decide) 6 rfl ?_;rintro xs r w0 G0 ⟨n,l1,y0,h,rfl,rfl⟩ _;rw [zBX] at h;refine zAa ?_;refine zAb [] [] rfl ?_;show Tri _ _ _ _;refine zAa ?_;refine zAb [] [] rfl ?_;obtain ⟨y2,hy2,h⟩:=zAc h;refine ⟨_,⟨_,_,_,hy2,rfl,rfl⟩,?_⟩
 show Tri _ _ _ _;refine zAh ?_;have hy:=Option.some.inj h;subst hy;unfold zAy;exact ⟨_,Le.refl _ _,rfl,rfl⟩
def zOs (xs : List AV) (r : Ret) : Prop:=∃ (a0 : Nd) (y0 : Int),zC9 a0 = some y0 ∧ xs = [.agg ((Nd.enc a0).map .s)] ∧ r = .val (.s (.int .i64 y0))
def zFA : zAt:=zAC fun xs r => zOs xs r
theorem zGE : PSound Tryz.prog 112 zFA:=by
 have gok : ∀ (f : Nat) (s : zAt),(fun _ => none : Nat → Option zAt) f = some s → PSound Tryz.prog f s:=fun _ _ h => by cases h
 refine zAJ tokW Tryz.call112 Tryz.func112 rfl (fun xs r h => by obtain ⟨_,_,_,rfl,_⟩:=h; show 1 ≤ 9; decide) 9 rfl ?_;rintro xs r w0 G0 ⟨⟨n1_kind,n1_text,n1_cols,n1_kids⟩,y0,h,rfl,rfl⟩ _;rw [zC9] at h;refine zAa ?_;refine zAb [] [] rfl ?_;show Tri _ _ _ _;refine zAa ?_;refine zAa ?_;refine zAb [] [] rfl ?_;show Tri _ _ _ _;refine zAd rfl (fun hb => ?_) (fun hb => ?_)
 ·replace h:=zAm hb h;refine zAa ?_;refine zAb [] [] rfl ?_;show Tri _ _ _ _;refine zAh ?_;have hy:=Option.some.inj h;subst hy;unfold zAy;exact ⟨_,Le.refl _ _,rfl,rfl⟩
 ·replace h:=zAl hb h;refine zAg ?_;show Tri _ _ _ _;refine zAa ?_;refine zAb [] [8] rfl ?_;intro n2 hn2;obtain rfl : (n1_kids.length : Int) = n2:=(hn2.trans (congrArg (fun m : Nat => (m : Int)) (rlen Nd.encs_eq n1_kids))).symm;show Tri _ _ _ _;refine zAh ?_;have hy:=Option.some.inj h;subst hy;unfold zAy;exact ⟨_,Le.refl _ _,rfl,rfl⟩
def zL4 (xs : List AV) (os : List Ob) (x : AV) (os' : List (Option Ob)) : Prop:=∃ (a0 : Int) (a1 : Int) (z0 : Int),zEv a0 a1 = some z0 ∧ xs = [.s (.int .i64 a0),.op 0 0] ∧ os = [.box 3 (((irow .i64) a1).map .s)] ∧ x = .tup [] ∧ os' = [some (.box 3 (((irow .i64) z0).map .s))]
def zHS : zAt:=zCd (fun xs os x os' => zL4 xs os x os')
theorem zLx : PSound Tryz.prog 60 zHS:=by
 have gok : ∀ (f : Nat) (s : zAt),(fun _ => none : Nat → Option zAt) f = some s → PSound Tryz.prog f s:=fun _ _ h => by cases h
 refine PSound.withNil (zHl tokW Tryz.call60 Tryz.func60 rfl (fun xs os x os' h => by obtain ⟨_,_,_,_,rfl,rfl,_,rfl⟩:=h; exact ⟨by show 2 ≤ 5; decide,by show 1 ≤ 1; decide⟩) 5 rfl ?_) _;rintro xs os x os' w0 G0 B0 ⟨a1,o2,z0,h,rfl,rfl,rfl,rfl⟩ _;rw [zEv] at h;refine zAb [] [] rfl ?_;have hy:=Option.some.inj h;subst hy;unfold zCX;exact ⟨_,(Le.rename [(0,0)] [] [(0,.box 3 [.s (.int .i64 (IntKind.i64.wrap (o2 + 1)))])] 1 trivial ⟨rfl,⟨_,rfl,rfl⟩,trivial⟩ rfl rfl rfl rfl rfl),rfl,rfl,rfl,rfl,trivial⟩
def zAo (p : (Nd × Int)) : List S:=[.pt (Nd.enc p.1),.int .i64 p.2]
def zQe (n : Nat) (xs : List AV) (os : List Ob) (x : AV) (os' : List (Option Ob)) : Prop:=∃ (a0 : Nd) (a1 : Int) (z0 : Int),zGC n a0 a1 = some z0 ∧ xs = [.s (.pt (Nd.enc a0)),.clo 60 [.op 0 0]] ∧ os = [.box 3 (((irow .i64) a1).map .s)] ∧ x = .tup [] ∧ os' = [some (.box 3 (((irow .i64) z0).map .s))]
def zKW : zAt:=zCd (fun xs os x os' => ∃ n,zQe n xs os x os')
theorem zPx : PSound Tryz.prog 59 zKW:=by
 have gok : ∀ f s,look? f [(60,zHS)] = some s → PSound Tryz.prog f s:=zAu (by
  simp only [List.forall_mem_cons]
  exact ⟨zLx,by simp⟩)
 refine PSound.withNil (zHl tokW Tryz.call59 Tryz.func59 rfl (fun xs os x os' h => by obtain ⟨n,_,_,_,_,rfl,rfl,_,rfl⟩:=h; exact ⟨by show 2 ≤ 52; decide,by show 1 ≤ 1; decide⟩) 52 rfl ?_) _;rintro xs os x os' w0 G0 B0 ⟨n,⟨n1_kind,n1_text,n1_cols,n1_kids⟩,o2,z0,h,rfl,rfl,rfl,rfl⟩ _;rw [zGC] at h;refine zAa ?_;refine zAb [9] [] rfl ?_;show Tri _ _ _ _
 refine zAk (Le.rename [(0,0),(1,1)] [(1,.clo 60 [.op 0 0]),(4,.orow 1)] [(0,.box 3 [.s (.int .i64 o2)]),(1,.row 128 2 ((List.map zAo) [(Nd.mk n1_kind n1_text n1_cols n1_kids,1)]))] 2 ⟨rfl,rfl,trivial⟩ ⟨rfl,⟨_,rfl,rfl⟩,rfl,⟨_,rfl,congrArg (Ob.row 128 2) (by simp [List.map_append,List.map_take,List.map_drop,irow,brow,zAT,List.map_cons,List.map_nil,zAK,Nd.encs_eq,Nd.enc,zAq,zAn,zAo])⟩,trivial⟩ rfl rfl rfl rfl rfl) ?_;obtain ⟨x6,hl,h⟩:=zAc h;refine zAp ⟨ofL [],ofH [(0,.box 3 [.s (.int .i64 x6)])],1⟩ ?_ (fun σ' hle => ?_)
 ·refine zAi (zAG (X:=Nat × Int × (List (Nd × Int))) (fun y => match y with | (k,x3,l5) => ⟨ofL [(1,.clo 60 [.op 0 0]),(4,.orow 1)],ofH [(0,.box 3 [.s (.int .i64 x3)]),(1,.row 128 2 ((List.map zAo) l5))],2⟩) (fun y => zCf n y.1 y.2.1 y.2.2 = some x6) (fun y => y.1) (n,o2,[(Nd.mk n1_kind n1_text n1_cols n1_kids,1)]) hl ?_ ?_)
  ·exact (Le.rename [(0,0),(1,1)] _ _ _ ⟨rfl,rfl,trivial⟩ ⟨rfl,⟨_,rfl,rfl⟩,rfl,⟨_,rfl,rfl⟩,trivial⟩ rfl rfl rfl rfl rfl)
  ·rintro ⟨k,x3,l5⟩ h;cases k with
   | zero => cases h
   | succ k =>
    replace h : zCf n (k+1) x3 l5 = some x6:=h;rw [zCf] at h;refine zAa ?_;refine zAa ?_;refine zAb [] [11] rfl ?_;intro n7 hn7;obtain rfl : (l5.length : Int) = n7:=(hn7.trans (congrArg (fun m : Nat => (m : Int)) (rlen (fun _ => rfl) l5))).symm;show Tri _ _ _ _;refine zAd rfl (fun hb => ?_) (fun hb => ?_)
    ·replace h:=zAm hb h;refine zAg ?_;show Tri _ _ _ _;refine zAi ?_;refine zAa ?_;refine zAb [5] [15] rfl ?_;intro n8 hn8;obtain rfl : (l5.length : Int) = n8:=(hn8.trans (congrArg (fun m : Nat => (m : Int)) (rlen (fun _ => rfl) l5))).symm;obtain ⟨⟨⟨e9_node_kind,e9_node_text,e9_node_cols,e9_node_kids⟩,e9_depth⟩,he9,h⟩:=zAc h;refine And.intro (zAz (fun _ => rfl) he9).1 ?_;refine And.intro (zAz (fun _ => rfl) he9).2.2 ?_;refine ⟨_,(zAz (fun _ => rfl) he9).2.1,?_⟩
     show Tri _ _ _ _;refine zAk (Le.giveBox 2 [.pt [.int .i64 e9_node_kind,.str e9_node_text,.int .i64 e9_node_cols,.sl 4 (Nd.encs e9_node_kids)],.int .i64 e9_depth] rfl rfl) ?_;refine zAa ?_;refine zAb [23] [21] rfl ?_;intro n10 hn10;obtain rfl : (l5.length : Int) = n10:=(hn10.trans (congrArg (fun m : Nat => (m : Int)) (rlen (fun _ => rfl) l5))).symm;obtain ⟨hq,h⟩:=zAU h;refine And.intro ⟨hq.1,Int.le_trans hq.2 (Int.ofNat_le.2 (Nat.le_of_eq (rlen (fun _ => rfl) _).symm))⟩ ?_;show Tri _ _ _ _
     refine zAk (Le.rename [(0,0),(3,1)] [(1,.clo 60 [.op 0 0]),(4,.orow 1),(5,.s (.pt [.pt [.int .i64 e9_node_kind,.str e9_node_text,.int .i64 e9_node_cols,.sl 4 (Nd.encs e9_node_kids)],.int .i64 e9_depth]))] [(0,.box 3 [.s (.int .i64 x3)]),(1,.row 128 2 ((List.map zAo) (l5.take (IntKind.i64.wrap ((l5.length : Int) - 1)).toNat)))] 2 ⟨rfl,rfl,rfl,trivial⟩ ⟨rfl,⟨_,rfl,rfl⟩,rfl,⟨_,rfl,congrArg (Ob.row 128 2) (by simp [List.map_append,List.map_take,List.map_drop,irow,brow,zAT,List.map_cons,List.map_nil,zAK,Nd.encs_eq,Nd.enc,zAq,zAn,zAo])⟩,trivial⟩ rfl rfl rfl rfl rfl) ?_;refine zAa ?_
     refine zAb [] [] rfl ?_;obtain ⟨w11,hw11,h⟩:=zAc h;refine ⟨_,_,⟨_,_,_,hw11,rfl,rfl,rfl,rfl⟩,?_⟩
     show Tri _ _ _ _;refine zAa ?_;refine zAb [] [33] rfl ?_;intro n12 hn12;obtain rfl : (e9_node_kids.length : Int) = n12:=(hn12.trans (congrArg (fun m : Nat => (m : Int)) (rlen Nd.encs_eq e9_node_kids))).symm;show Tri _ _ _ _;obtain ⟨l16,hl,h⟩:=zAc h;refine zAp ⟨ofL [(1,.clo 60 [.op 0 0]),(4,.orow 1)],ofH [(0,.box 3 [.s (.int .i64 w11)]),(1,.row 128 2 ((List.map zAo) l16))],2⟩ ?_ (fun σ' hle => ?_)
     ·refine zAi (zAG (X:=Nat × Int × (List (Nd × Int))) (fun y => match y with | (k,x13,l15) => ⟨ofL [(1,.clo 60 [.op 0 0]),(4,.orow 1),(5,.s (.pt [.pt [.int .i64 e9_node_kind,.str e9_node_text,.int .i64 e9_node_cols,.sl 4 (Nd.encs e9_node_kids)],.int .i64 e9_depth])),(33,.s (.int .i64 (e9_node_kids.length : Int))),(34,.s (.int .i64 x13))],ofH [(0,.box 3 [.s (.int .i64 w11)]),(1,.row 128 2 ((List.map zAo) l15))],2⟩) (fun y => zCg e9_node_kids e9_depth y.1 y.2.1 y.2.2 = some l16) (fun y => y.1) (n,0,l5.take (IntKind.i64.wrap ((l5.length : Int) - 1)).toNat) hl ?_ ?_)
      ·exact (Le.rename [(0,0),(1,1)] _ _ _ ⟨rfl,rfl,rfl,rfl,rfl,trivial⟩ ⟨rfl,⟨_,rfl,rfl⟩,rfl,⟨_,rfl,rfl⟩,trivial⟩ rfl rfl rfl rfl rfl)
      ·rintro ⟨k,x13,l15⟩ h;cases k with
       | zero => cases h
       | succ k =>
        replace h : zCg e9_node_kids e9_depth (k+1) x13 l15 = some l16:=h;rw [zCg] at h;refine zAa ?_;refine zAb [] [] rfl ?_;show Tri _ _ _ _;refine zAa ?_;refine zAd rfl (fun hb => ?_) (fun hb => ?_)
        ·replace h:=zAm hb h;refine zAg ?_;show Tri _ _ _ _;refine zAa ?_;refine zAi ?_;refine zAa ?_;refine zAb [] [] rfl ?_;show Tri _ _ _ _;refine zAF (by exact tokW) (by exact gok) (by exact mixed) [50] [44,49] [13] rfl (by decide +kernel) ?_;obtain ⟨⟨e17_kind,e17_text,e17_cols,e17_kids⟩,he17,h⟩:=zAc h;refine And.intro (zAz Nd.encs_eq he17).1 ?_;intro r18 hr18;obtain rfl : [.int .i64 e17_kind,.str e17_text,.int .i64 e17_cols,.sl 4 (Nd.encs e17_kids)] = r18:=(hr18.trans (zAz Nd.encs_eq he17).2.1).symm;intro r19 hr19
         obtain rfl : (List.map zAo) [(Nd.mk e17_kind e17_text e17_cols e17_kids,IntKind.i64.wrap (e9_depth + 1))] = r19:=(hr19.trans (by simp [List.map_append,List.map_take,List.map_drop,irow,brow,zAT,List.map_cons,List.map_nil,zAK,Nd.encs_eq,Nd.enc,zAq,zAn,zAo])).symm;obtain ⟨hq,h⟩:=zAU h
         refine And.intro (show (((List.map zAo) l15).length + ((List.map zAo) [(Nd.mk e17_kind e17_text e17_cols e17_kids,IntKind.i64.wrap (e9_depth + 1))]).length) * 16 ≤ 140737488355328 ∧ ((List.map zAo) l15).length + ((List.map zAo) [(Nd.mk e17_kind e17_text e17_cols e17_kids,IntKind.i64.wrap (e9_depth + 1))]).length ≤ 9223372036854775807 from by simp only [List.length_append,List.length_cons,List.length_nil,List.length_map,rlen (fun _ => rfl)] at hq ⊢; omega) ?_;show Tri _ _ _ _
         refine zAk (Le.rename [(0,0),(2,1)] [(1,.clo 60 [.op 0 0]),(4,.orow 1),(5,.s (.pt [.pt [.int .i64 e9_node_kind,.str e9_node_text,.int .i64 e9_node_cols,.sl 4 (Nd.encs e9_node_kids)],.int .i64 e9_depth])),(33,.s (.int .i64 (e9_node_kids.length : Int))),(34,.s (.int .i64 x13))] [(0,.box 3 [.s (.int .i64 w11)]),(1,.row 128 2 ((List.map zAo) (l15 ++ [(Nd.mk e17_kind e17_text e17_cols e17_kids,IntKind.i64.wrap (e9_depth + 1))])))] 2 ⟨rfl,rfl,rfl,rfl,rfl,trivial⟩ ⟨rfl,⟨_,rfl,rfl⟩,rfl,⟨_,rfl,congrArg (Ob.row 128 2) (by simp [List.map_append,List.map_take,List.map_drop,irow,brow,zAT,List.map_cons,List.map_nil,zAK,Nd.encs_eq,Nd.enc,zAq,zAn,zAo])⟩,trivial⟩ rfl rfl rfl rfl rfl) ?_
         refine zAb [] [] rfl ?_;refine ⟨(k,IntKind.i64.wrap (x13 + 1),l15 ++ [(Nd.mk e17_kind e17_text e17_cols e17_kids,IntKind.i64.wrap (e9_depth + 1))]),h,(Le.rename [(0,0),(1,1)] _ _ _ ⟨rfl,rfl,rfl,rfl,rfl,trivial⟩ ⟨rfl,⟨_,rfl,rfl⟩,rfl,⟨_,rfl,rfl⟩,trivial⟩ rfl rfl rfl rfl rfl),Nat.lt_succ_self k⟩
        ·replace h:=zAl hb h;refine zAI ?_;cases h;exact (Le.rename [(0,0),(1,1)] _ _ _ ⟨rfl,rfl,trivial⟩ ⟨rfl,⟨_,rfl,rfl⟩,rfl,⟨_,rfl,rfl⟩,trivial⟩ rfl rfl rfl rfl rfl)
     ·refine ⟨(k,w11,l16),h,(Le.trans hle (Le.rename [(0,0),(1,1)] _ _ _ ⟨rfl,rfl,trivial⟩ ⟨rfl,⟨_,rfl,rfl⟩,rfl,⟨_,rfl,rfl⟩,trivial⟩ rfl rfl rfl rfl rfl)),Nat.lt_succ_self k⟩
    ·replace h:=zAl hb h;refine zAI ?_;cases h;exact (Le.rename [(0,0)] _ _ _ trivial ⟨rfl,⟨_,rfl,rfl⟩,trivial⟩ rfl rfl rfl rfl rfl)
 ·have hy:=Option.some.inj h;subst hy;unfold zCX;exact ⟨_,(Le.trans hle (Le.rename [(0,0)] [] [(0,.box 3 [.s (.int .i64 x6)])] 1 trivial ⟨rfl,⟨_,rfl,rfl⟩,trivial⟩ rfl rfl rfl rfl rfl)),rfl,rfl,rfl,rfl,trivial⟩
def zOr (n : Nat) (xs : List AV) (r : Ret) : Prop:=∃ (a0 : Nd) (y0 : Int),zDX n a0 = some y0 ∧ xs = [.agg ((Nd.enc a0).map .s)] ∧ r = .val (.s (.int .i64 y0))
def zGY : zAt:=zAC fun xs r => ∃ n,zOr n xs r
theorem zI9 : PSound Tryz.prog 36 zGY:=by
 have gok : ∀ f s,look? f [(59,zKW)] = some s → PSound Tryz.prog f s:=zAu (by
  simp only [List.forall_mem_cons]
  exact ⟨zPx,by simp⟩)
 refine zAJ tokW Tryz.call36 Tryz.func36 rfl (fun xs r h => by obtain ⟨n,_,_,_,rfl,_⟩:=h; show 1 ≤ 7; decide) 7 rfl ?_;rintro xs r w0 G0 ⟨n,⟨n1_kind,n1_text,n1_cols,n1_kids⟩,y0,h,rfl,rfl⟩ _;rw [zDX] at h;refine zAa ?_;refine zAb [] [] rfl ?_;show Tri _ _ _ _;refine zAa ?_;refine zAb [3] [] rfl ?_;show Tri _ _ _ _;refine zAa ?_;refine zAb [] [] rfl ?_;obtain ⟨w2,hw2,h⟩:=zAc h;refine ⟨_,_,⟨_,_,_,_,hw2,rfl,rfl,rfl,rfl⟩,?_⟩
 show Tri _ _ _ _;refine zAa ?_;refine zAb [] [] rfl ?_;show Tri _ _ _ _;refine zAh ?_;have hy:=Option.some.inj h;subst hy;unfold zAy;exact ⟨_,Le.refl _ _,rfl,rfl⟩
def zOo (n : Nat) (xs : List AV) (r : Ret) : Prop:=∃ (a0 : List Nd) (y0 : List Int),zDV n a0 = some y0 ∧ xs = [.s (.sl 4 (Nd.encs a0))] ∧ r = .row 3 1 ((List.map (irow .i64)) y0)
def zJR : zAt:=zAC fun xs r => ∃ n,zOo n xs r
theorem zNN : PSound Tryz.prog 61 zJR:=by
 have gok : ∀ f s,look? f [(36,zGY)] = some s → PSound Tryz.prog f s:=zAu (by
  simp only [List.forall_mem_cons]
  exact ⟨zI9,by simp⟩)
 refine zAJ tokW Tryz.call61 Tryz.func61 rfl (fun xs r h => by obtain ⟨n,_,_,_,rfl,_⟩:=h; show 1 ≤ 23; decide) 23 rfl ?_;rintro xs r w0 G0 ⟨n,l1,y0,h,rfl,rfl⟩ _;rw [zDV] at h;refine zAa ?_;refine zAb [2] [] rfl ?_;show Tri _ _ _ _;refine zAk (Le.rename [] [(0,.s (.sl 4 (Nd.encs l1)))] [] 0 ⟨rfl,trivial⟩ trivial rfl rfl rfl rfl rfl) ?_;refine zAa ?_;refine zAb [7] [6] rfl ?_;intro n2 hn2;obtain rfl : (l1.length : Int) = n2:=(hn2.trans (congrArg (fun m : Nat => (m : Int)) (rlen Nd.encs_eq l1))).symm;obtain ⟨hq,h⟩:=zAU h
 refine And.intro (show 0 ≤ (l1.length : Int) ∧ (l1.length : Int) ≤ (l1.length : Int) ∧ (l1.length : Int) * ((8 : Nat) : Int) ≤ 281474976710656 ∧ (l1.length : Int) ≤ 281474976710656 from ⟨hq.1,Int.le_refl _,by have h1:=hq.1; have h2:=hq.2; omega,by have h2:=hq.2; omega⟩) ?_;show Tri _ _ _ _
 refine zAk (Le.rename [(0,0)] [(0,.s (.sl 4 (Nd.encs l1))),(3,.orow 0)] [(0,.row 3 1 ((List.map (irow .i64)) (List.replicate (l1.length : Int).toNat 0)))] 1 ⟨rfl,rfl,trivial⟩ ⟨rfl,⟨_,rfl,congrArg (Ob.row 3 1) (by simp [List.map_append,List.map_take,List.map_drop,irow,brow,zAT,List.map_cons,List.map_nil,zAK,Nd.encs_eq,Nd.enc,zAq,zAn,zAo])⟩,trivial⟩ rfl rfl rfl rfl rfl) ?_;refine zAa ?_;refine zAa ?_;refine zAb [] [9] rfl ?_;intro n3 hn3;obtain rfl : (l1.length : Int) = n3:=(hn3.trans (congrArg (fun m : Nat => (m : Int)) (rlen Nd.encs_eq l1))).symm;show Tri _ _ _ _;obtain ⟨l6,hl,h⟩:=zAc h
 refine zAp ⟨ofL [(3,.orow 0)],ofH [(0,.row 3 1 ((List.map (irow .i64)) l6))],1⟩ ?_ (fun σ' hle => ?_)
 ·refine zAi (zAG (X:=Nat × Int × (List Int)) (fun y => match y with | (k,x4,l5) => ⟨ofL [(0,.s (.sl 4 (Nd.encs l1))),(3,.orow 0),(9,.s (.int .i64 (l1.length : Int))),(10,.s (.int .i64 x4))],ofH [(0,.row 3 1 ((List.map (irow .i64)) l5))],1⟩) (fun y => zB2 n l1 y.1 y.2.1 y.2.2 = some l6) (fun y => y.1) (n,0,List.replicate (l1.length : Int).toNat 0) hl ?_ ?_)
  ·exact (Le.rename [(0,0)] _ _ _ ⟨rfl,rfl,rfl,rfl,trivial⟩ ⟨rfl,⟨_,rfl,rfl⟩,trivial⟩ rfl rfl rfl rfl rfl)
  ·rintro ⟨k,x4,l5⟩ h;cases k with
   | zero => cases h
   | succ k =>
    replace h : zB2 n l1 (k+1) x4 l5 = some l6:=h;rw [zB2] at h;refine zAa ?_;refine zAb [] [] rfl ?_;show Tri _ _ _ _;refine zAa ?_;refine zAd rfl (fun hb => ?_) (fun hb => ?_)
    ·replace h:=zAm hb h;refine zAg ?_;show Tri _ _ _ _;refine zAa ?_;refine zAi ?_;refine zAa ?_;refine zAb [] [] rfl ?_;show Tri _ _ _ _;refine zAb [] [17] rfl ?_;obtain ⟨⟨e7_kind,e7_text,e7_cols,e7_kids⟩,he7,h⟩:=zAc h;refine And.intro (zAz Nd.encs_eq he7).1 ?_;intro r8 hr8;obtain rfl : [.int .i64 e7_kind,.str e7_text,.int .i64 e7_cols,.sl 4 (Nd.encs e7_kids)] = r8:=(hr8.trans (zAz Nd.encs_eq he7).2.1).symm;obtain ⟨y9,hy9,h⟩:=zAc h;refine ⟨_,⟨_,_,_,hy9,rfl,rfl⟩,?_⟩
     obtain ⟨e10,he10,h⟩:=zAc h;refine And.intro (zAz (fun _ => rfl) he10).1 ?_;have hset11:=(rset (R:=(List.map (irow .i64))) (f:=(irow .i64)) (fun _ => rfl) he10 y9 0 1 [.int .i64 y9] rfl)
     have hat11:=at_set he10 y9;refine And.intro (zAz (fun _ => rfl) he10).2.2 ?_;show Tri _ _ _ _;refine zAk (Le.rename [(0,0)] [(0,.s (.sl 4 (Nd.encs l1))),(3,.orow 0),(9,.s (.int .i64 (l1.length : Int))),(10,.s (.int .i64 x4))] [(0,.row 3 1 ((List.map (irow .i64)) (l5.set x4.toNat y9)))] 1 ⟨rfl,rfl,rfl,rfl,trivial⟩ ⟨rfl,⟨_,rfl,congrArg (Ob.row 3 1) hset11⟩,trivial⟩ rfl rfl rfl rfl rfl) ?_;refine zAb [] [] rfl ?_;refine ⟨(k,IntKind.i64.wrap (x4 + 1),l5.set x4.toNat y9),h,(Le.rename [(0,0)] _ _ _ ⟨rfl,rfl,rfl,rfl,trivial⟩ ⟨rfl,⟨_,rfl,rfl⟩,trivial⟩ rfl rfl rfl rfl rfl),Nat.lt_succ_self k⟩
    ·replace h:=zAl hb h;refine zAI ?_;cases h;exact (Le.rename [(0,0)] _ _ _ ⟨rfl,trivial⟩ ⟨rfl,⟨_,rfl,rfl⟩,trivial⟩ rfl rfl rfl rfl rfl)
 ·show Tri _ _ _ _;refine zAk hle ?_;refine zAa ?_;refine zAb [] [] rfl ?_;show Tri _ _ _ _;refine zAh ?_;have hy:=Option.some.inj h;subst hy;unfold zAy;exact ⟨_,Le.refl _ _,0,rfl,rfl⟩
end Go.Proofs.YtjdhkpdjecegnaaGreatDoor
namespace Go.Proofs.YtjdhkpdjecegnaaGreatDoor
open Go.Abs
theorem zQ9 {l : List Nd} {i : Nat} {x : Nd} (h : l[i]? = some x) : (Nd.encs l).getD i [] = Nd.enc x:=by
 simp [Nd.encs_eq,List.getD_eq_getElem?_getD,h]
theorem zS0 : ∀ (l : List Int),∃ v vs,zAZ l = v :: vs
 | [] => ⟨_,_,rfl⟩
 | _ :: _ => ⟨_,_,rfl⟩
theorem zN6 {F : Nd → Nd → Option Int} {b : List Nd} {other : List Int} : ∀ {xs : List Nd} {fs : List Int} {p : List (List Int) × List (List Int)},zAM F b other xs fs = some p → xs.length = fs.length
 | [],[],_,_ => rfl
 | [],_ :: _,_,h => by simp [zAM] at h
 | _ :: _,[],_,h => by simp [zAM] at h
 | x :: xs,f :: fs,p,h => by
  simp only [zAM] at h;obtain ⟨q,hq,_⟩:=zAc h;simp [zN6 hq]
theorem zPQ {F : Nd → Nd → Option Int} {b : List Nd} {other : List Int} : ∀ {xs : List Nd} {fs : List Int} {p : List (List Int) × List (List Int)},zAM F b other xs fs = some p → ∀ i,i ≤ xs.length → ∃ q,zAM F b other (xs.drop i) (fs.drop i) = some q
 | xs,fs,p,h,0,_ => ⟨p,h⟩
 | [],_,_,_,i + 1,hi => by simp at hi
 | _ :: _,[],_,h,_ + 1,_ => by simp [zAM] at h
 | x :: xs,f :: fs,p,h,i + 1,hi => by
  simp only [zAM] at h;obtain ⟨q,hq,_⟩:=zAc h;exact zPQ hq i (by simpa using hi)
theorem zQO {F : Nd → Nd → Option Int} {x : Nd} {f : Int} : ∀ {ys : List Nd} {os vs : List Int} {p : List Int × List Int},zAA F x f ys os vs = some p → os.length = ys.length ∧ vs.length = ys.length + 1 ∧ p.1.length = ys.length + 1 ∧ p.2.length = ys.length
 | [],[],[v],p,h => by simp only [zAA,Option.some.injEq] at h; subst h; simp
 | y :: ys,o :: os,v :: v2 :: vs,p,h => by
  simp only [zAA] at h;obtain ⟨q,hq,h⟩:=zAc h;obtain ⟨c,hc,h⟩:=zAc h;have:=zQO hq;simp only [Option.some.injEq] at h;subst h;simp only [List.length_cons] at this ⊢
  omega
 | [],[],[],_,h => by simp [zAA] at h
 | [],[],_ :: _ :: _,_,h => by simp [zAA] at h
 | [],_ :: _,_,_,h => by simp [zAA] at h
 | _ :: _,[],_,_,h => by simp [zAA] at h
 | _ :: _,_ :: _,[],_,h => by simp [zAA] at h
 | _ :: _,_ :: _,[_],_,h => by simp [zAA] at h
theorem row_drop {F : Nd → Nd → Option Int} {x : Nd} {f : Int} : ∀ {ys : List Nd} {os vs : List Int} {p : List Int × List Int},zAA F x f ys os vs = some p → ∀ j,j ≤ ys.length → ∃ q,zAA F x f (ys.drop j) (os.drop j) (vs.drop j) = some q
 | ys,os,vs,p,h,0,_ => ⟨p,h⟩
 | y :: ys,o :: os,v :: v2 :: vs,p,h,j + 1,hj => by
  simp only [zAA] at h;obtain ⟨q,hq,_⟩:=zAc h;exact row_drop hq j (by simpa using hj)
 | [],_,_,_,_,j + 1,hj => by simp at hj
 | _ :: _,[],_,_,h,_ + 1,_ => by simp [zAA] at h
 | _ :: _,_ :: _,[],_,h,_ + 1,_ => by simp [zAA] at h
 | _ :: _,_ :: _,[_],_,h,_ + 1,_ => by simp [zAA] at h
def zAv (p : List Int) : List S:=[.sl 1 ((List.map (irow .i64)) p)]
def zAw (p : (List (List Int) × List (List Int) × List Int × List Int)) : List S:=[.sl 1 ((List.map zAv) p.1),.sl 1 ((List.map zAv) p.2.1),.sl 1 ((List.map (irow .i64)) p.2.2.1),.sl 1 ((List.map (irow .i64)) p.2.2.2)]
def zEf (n : Nat) (xs : List AV) (r : Ret) : Prop:=∃ (a0 : List Nd) (a1 : List Nd) (y0 : (List (List Int) × List (List Int) × List Int × List Int)),zB1 n a0 a1 = some y0 ∧ xs = [.s (.sl 4 (Nd.encs a0)),.s (.sl 4 (Nd.encs a1))] ∧ r = .val (.agg ((zAw y0).map .s))
def zDx (n : Nat) (xs : List AV) (r : Ret) : Prop:=∃ (a0 : Nd) (a1 : Nd) (y0 : Int),zBD n a0 a1 = some y0 ∧ xs = [.s (.pt (Nd.enc a0)),.s (.pt (Nd.enc a1))] ∧ r = .val (.s (.int .i64 y0))
theorem zMs (n : Nat) (ih_diff_fill : PSound Tryz.prog 37 (zAC (zEf n))) (ih_diff_pairing : PSound Tryz.prog 62 (zAC (zDx n))) : PSound Tryz.prog 37 (zAC (zEf (n + 1))):=by
 have gok : ∀ f s,look? f [(61,zJR),(62,zAC (zDx n))] = some s → PSound Tryz.prog f s:=zAu (by
  simp only [List.forall_mem_cons]
  exact ⟨zNN,ih_diff_pairing,by simp⟩)
 refine zAJ tokW Tryz.call37 Tryz.func37 rfl (fun xs r h => by obtain ⟨_,_,_,_,rfl,_⟩:=h; show 2 ≤ 203; decide) 203 rfl ?_;rintro xs r w0 G0 ⟨a,b,y0,h,rfl,rfl⟩ _;rw [zB1] at h;obtain ⟨first,hfirst,h⟩:=zAc h;obtain ⟨other,hother,h⟩:=zAc h;obtain ⟨hlen,h⟩:=zAU h;obtain ⟨p,hp,h⟩:=zAc h;refine zAa ?_;refine zAb [4] [] rfl ?_;show Tri _ _ _ _;refine zAa ?_;refine zAb [5] [] rfl ?_;refine ⟨_,⟨_,_,_,hfirst,rfl,rfl⟩,?_⟩
 refine ⟨_,⟨_,_,_,hother,rfl,rfl⟩,?_⟩
 show Tri _ _ _ _;refine zAa ?_;refine zAb [5] [15,16] rfl ?_;intro n1 hn1;obtain rfl : (a.length : Int) = n1:=(hn1.trans (congrArg (fun m : Nat => (m : Int)) (rlen Nd.encs_eq a))).symm;intro n2 hn2;obtain rfl : ((a.length + 1 : Nat) : Int) = n2:=(hn2.trans (zAS (by omega))).symm;refine And.intro (show 0 ≤ _ ∧ _ from ⟨by omega,Int.le_refl _,show ((a.length + 1 : Nat) : Int) * ((24 : Nat) : Int) ≤ 281474976710656 by omega,by omega⟩) ?_;show Tri _ _ _ _;refine zAa ?_;refine zAb [5] [20] rfl ?_;intro n1 hn1;have e1 : (a.length : Int) = n1:=(hn1.trans (congrArg (fun m : Nat => (m : Int)) (rlen Nd.encs_eq a))).symm;subst e1
 refine And.intro (show 0 ≤ _ ∧ _ from ⟨by omega,Int.le_refl _,show ((a.length : Nat) : Int) * ((24 : Nat) : Int) ≤ 281474976710656 by omega,by omega⟩) ?_;show Tri _ _ _ _;refine zAa ?_;refine zAa ?_;refine zAb [5] [24] rfl ?_;intro n1 hn1;have e1 : (a.length : Int) = n1:=(hn1.trans (congrArg (fun m : Nat => (m : Int)) (rlen Nd.encs_eq a))).symm;subst e1;show Tri _ _ _ _
 refine zAp ⟨ofL [(0,.s (.sl 4 (Nd.encs a))),(1,.s (.sl 4 (Nd.encs b))),(4,.op 0 0),(5,.op 1 0)],ofH [(0,.box 66 [.nl 1,.nl 1,.nl 1,.nl 1]),(1,.box 66 [.orow 2,.orow 3,.s (.sl 1 (first.map (irow .i64))),.s (.sl 1 (other.map (irow .i64)))]),(2,.arow 43 1 (zAN p.1)),(3,.arow 43 1 (zAN p.2))],4⟩ ?_ (fun σ' hle => ?_)
 ·refine zAi (zAG (X:=Nat × List (List Int) × List (List Int)) (fun y => match y with | (k,L,P) => ⟨ofL [(0,.s (.sl 4 (Nd.encs a))),(1,.s (.sl 4 (Nd.encs b))),(4,.op 0 0),(5,.op 1 0),(6,.s (.int .i64 ((k : Int) - 1)))],ofH [(0,.box 66 [.nl 1,.nl 1,.nl 1,.nl 1]),(1,.box 66 [.orow 2,.orow 3,.s (.sl 1 (first.map (irow .i64))),.s (.sl 1 (other.map (irow .i64)))]),(2,.arow 43 1 (nils k ++ zAN L)),(3,.arow 43 1 (nils (min k a.length) ++ zAN P))],4⟩)
   (fun y => match y with | (k,L,P) => (k = a.length + 1 ∧ L = [] ∧ P = []) ∨ (k ≤ a.length ∧ zAM (zBD n) b other (a.drop k) (first.drop k) = some (L,P))) (fun y => y.1) (a.length + 1,[],[]) (.inl ⟨rfl,rfl,rfl⟩) ?_ ?_)
  ·refine Le.trans (Le.toA 2 rfl) (Le.trans (Le.toA 3 rfl) (Le.rename [(0,0),(1,1),(2,2),(3,3)] _ _ 4 ⟨rfl,rfl,rfl,rfl,?_,trivial⟩ ⟨rfl,⟨_,rfl,rfl⟩,rfl,⟨_,rfl,rfl⟩,rfl,⟨_,rfl,?_⟩,rfl,⟨_,rfl,?_⟩,trivial⟩ rfl rfl rfl (by simp only [ltH,Ob.lt,zGz]; rfl) rfl))
   ·show AV.s (.int .i64 _) = AV.s (.int .i64 _)
    congr 2; omega
   ·show Ob.arow 43 1 (((List.replicate (a.length + 1) [S.sl 1 []]).map (·.map AV.s)).map (AV.renAll _)) = _;rw [zRC,zGH]; simp [zAN]
   ·show Ob.arow 43 1 (((List.replicate a.length [S.sl 1 []]).map (·.map AV.s)).map (AV.renAll _)) = _;rw [zRC,zGH]; simp [zAN]
  ·rintro ⟨k,L,P⟩ hI;refine zAa ?_;refine zAa ?_;refine zAb [] [26] rfl ?_;intro b26 h26;show Tri _ _ _ _;refine zAd rfl (fun hb => ?_) (fun hb => ?_)
   ·refine zAg ?_;show Tri _ _ _ _;have hk : 1 ≤ k:=by
     rw [h26] at hb;have:=of_decide_eq_true hb; omega
    obtain ⟨i,rfl⟩ : ∃ i,k = i + 1:=⟨k - 1,by omega⟩
    refine zAk (Le.forget [(0,.s (.sl 4 (Nd.encs a))),(1,.s (.sl 4 (Nd.encs b))),(4,.op 0 0),(5,.op 1 0),(6,.s (.int .i64 (i : Int)))] ⟨rfl,rfl,rfl,rfl,congrArg (fun z => AV.s (.int .i64 z)) (by omega),trivial⟩) ?_;refine zAa ?_;refine zAi ?_;refine zAa ?_;refine zGo (by exact tokW) (by exact gok) (by exact mixed) [35] [33,34] [1,6,7,8] [1,7] rfl (by decide +kernel) ?_;intro n1 hn1;obtain rfl : (b.length : Int) = n1:=(hn1.trans (congrArg (fun m : Nat => (m : Int)) (rlen Nd.encs_eq b))).symm;intro n2 hn2;obtain rfl : ((b.length + 1 : Nat) : Int) = n2:=(hn2.trans (zAS (by omega))).symm
    refine And.intro (show 0 ≤ _ ∧ _ from ⟨by omega,Int.le_refl _,show ((b.length + 1 : Nat) : Int) * ((8 : Nat) : Int) ≤ 281474976710656 by omega,by omega⟩) ?_;have hlt1 : i < (nils (i + 1) ++ zAN L).length:=by simp [nils]; omega
    refine And.intro ⟨Int.natCast_nonneg _,Int.ofNat_lt.2 hlt1⟩ ?_;refine And.intro hlt1 ?_
    refine zAk (σ':=⟨ofL [(0,.s (.sl 4 (Nd.encs a))),(1,.s (.sl 4 (Nd.encs b))),(4,.op 0 0),(5,.op 1 0),(6,.s (.int .i64 (i : Int)))],ofH [(0,.box 66 [.nl 1,.nl 1,.nl 1,.nl 1]),(1,.box 66 [.orow 2,.orow 3,.s (.sl 1 (first.map (irow .i64))),.s (.sl 1 (other.map (irow .i64)))]),(2,.arow 43 1 (nils i ++ [.orow 4] :: zAN L)),(3,.arow 43 1 (nils (min (i + 1) a.length) ++ zAN P)),(4,.row 3 1 ((List.replicate (b.length + 1) 0).map (irow .i64)))],5⟩) (Le.rename [(0,0),(1,1),(2,2),(3,3),(4,4)] _ _ 5 ⟨rfl,rfl,rfl,rfl,rfl,trivial⟩ ⟨rfl,⟨_,rfl,rfl⟩,rfl,⟨_,rfl,rfl⟩,rfl,⟨_,rfl,?_⟩,rfl,⟨_,rfl,?_⟩,rfl,⟨_,rfl,?_⟩,trivial⟩ rfl rfl rfl ?_ rfl) ?_
    ·show Ob.arow 43 1 (List.map (AV.renAll _) ((nils (i + 1) ++ zAN L).set i (((nils (i + 1) ++ zAN L).getD i []).take 0 ++ [AV.orow 4] ++ ((nils (i + 1) ++ zAN L).getD i []).drop 1))) = _;rw [zO4,show ([AV.s (S.sl 1 [])].take 0 ++ [AV.orow 4] ++ [AV.s (S.sl 1 [])].drop 1) = [AV.orow 4] from rfl,zRx]
     simp [zGH,zFs,AV.renAll,AV.ren,look]
     rfl
    ·show Ob.arow 43 1 (List.map (AV.renAll _) (nils (min (i + 1) a.length) ++ zAN P)) = _;simp [zGH,zFs]
    ·show Ob.row 3 1 (List.replicate (b.length + 1) [S.int .i64 0]) = _;simp [irow]
    ·simp only [ltH,Ob.lt,zGz,lt_1]; rfl
    rcases hI with ⟨hin,rfl,rfl⟩ | ⟨hin,hrows⟩
    ·obtain rfl : i = a.length:=by omega
     refine zAa ?_;refine zAa ?_;refine zAb [] [39,40] rfl ?_;intro n1 hn1;obtain rfl : (a.length : Int) = n1:=(hn1.trans (congrArg (fun m : Nat => (m : Int)) (rlen Nd.encs_eq a))).symm;intro b40 h40;obtain rfl : false = b40:=(h40.trans (decide_eq_false (Int.lt_irrefl _))).symm;show Tri _ _ _ _;refine zAd rfl (fun h => by cases h) (fun _ => ?_)
     refine zAg ?_;show Tri _ _ _ _;refine zAa ?_;refine zAb [] [49] rfl ?_;intro n1 hn1;obtain rfl : (b.length : Int) = n1:=(hn1.trans (congrArg (fun m : Nat => (m : Int)) (rlen Nd.encs_eq b))).symm;show Tri _ _ _ _
     refine zAp ⟨ofL [(0,.s (.sl 4 (Nd.encs a))),(1,.s (.sl 4 (Nd.encs b))),(4,.op 0 0),(5,.op 1 0),(6,.s (.int .i64 (a.length : Int)))],ofH [(0,.box 66 [.nl 1,.nl 1,.nl 1,.nl 1]),(1,.box 66 [.orow 2,.orow 3,.s (.sl 1 (first.map (irow .i64))),.s (.sl 1 (other.map (irow .i64)))]),(2,.arow 43 1 (nils a.length ++ [.orow 4] :: zAN [])),(3,.arow 43 1 (nils (min (a.length + 1) a.length) ++ zAN [])),(4,.row 3 1 ((zAZ other).map (irow .i64)))],5⟩ ?_ (fun σ' hle => ?_)
     ·refine zAi (zAG (X:=Nat × List Int) (fun y => match y with | (k,rd) => ⟨ofL [(0,.s (.sl 4 (Nd.encs a))),(1,.s (.sl 4 (Nd.encs b))),(4,.op 0 0),(5,.op 1 0),(6,.s (.int .i64 (a.length : Int))),(7,.s (.int .i64 ((k : Int) - 1)))],ofH [(0,.box 66 [.nl 1,.nl 1,.nl 1,.nl 1]),(1,.box 66 [.orow 2,.orow 3,.s (.sl 1 (first.map (irow .i64))),.s (.sl 1 (other.map (irow .i64)))]),(2,.arow 43 1 (nils a.length ++ [.orow 4] :: zAN [])),(3,.arow 43 1 (nils (min (a.length + 1) a.length) ++ zAN [])),(4,.row 3 1 ((List.replicate k 0 ++ rd).map (irow .i64)))],5⟩)
       (fun y => match y with | (k,rd) => (k = b.length + 1 ∧ rd = []) ∨ (k ≤ b.length ∧ rd = zAZ (other.drop k))) (fun y => y.1) (b.length + 1,[]) (.inl ⟨rfl,rfl⟩) ?_ ?_)
      ·refine Le.rename [(0,0),(1,1),(2,2),(3,3),(4,4)] _ _ 5 ⟨rfl,rfl,rfl,rfl,rfl,congrArg (fun z => AV.s (.int .i64 z)) (by omega),trivial⟩ ⟨rfl,⟨_,rfl,rfl⟩,rfl,⟨_,rfl,rfl⟩,rfl,⟨_,rfl,zGG _ rfl⟩,rfl,⟨_,rfl,zRr _⟩,rfl,⟨_,rfl,?_⟩,trivial⟩ rfl rfl rfl (by simp only [ltH,Ob.lt,zGz,lt_1]; rfl) rfl;show Ob.row 3 1 _ = Ob.row 3 1 _;simp
      ·rintro ⟨k,rd⟩ hI;refine zAa ?_;refine zAa ?_;refine zAb [] [51] rfl ?_;intro b51 h51;show Tri _ _ _ _;refine zAd rfl (fun hb => ?_) (fun hb => ?_)
       ·refine zAg ?_;show Tri _ _ _ _;have hk : 1 ≤ k:=by
         rw [h51] at hb;have:=of_decide_eq_true hb; omega
        obtain ⟨j,rfl⟩ : ∃ j,k = j + 1:=⟨k - 1,by omega⟩
        refine zAk (Le.forget [(0,.s (.sl 4 (Nd.encs a))),(1,.s (.sl 4 (Nd.encs b))),(4,.op 0 0),(5,.op 1 0),(6,.s (.int .i64 (a.length : Int))),(7,.s (.int .i64 (j : Int)))] ⟨rfl,rfl,rfl,rfl,rfl,congrArg (fun z => AV.s (.int .i64 z)) (by omega),trivial⟩) ?_;refine zAa ?_;have wj : IntKind.i64.wrap ((j : Int) - 1) = (j : Int) - 1:=wrap64_in (by omega) (by rcases hI with h | h <;> omega)
        refine zAi ?_;refine zAi ?_;refine zAa ?_;refine zAb [] [140,141,145] rfl ?_;intro n1 hn1;obtain rfl : (a.length : Int) = n1:=(hn1.trans (congrArg (fun m : Nat => (m : Int)) (rlen Nd.encs_eq a))).symm;intro b1 hb1;obtain rfl : true = b1:=(hb1.trans (beq_self_eq_true _)).symm;intro n1 hn1;obtain rfl : (b.length : Int) = n1:=(hn1.trans (congrArg (fun m : Nat => (m : Int)) (rlen Nd.encs_eq b))).symm;show Tri _ _ _ _;refine zAd rfl (fun hb2 => ?_) (fun hb2 => ?_)
        ·refine zAg ?_;show Tri _ _ _ _;refine zAb [] [] rfl ?_;have hj : j = b.length:=Int.ofNat.inj (eq_of_beq hb2)
         refine ⟨(j,[0]),.inr ⟨by omega,by rw [hj,← hlen.2.2,List.drop_length]; rfl⟩,Le.rename [(0,0),(1,1),(2,2),(3,3),(4,4)] _ _ 5 ⟨rfl,rfl,rfl,rfl,rfl,congrArg (fun z => AV.s (.int .i64 z)) wj,trivial⟩ ⟨rfl,⟨_,rfl,rfl⟩,rfl,⟨_,rfl,rfl⟩,rfl,⟨_,rfl,zGG _ rfl⟩,rfl,⟨_,rfl,zRr _⟩,rfl,⟨_,rfl,?_⟩,trivial⟩ rfl rfl rfl (by simp only [ltH,Ob.lt,zGz,lt_1]; rfl) rfl,Nat.lt_succ_self j⟩
         rcases hI with ⟨_,rfl⟩ | ⟨h,_⟩
         ·show Ob.row 3 1 _ = Ob.row 3 1 _;rw [List.append_nil,List.replicate_succ']
         ·omega
        ·have hj : j ≠ b.length:=fun e => by rw [e] at hb2; simp at hb2
         obtain ⟨hj2,rfl⟩ : j + 1 ≤ b.length ∧ rd = zAZ (other.drop (j + 1)):=by
          rcases hI with ⟨h,_⟩ | h
          ·omega
          ·exact h
         refine zAa ?_;refine zAb [] [151,152] rfl ?_;intro n1 hn1;obtain rfl : (a.length : Int) = n1:=(hn1.trans (congrArg (fun m : Nat => (m : Int)) (rlen Nd.encs_eq a))).symm;intro b1 hb1;obtain rfl : true = b1:=(hb1.trans (beq_self_eq_true _)).symm;show Tri _ _ _ _;refine zAd rfl (fun _ => ?_) (fun h => by cases h)
         refine zAF (by exact tokW) (by exact gok) (by exact mixed) [] [165,171] [1,3,4,7,9,10,13,14,16,21,22] rfl (by decide +kernel) ?_;have hlt1 : a.length < (nils a.length ++ [AV.orow 4] :: zAN []).length:=by simp [nils]
         refine And.intro ⟨Int.natCast_nonneg _,Int.ofNat_lt.2 hlt1⟩ ?_;refine And.intro hlt1 ⟨_,zD5,?_⟩
         refine And.intro ⟨Int.natCast_nonneg _,Int.ofNat_lt.2 hlt1⟩ ?_;refine And.intro hlt1 ⟨_,zD5,?_⟩
         intro z hz;obtain rfl : ((j + 1 : Nat) : Int) = z:=(hz.trans (zAS (by omega))).symm;obtain ⟨v,vs,hv⟩:=zS0 (other.drop (j + 1))
         have ho : other[j]? = some (other[j]'(by omega)):=List.getElem?_eq_getElem _;have hdr : other.drop j = other[j]'(by omega) :: other.drop (j + 1):=List.drop_eq_getElem_cons (by omega)
         have g1 : (List.replicate (j + 1) 0 ++ v :: vs)[j + 1]? = some v:=by simp [List.getElem?_append]
         have hlt2 : j + 1 < (List.map (irow .i64) (List.replicate (j + 1) 0 ++ v :: vs)).length:=by simp
         rw [hv]
         refine And.intro ⟨Int.natCast_nonneg _,Int.ofNat_lt.2 hlt2⟩ ?_;refine And.intro hlt2 ⟨_,zDG g1,?_⟩
         refine And.intro ⟨Int.natCast_nonneg _,Int.ofNat_lt.2 (by rw [zGy]; omega)⟩ ?_;intro r hr;obtain rfl : [S.int .i64 _] = r:=(hr.trans (zDG ho)).symm;have hlt3 : j < (List.map (irow .i64) (List.replicate (j + 1) 0 ++ v :: vs)).length:=by simp; omega
         refine And.intro ⟨Int.natCast_nonneg _,Int.ofNat_lt.2 hlt3⟩ ?_;refine And.intro hlt3 ?_;show Tri _ _ _ _;refine zAb [] [] rfl ?_;refine ⟨(j,zAZ (other.drop j)),.inr ⟨by omega,rfl⟩,Le.rename [(0,0),(1,1),(2,2),(3,3),(4,4)] _ _ 5 ⟨rfl,rfl,rfl,rfl,rfl,congrArg (fun z => AV.s (.int .i64 z)) wj,trivial⟩ ⟨rfl,⟨_,rfl,rfl⟩,rfl,⟨_,rfl,rfl⟩,rfl,⟨_,rfl,zGG _ rfl⟩,rfl,⟨_,rfl,zRr _⟩,rfl,⟨_,rfl,?_⟩,trivial⟩ rfl rfl rfl (by simp only [ltH,Ob.lt,zGz,lt_1]; rfl) rfl,Nat.lt_succ_self j⟩
         refine congrArg (Ob.row 3 1) ((zOb (l:=List.replicate (j + 1) 0 ++ v :: vs) (j:=j) (v:=0) (x:=IntKind.i64.wrap (v + other[j]'(by omega))) (by simp [List.getElem?_append])).trans (congrArg (List.map (irow .i64)) ?_))
         rw [hdr]
         simp only [zAZ,hv,List.headD_cons]
         exact zKH _
       ·refine zAI ?_;have hk : k = 0:=by
         rw [h51] at hb;have:=of_decide_eq_false hb; omega
        subst hk;rcases hI with ⟨h1,_⟩ | ⟨_,rfl⟩
        ·omega
        ·exact Le.rename [(0,0),(1,1),(2,2),(3,3),(4,4)] _ _ 5 ⟨rfl,rfl,rfl,rfl,rfl,trivial⟩ ⟨rfl,⟨_,rfl,rfl⟩,rfl,⟨_,rfl,rfl⟩,rfl,⟨_,rfl,zGG _ rfl⟩,rfl,⟨_,rfl,zRr _⟩,rfl,⟨_,rfl,rfl⟩,trivial⟩ rfl rfl rfl (by simp only [ltH,Ob.lt,zGz,lt_1]; rfl) rfl
     ·show Tri _ _ _ _;refine zAk hle ?_;refine zAb [] [] rfl ?_;refine ⟨(a.length,[zAZ other],[]),.inr ⟨Nat.le_refl _,by rw [List.drop_length,zN6 hp,List.drop_length]; rfl⟩,
       Le.trans (Le.giveRow 4 rfl) (Le.rename [(0,0),(1,1),(2,2),(3,3)] _ _ 4 ⟨rfl,rfl,rfl,rfl,congrArg (fun z => AV.s (.int .i64 z)) (wrap64_in (by omega) (by omega)),trivial⟩ ⟨rfl,⟨_,rfl,rfl⟩,rfl,⟨_,rfl,rfl⟩,rfl,⟨_,rfl,zWb (a:=a.length) (p:=fun _ => .junk) _ rfl⟩,rfl,⟨_,rfl,(zVR _ _ _).trans (by rw [Nat.min_eq_right (Nat.le_succ _),Nat.min_self])⟩,trivial⟩ rfl rfl rfl (by simp only [ltH,Ob.lt,zGz,lt_1]; rfl) rfl),Nat.lt_succ_self _⟩
    ·have hlf:=zN6 hp;have hbl:=hlen.2.2;obtain ⟨⟨L2,P2⟩,hq⟩:=zPQ hp i (by omega)
     have ha : a[i]? = some (a[i]'(by omega)):=List.getElem?_eq_getElem _;have hf : first[i]? = some (first[i]'(by omega)):=List.getElem?_eq_getElem _;have hq0:=hq;rw [List.drop_eq_getElem_cons (show i < a.length by omega),List.drop_eq_getElem_cons (show i < first.length by omega)] at hq;generalize a[i]'(by omega) = x at ha hq;generalize first[i]'(by omega) = f at hf hq;simp only [zAM,hrows] at hq;obtain ⟨p0,hp0,hq⟩:=zAc hq;cases hp0;cases L with
     | nil => cases hq
     | cons r1 L =>
     dsimp only at hq;obtain ⟨⟨rr,ss⟩,hrow,hq⟩:=zAc hq;simp only [Option.some.injEq,Prod.mk.injEq] at hq;obtain ⟨rfl,rfl⟩:=hq;have hrl:=zQO hrow;dsimp only at hrl;refine zAa ?_;refine zAa ?_;refine zAb [] [39,40] rfl ?_;intro n1 hn1;obtain rfl : (a.length : Int) = n1:=(hn1.trans (congrArg (fun m : Nat => (m : Int)) (rlen Nd.encs_eq a))).symm;intro b40 h40;obtain rfl : true = b40:=(h40.trans (decide_eq_true (by omega))).symm;show Tri _ _ _ _;refine zAd rfl (fun _ => ?_) (fun h => by cases h)
     refine zGo (by exact tokW) (by exact gok) (by exact mixed) [46] [45] [1,5,6,7] [1,6] rfl (by decide +kernel) ?_;intro n1 hn1;obtain rfl : (b.length : Int) = n1:=(hn1.trans (congrArg (fun m : Nat => (m : Int)) (rlen Nd.encs_eq b))).symm;refine And.intro (show 0 ≤ _ ∧ _ from ⟨by omega,Int.le_refl _,show ((b.length : Nat) : Int) * ((8 : Nat) : Int) ≤ 281474976710656 by omega,by omega⟩) ?_;have hm1 : min (i + 1) a.length = i + 1:=Nat.min_eq_left hin;have hlt1 : i < (nils (min (i + 1) a.length) ++ zAN P).length:=by rw [hm1]; simp [nils]; omega
     refine And.intro ⟨Int.natCast_nonneg _,Int.ofNat_lt.2 hlt1⟩ ?_;refine And.intro hlt1 ?_;show Tri _ _ _ _
     refine zAk (σ':=⟨ofL [(0,.s (.sl 4 (Nd.encs a))),(1,.s (.sl 4 (Nd.encs b))),(4,.op 0 0),(5,.op 1 0),(6,.s (.int .i64 (i : Int)))],ofH [(0,.box 66 [.nl 1,.nl 1,.nl 1,.nl 1]),(1,.box 66 [.orow 2,.orow 3,.s (.sl 1 (first.map (irow .i64))),.s (.sl 1 (other.map (irow .i64)))]),(2,.arow 43 1 (nils i ++ [.orow 4] :: zAN (r1 :: L))),(3,.arow 43 1 (nils i ++ [.orow 5] :: zAN P)),(4,.row 3 1 ((List.replicate (b.length + 1) 0).map (irow .i64))),(5,.row 3 1 ((List.replicate b.length 0).map (irow .i64)))],6⟩) (Le.rename [(0,0),(1,1),(2,2),(3,3),(4,4),(5,5)] _ _ 6 ⟨rfl,rfl,rfl,rfl,rfl,trivial⟩ ⟨rfl,⟨_,rfl,rfl⟩,rfl,⟨_,rfl,rfl⟩,rfl,⟨_,rfl,zGG _ rfl⟩,rfl,⟨_,rfl,?_⟩,rfl,⟨_,rfl,rfl⟩,rfl,⟨_,rfl,?_⟩,trivial⟩ rfl rfl rfl (by simp only [ltH,Ob.lt,zGz,lt_1]; rfl) rfl) ?_
     ·show Ob.arow 43 1 (List.map (AV.renAll _) ((nils (min (i + 1) a.length) ++ zAN P).set i (((nils (min (i + 1) a.length) ++ zAN P).getD i []).take 0 ++ [AV.orow 5] ++ ((nils (min (i + 1) a.length) ++ zAN P).getD i []).drop 1))) = _;rw [hm1,zO4,show ([AV.s (S.sl 1 [])].take 0 ++ [AV.orow 5] ++ [AV.s (S.sl 1 [])].drop 1) = [AV.orow 5] from rfl,zRx]
      simp [zGH,zFs,AV.renAll,AV.ren,look]
      rfl
     ·show Ob.row 3 1 (List.replicate b.length [S.int .i64 0]) = _;simp [irow]
     refine zAa ?_;refine zAb [] [49] rfl ?_;intro n1 hn1;obtain rfl : (b.length : Int) = n1:=(hn1.trans (congrArg (fun m : Nat => (m : Int)) (rlen Nd.encs_eq b))).symm;show Tri _ _ _ _
     refine zAp ⟨ofL [(0,.s (.sl 4 (Nd.encs a))),(1,.s (.sl 4 (Nd.encs b))),(4,.op 0 0),(5,.op 1 0),(6,.s (.int .i64 (i : Int)))],ofH [(0,.box 66 [.nl 1,.nl 1,.nl 1,.nl 1]),(1,.box 66 [.orow 2,.orow 3,.s (.sl 1 (first.map (irow .i64))),.s (.sl 1 (other.map (irow .i64)))]),(2,.arow 43 1 (nils i ++ [.orow 4] :: zAN (r1 :: L))),(3,.arow 43 1 (nils i ++ [.orow 5] :: zAN P)),(4,.row 3 1 (rr.map (irow .i64))),(5,.row 3 1 (ss.map (irow .i64)))],6⟩ ?_ (fun σ' hle => ?_)
     ·refine zAi (zAG (X:=Nat × List Int × List Int) (fun y => match y with | (k,rd,sd) => ⟨ofL [(0,.s (.sl 4 (Nd.encs a))),(1,.s (.sl 4 (Nd.encs b))),(4,.op 0 0),(5,.op 1 0),(6,.s (.int .i64 (i : Int))),(7,.s (.int .i64 ((k : Int) - 1)))],ofH [(0,.box 66 [.nl 1,.nl 1,.nl 1,.nl 1]),(1,.box 66 [.orow 2,.orow 3,.s (.sl 1 (first.map (irow .i64))),.s (.sl 1 (other.map (irow .i64)))]),(2,.arow 43 1 (nils i ++ [.orow 4] :: zAN (r1 :: L))),(3,.arow 43 1 (nils i ++ [.orow 5] :: zAN P)),(4,.row 3 1 ((List.replicate k 0 ++ rd).map (irow .i64))),(5,.row 3 1 ((List.replicate (min k b.length) 0 ++ sd).map (irow .i64)))],6⟩)
       (fun y => match y with | (k,rd,sd) => (k = b.length + 1 ∧ rd = [] ∧ sd = []) ∨ (k ≤ b.length ∧ zAA (zBD n) x f (b.drop k) (other.drop k) (r1.drop k) = some (rd,sd))) (fun y => y.1) (b.length + 1,[],[]) (.inl ⟨rfl,rfl,rfl⟩) ?_ ?_)
      ·refine Le.rename [(0,0),(1,1),(2,2),(3,3),(4,4),(5,5)] _ _ 6 ⟨rfl,rfl,rfl,rfl,rfl,congrArg (fun z => AV.s (.int .i64 z)) (by omega),trivial⟩ ⟨rfl,⟨_,rfl,rfl⟩,rfl,⟨_,rfl,rfl⟩,rfl,⟨_,rfl,zGG _ rfl⟩,rfl,⟨_,rfl,zGG _ rfl⟩,rfl,⟨_,rfl,?_⟩,rfl,⟨_,rfl,?_⟩,trivial⟩ rfl rfl rfl (by simp only [ltH,Ob.lt,zGz,lt_1]; rfl) rfl
       ·show Ob.row 3 1 _ = Ob.row 3 1 _;simp
       ·show Ob.row 3 1 _ = Ob.row 3 1 _;rw [Nat.min_eq_right (Nat.le_succ _)]; simp
      ·rintro ⟨k,rd,sd⟩ hI;refine zAa ?_;refine zAa ?_;refine zAb [] [51] rfl ?_;intro b51 h51;show Tri _ _ _ _;refine zAd rfl (fun hb => ?_) (fun hb => ?_)
       ·refine zAg ?_;show Tri _ _ _ _;have hk : 1 ≤ k:=by
         rw [h51] at hb;have:=of_decide_eq_true hb; omega
        obtain ⟨j,rfl⟩ : ∃ j,k = j + 1:=⟨k - 1,by omega⟩
        refine zAk (Le.forget [(0,.s (.sl 4 (Nd.encs a))),(1,.s (.sl 4 (Nd.encs b))),(4,.op 0 0),(5,.op 1 0),(6,.s (.int .i64 (i : Int))),(7,.s (.int .i64 (j : Int)))] ⟨rfl,rfl,rfl,rfl,rfl,congrArg (fun z => AV.s (.int .i64 z)) (by omega),trivial⟩) ?_;have wj : IntKind.i64.wrap ((j : Int) - 1) = (j : Int) - 1:=wrap64_in (by omega) (by rcases hI with h | h <;> omega)
        have hne : ((i : Int) == (a.length : Int)) = false:=by
         cases e : ((i : Int) == (a.length : Int)) with
         | false => rfl
         | true => have:=eq_of_beq e; omega
        refine zAa ?_;refine zAi ?_;refine zAi ?_;refine zAa ?_;refine zAb [] [140,141] rfl ?_;intro n1 hn1;obtain rfl : (a.length : Int) = n1:=(hn1.trans (congrArg (fun m : Nat => (m : Int)) (rlen Nd.encs_eq a))).symm;intro b1 hb1;obtain rfl : false = b1:=(hb1.trans hne).symm;show Tri _ _ _ _;refine zAd rfl (fun h => by cases h) (fun _ => ?_)
        refine zAa ?_;refine zAb [] [151,152] rfl ?_;intro n1 hn1;obtain rfl : (a.length : Int) = n1:=(hn1.trans (congrArg (fun m : Nat => (m : Int)) (rlen Nd.encs_eq a))).symm;intro b1 hb1;obtain rfl : false = b1:=(hb1.trans hne).symm;show Tri _ _ _ _;refine zAd rfl (fun h => by cases h) (fun _ => ?_)
        refine zAa ?_;refine zAb [] [178] rfl ?_;intro n1 hn1;obtain rfl : (b.length : Int) = n1:=(hn1.trans (congrArg (fun m : Nat => (m : Int)) (rlen Nd.encs_eq b))).symm;show Tri _ _ _ _;have hlt1 : i < (nils i ++ [AV.orow 4] :: zAN (r1 :: L)).length:=by simp [nils]
        have hlt2 : i + 1 < (nils i ++ [AV.orow 4] :: zAN (r1 :: L)).length:=by simp [nils,zAN]
        have hlt3 : i < (nils i ++ [AV.orow 5] :: zAN P).length:=by simp [nils]
        refine zAd rfl (fun hb2 => ?_) (fun hb2 => ?_)
        ·have hj : j = b.length:=Int.ofNat.inj (eq_of_beq hb2)
         obtain ⟨rfl,rfl⟩ : rd = [] ∧ sd = []:=by
          rcases hI with ⟨_,h1,h2⟩ | ⟨h,_⟩
          ·exact ⟨h1,h2⟩
          ·omega
         have hlr : j + 1 = r1.length:=by omega
         have hv : r1[j]? = some (r1[j]'(by omega)):=List.getElem?_eq_getElem _;have hdr : r1.drop j = [r1[j]'(by omega)]:=by rw [List.drop_eq_getElem_cons (show j < r1.length by omega),List.drop_eq_nil_of_le (by omega)]
         generalize r1[j]'(by omega) = v at hv hdr;refine zAF (by exact tokW) (by exact gok) (by exact mixed) [] [189,193,198] [1,3,4,7,10,11,16,21,22] rfl (by decide +kernel) ?_;refine And.intro ⟨Int.natCast_nonneg _,Int.ofNat_lt.2 hlt1⟩ ?_;refine And.intro hlt1 ⟨_,zD5,?_⟩
         intro z hz;obtain rfl : ((i + 1 : Nat) : Int) = z:=(hz.trans (zAS (by omega))).symm;refine And.intro ⟨Int.natCast_nonneg _,Int.ofNat_lt.2 hlt2⟩ ?_;refine And.intro hlt2 ⟨_,zJy,?_⟩
         refine And.intro ⟨Int.natCast_nonneg _,Int.ofNat_lt.2 (by rw [zGy]; omega)⟩ ?_;intro r hr;obtain rfl : [S.int .i64 v] = r:=(hr.trans (zDG hv)).symm;refine And.intro ⟨Int.natCast_nonneg _,Int.ofNat_lt.2 (by rw [zGy]; omega)⟩ ?_;intro r hr;obtain rfl : [S.int .i64 f] = r:=(hr.trans (zDG hf)).symm;have hlt4 : j < (List.map (irow .i64) (List.replicate (j + 1) 0 ++ ([] : List Int))).length:=by simp
         refine And.intro ⟨Int.natCast_nonneg _,Int.ofNat_lt.2 hlt4⟩ ?_;refine And.intro hlt4 ?_;show Tri _ _ _ _;refine zAb [] [] rfl ?_
         refine ⟨(j,[IntKind.i64.wrap (v + f)],[]),.inr ⟨by omega,by rw [hdr,List.drop_eq_nil_of_le (show b.length ≤ j by omega),List.drop_eq_nil_of_le (show other.length ≤ j by omega)]; rfl⟩,Le.rename [(0,0),(1,1),(2,2),(3,3),(4,4),(5,5)] _ _ 6 ⟨rfl,rfl,rfl,rfl,rfl,congrArg (fun z => AV.s (.int .i64 z)) wj,trivial⟩ ⟨rfl,⟨_,rfl,rfl⟩,rfl,⟨_,rfl,rfl⟩,rfl,⟨_,rfl,zGG _ rfl⟩,rfl,⟨_,rfl,zGG _ rfl⟩,rfl,⟨_,rfl,?_⟩,rfl,⟨_,rfl,?_⟩,trivial⟩ rfl rfl rfl (by simp only [ltH,Ob.lt,zGz,lt_1]; rfl) rfl,Nat.lt_succ_self j⟩
         ·refine congrArg (Ob.row 3 1) ((zOb (l:=List.replicate (j + 1) 0 ++ []) (j:=j) (v:=0) (x:=IntKind.i64.wrap (v + f)) (by simp)).trans (congrArg (List.map (irow .i64)) (zKH _)))
         ·show Ob.row 3 1 _ = Ob.row 3 1 _;rw [Nat.min_eq_right (show b.length ≤ j + 1 by omega),Nat.min_eq_right (show b.length ≤ j by omega)]
        ·have hj : j ≠ b.length:=fun e => by rw [e] at hb2; simp at hb2
         obtain ⟨hj2,hd⟩ : j + 1 ≤ b.length ∧ zAA (zBD n) x f (b.drop (j + 1)) (other.drop (j + 1)) (r1.drop (j + 1)) = some (rd,sd):=by
          rcases hI with ⟨h,_⟩ | h
          ·omega
          ·exact h
         obtain ⟨q,hq⟩:=row_drop hrow j (by omega)
         have hqq:=hq;have hv : r1[j]? = some (r1[j]'(by omega)):=List.getElem?_eq_getElem _;have hv2 : r1[j + 1]? = some (r1[j + 1]'(by omega)):=List.getElem?_eq_getElem _;have ho : other[j]? = some (other[j]'(by omega)):=List.getElem?_eq_getElem _;have hy : b[j]? = some (b[j]'(by omega)):=List.getElem?_eq_getElem _;rw [List.drop_eq_getElem_cons (show j < b.length by omega),List.drop_eq_getElem_cons (show j < other.length by omega),List.drop_eq_getElem_cons (show j < r1.length by omega),List.drop_eq_getElem_cons (show j + 1 < r1.length by omega)] at hq;rw [List.drop_eq_getElem_cons (show j + 1 < r1.length by omega)] at hd;generalize r1[j]'(by omega) = v at hv hq
         generalize r1[j + 1]'(by omega) = v2 at hv2 hq hd;generalize other[j]'(by omega) = o at ho hq;generalize b[j]'(by omega) = y at hy hq;simp only [zAA,hd] at hq;obtain ⟨p0,hp0,hq⟩:=zAc hq;cases hp0;obtain ⟨c,hc,hq⟩:=zAc hq;have hrdl:=zQO hd;cases rd with
         | nil => simp at hrdl
         | cons w ws =>
         simp only [List.headD_cons,Option.some.injEq] at hq;have hmj : min (j + 1) b.length = j + 1:=Nat.min_eq_left hj2;have hmj' : min j b.length = j:=Nat.min_eq_left (by omega)
         refine zAa ?_;refine zAF (by exact tokW) (by exact gok) (by exact mixed) [] [62,65] [1,3,4,13,14] rfl (by decide +kernel) ?_;refine And.intro ⟨Int.natCast_nonneg _,Int.ofNat_lt.2 hlt3⟩ ?_;refine And.intro hlt3 ⟨_,zD5,?_⟩
         refine And.intro ⟨Int.natCast_nonneg _,Int.ofNat_lt.2 (by rw [rlen Nd.encs_eq]; omega)⟩ ?_;intro r hr;obtain rfl : Nd.enc x = r:=(hr.trans (zQ9 ha)).symm;refine And.intro ⟨Int.natCast_nonneg _,Int.ofNat_lt.2 (by rw [rlen Nd.encs_eq]; omega)⟩ ?_;intro r hr;obtain rfl : Nd.enc y = r:=(hr.trans (zQ9 hy)).symm;refine ⟨_,⟨_,_,_,hc,rfl,rfl⟩,?_⟩
         have hlt5 : j < (List.map (irow .i64) (List.replicate (min (j + 1) b.length) 0 ++ sd)).length:=by rw [hmj]; simp; omega
         refine And.intro ⟨Int.natCast_nonneg _,Int.ofNat_lt.2 hlt5⟩ ?_;refine And.intro hlt5 ?_;show Tri _ _ _ _
         refine zAk (σ':=⟨ofL [(0,.s (.sl 4 (Nd.encs a))),(1,.s (.sl 4 (Nd.encs b))),(4,.op 0 0),(5,.op 1 0),(6,.s (.int .i64 (i : Int))),(7,.s (.int .i64 (j : Int)))],ofH [(0,.box 66 [.nl 1,.nl 1,.nl 1,.nl 1]),(1,.box 66 [.orow 2,.orow 3,.s (.sl 1 (first.map (irow .i64))),.s (.sl 1 (other.map (irow .i64)))]),(2,.arow 43 1 (nils i ++ [.orow 4] :: zAN (r1 :: L))),(3,.arow 43 1 (nils i ++ [.orow 5] :: zAN P)),(4,.row 3 1 ((List.replicate (j + 1) 0 ++ w :: ws).map (irow .i64))),(5,.row 3 1 ((List.replicate j 0 ++ c :: sd).map (irow .i64)))],6⟩) (Le.rename [(0,0),(1,1),(2,2),(3,3),(4,4),(5,5)] _ _ 6 ⟨rfl,rfl,rfl,rfl,rfl,rfl,trivial⟩ ⟨rfl,⟨_,rfl,rfl⟩,rfl,⟨_,rfl,rfl⟩,rfl,⟨_,rfl,zGG _ rfl⟩,rfl,⟨_,rfl,zGG _ rfl⟩,rfl,⟨_,rfl,rfl⟩,rfl,⟨_,rfl,?_⟩,trivial⟩ rfl rfl rfl (by simp only [ltH,Ob.lt,zGz,lt_1]; rfl) rfl) ?_
         ·refine congrArg (Ob.row 3 1) ((zOb (l:=List.replicate (min (j + 1) b.length) 0 ++ sd) (j:=j) (v:=0) (x:=c) (by rw [hmj]; simp [List.getElem?_append])).trans (congrArg (List.map (irow .i64)) ?_))
          rw [hmj]; exact zKH _
         have g4 : (List.replicate (j + 1) 0 ++ w :: ws)[j + 1]? = some w:=by simp [List.getElem?_append]
         have hlt4 : j + 1 < (List.map (irow .i64) (List.replicate (j + 1) 0 ++ w :: ws)).length:=by simp
         have hlt4' : j < (List.map (irow .i64) (List.replicate (j + 1) 0 ++ w :: ws)).length:=by simp; omega
         have g5 : (List.replicate j 0 ++ c :: sd)[j]? = some c:=by simp [List.getElem?_append]
         have hlt6 : j < (List.map (irow .i64) (List.replicate j 0 ++ c :: sd)).length:=by simp
         refine zAa ?_;refine zAF (by exact tokW) (by exact gok) (by exact mixed) [] [74,80,86,90,95] [1,3,4,7,8,10,16,19,20,25] rfl (by decide +kernel) ?_;refine And.intro ⟨Int.natCast_nonneg _,Int.ofNat_lt.2 hlt1⟩ ?_;refine And.intro hlt1 ⟨_,zD5,?_⟩
         intro z hz;obtain rfl : ((j + 1 : Nat) : Int) = z:=(hz.trans (zAS (by omega))).symm;refine And.intro ⟨Int.natCast_nonneg _,Int.ofNat_lt.2 hlt4⟩ ?_;refine And.intro hlt4 ⟨_,zDG g4,?_⟩
         refine And.intro ⟨Int.natCast_nonneg _,Int.ofNat_lt.2 (by rw [zGy]; omega)⟩ ?_;intro r hr;obtain rfl : [S.int .i64 o] = r:=(hr.trans (zDG ho)).symm;intro z hz;obtain rfl : ((i + 1 : Nat) : Int) = z:=(hz.trans (zAS (by omega))).symm;refine And.intro ⟨Int.natCast_nonneg _,Int.ofNat_lt.2 hlt2⟩ ?_;refine And.intro hlt2 ⟨_,zJy,?_⟩
         refine And.intro ⟨Int.natCast_nonneg _,Int.ofNat_lt.2 (by rw [zGy]; omega)⟩ ?_;intro r hr;obtain rfl : [S.int .i64 v] = r:=(hr.trans (zDG hv)).symm;refine And.intro ⟨Int.natCast_nonneg _,Int.ofNat_lt.2 (by rw [zGy]; omega)⟩ ?_;intro r hr;obtain rfl : [S.int .i64 f] = r:=(hr.trans (zDG hf)).symm;show Tri _ _ _ _;refine zAa ?_;refine zAa ?_;refine zAb [] [] rfl ?_;refine And.intro ⟨Int.natCast_nonneg _,Int.ofNat_lt.2 hlt3⟩ ?_;refine And.intro hlt3 ⟨_,zD5,?_⟩
         refine And.intro ⟨Int.natCast_nonneg _,Int.ofNat_lt.2 hlt6⟩ ?_;refine And.intro hlt6 ⟨_,zDG g5,?_⟩
         show Tri _ _ _ _;refine zAp ⟨ofL [(0,.s (.sl 4 (Nd.encs a))),(1,.s (.sl 4 (Nd.encs b))),(4,.op 0 0),(5,.op 1 0),(6,.s (.int .i64 (i : Int))),(7,.s (.int .i64 (j : Int))),(8,.s (.int .i64 (q.1.headD 0)))],ofH [(0,.box 66 [.nl 1,.nl 1,.nl 1,.nl 1]),(1,.box 66 [.orow 2,.orow 3,.s (.sl 1 (first.map (irow .i64))),.s (.sl 1 (other.map (irow .i64)))]),(2,.arow 43 1 (nils i ++ [.orow 4] :: zAN (r1 :: L))),(3,.arow 43 1 (nils i ++ [.orow 5] :: zAN P)),(4,.row 3 1 ((List.replicate (j + 1) 0 ++ w :: ws).map (irow .i64))),(5,.row 3 1 ((List.replicate j 0 ++ c :: sd).map (irow .i64)))],6⟩ ?_ (fun σ' hle => ?_)
         ·refine zAd rfl (fun hb3 => ?_) (fun hb3 => ?_)
          ·refine zAF (by exact tokW) (by exact gok) (by exact mixed) [] [112,116,117] [2,5,6,12,14,15,17,18] rfl (by decide +kernel) ?_;intro z hz;obtain rfl : ((i + 1 : Nat) : Int) = z:=(hz.trans (zAS (by omega))).symm;refine And.intro ⟨Int.natCast_nonneg _,Int.ofNat_lt.2 hlt2⟩ ?_;refine And.intro hlt2 ⟨_,zJy,?_⟩
           intro z hz;obtain rfl : ((j + 1 : Nat) : Int) = z:=(hz.trans (zAS (by omega))).symm;refine And.intro ⟨Int.natCast_nonneg _,Int.ofNat_lt.2 (by rw [zGy]; omega)⟩ ?_;intro r hr;obtain rfl : [S.int .i64 v2] = r:=(hr.trans (zDG hv2)).symm;refine And.intro ⟨Int.natCast_nonneg _,Int.ofNat_lt.2 hlt3⟩ ?_;refine And.intro hlt3 ⟨_,zD5,?_⟩
           refine And.intro ⟨Int.natCast_nonneg _,Int.ofNat_lt.2 hlt6⟩ ?_;refine And.intro hlt6 ⟨_,zDG g5,?_⟩
           refine Le.rename [(0,0),(1,1),(2,2),(3,3),(4,4),(5,5)] _ _ 6 ⟨rfl,rfl,rfl,rfl,rfl,rfl,?_,trivial⟩ ⟨rfl,⟨_,rfl,rfl⟩,rfl,⟨_,rfl,rfl⟩,rfl,⟨_,rfl,zGG _ rfl⟩,rfl,⟨_,rfl,zGG _ rfl⟩,rfl,⟨_,rfl,rfl⟩,rfl,⟨_,rfl,rfl⟩,trivial⟩ rfl rfl rfl (by simp only [ltH,Ob.lt,zGz,lt_1]; rfl) rfl;have h0 : 0 ≤ c:=of_decide_eq_true hb3;rw [if_pos h0] at hq;rw [← hq]
           rfl
          ·refine zAg ?_;refine Le.rename [(0,0),(1,1),(2,2),(3,3),(4,4),(5,5)] _ _ 6 ⟨rfl,rfl,rfl,rfl,rfl,rfl,?_,trivial⟩ ⟨rfl,⟨_,rfl,rfl⟩,rfl,⟨_,rfl,rfl⟩,rfl,⟨_,rfl,zGG _ rfl⟩,rfl,⟨_,rfl,zGG _ rfl⟩,rfl,⟨_,rfl,rfl⟩,rfl,⟨_,rfl,rfl⟩,trivial⟩ rfl rfl rfl (by simp only [ltH,Ob.lt,zGz,lt_1]; rfl) rfl;have h0 : ¬ 0 ≤ c:=of_decide_eq_false hb3;rw [if_neg h0] at hq;rw [← hq]
           rfl
         ·show Tri _ _ _ _;refine zAk hle ?_;refine zAb [] [] rfl ?_;refine And.intro ⟨Int.natCast_nonneg _,Int.ofNat_lt.2 hlt1⟩ ?_;refine And.intro hlt1 ⟨_,zD5,?_⟩
          refine And.intro ⟨Int.natCast_nonneg _,Int.ofNat_lt.2 hlt4'⟩ ?_;refine And.intro hlt4' ?_;show Tri _ _ _ _;refine zAb [] [] rfl ?_;refine ⟨(j,q.1,q.2),.inr ⟨by omega,hqq⟩,Le.rename [(0,0),(1,1),(2,2),(3,3),(4,4),(5,5)] _ _ 6 ⟨rfl,rfl,rfl,rfl,rfl,congrArg (fun z => AV.s (.int .i64 z)) wj,trivial⟩ ⟨rfl,⟨_,rfl,rfl⟩,rfl,⟨_,rfl,rfl⟩,rfl,⟨_,rfl,zGG _ rfl⟩,rfl,⟨_,rfl,zGG _ rfl⟩,rfl,⟨_,rfl,?_⟩,rfl,⟨_,rfl,?_⟩,trivial⟩ rfl rfl rfl (by simp only [ltH,Ob.lt,zGz,lt_1]; rfl) rfl,Nat.lt_succ_self j⟩
          ·refine congrArg (Ob.row 3 1) ((zOb (l:=List.replicate (j + 1) 0 ++ w :: ws) (j:=j) (v:=0) (x:=q.1.headD 0) (by simp [List.getElem?_append])).trans (congrArg (List.map (irow .i64)) ((zKH _).trans ?_)))
           rw [← hq]; rfl
          ·show Ob.row 3 1 _ = Ob.row 3 1 _;rw [hmj',← hq]
       ·refine zAI ?_;have hk : k = 0:=by
         rw [h51] at hb;have:=of_decide_eq_false hb; omega
        subst hk;rcases hI with ⟨h1,_⟩ | ⟨_,h1⟩
        ·omega
        ·simp only [List.drop_zero,hrow,Option.some.injEq,Prod.mk.injEq] at h1;obtain ⟨rfl,rfl⟩:=h1;refine Le.rename [(0,0),(1,1),(2,2),(3,3),(4,4),(5,5)] _ _ 6 ⟨rfl,rfl,rfl,rfl,rfl,trivial⟩ ⟨rfl,⟨_,rfl,rfl⟩,rfl,⟨_,rfl,rfl⟩,rfl,⟨_,rfl,zGG _ rfl⟩,rfl,⟨_,rfl,zGG _ rfl⟩,rfl,⟨_,rfl,rfl⟩,rfl,⟨_,rfl,?_⟩,trivial⟩ rfl rfl rfl (by simp only [ltH,Ob.lt,zGz,lt_1]; rfl) rfl;show Ob.row 3 1 _ = Ob.row 3 1 _;rw [Nat.zero_min]; rfl
     ·show Tri _ _ _ _;refine zAk hle ?_;refine zAb [] [] rfl ?_;refine ⟨(i,rr :: r1 :: L,ss :: P),.inr ⟨by omega,hq0⟩,
       Le.trans (Le.giveRow 4 rfl) (Le.trans (Le.giveRow 5 rfl) (Le.rename [(0,0),(1,1),(2,2),(3,3)] _ _ 4 ⟨rfl,rfl,rfl,rfl,congrArg (fun z => AV.s (.int .i64 z)) (wrap64_in (by omega) (by omega)),trivial⟩ ⟨rfl,⟨_,rfl,rfl⟩,rfl,⟨_,rfl,rfl⟩,rfl,⟨_,rfl,?_⟩,rfl,⟨_,rfl,?_⟩,trivial⟩ rfl rfl rfl (by simp only [ltH,Ob.lt,zGz,lt_1]; rfl) rfl)),Nat.lt_succ_self _⟩
      ·simp [Ob.frz,Ob.ren,nils,zAN,AV.frzAll,AV.frz,AV.renAll,AV.ren]
      ·rw [Nat.min_eq_left (show i ≤ a.length by omega)]
       simp [Ob.frz,Ob.ren,nils,zAN,AV.frzAll,AV.frz,AV.renAll,AV.ren]
   ·refine zAI ?_;have hk : k = 0:=by
     rw [h26] at hb;have:=of_decide_eq_false hb; omega
    subst hk;rcases hI with ⟨h1,_⟩ | ⟨_,h1⟩
    ·omega
    ·simp only [List.drop_zero,hp,Option.some.injEq] at h1;subst h1;exact Le.rename [(0,0),(1,1),(2,2),(3,3)] _ _ 4 ⟨rfl,rfl,rfl,rfl,trivial⟩ ⟨rfl,⟨_,rfl,rfl⟩,rfl,⟨_,rfl,rfl⟩,rfl,⟨_,rfl,congrArg (Ob.arow 43 1) (zFs _)⟩,rfl,⟨_,rfl,congrArg (Ob.arow 43 1) ((congrArg (fun m => (nils m ++ zAN P).map (AV.renAll _)) (Nat.zero_min _)).trans (zFs _))⟩,trivial⟩ rfl rfl rfl (by simp only [ltH,Ob.lt,lt_p]; rfl) rfl
 ·show Tri _ _ _ _;refine zAk hle ?_;refine zAa ?_;refine zAb [] [] rfl ?_;show Tri _ _ _ _;refine zAh ?_;have hy:=Option.some.inj h;subst hy;unfold zAy;refine ⟨_,Le.giveWhole [(4,.s (.pt (zAw (p.1,p.2,first,other))))] ⟨.box rfl rfl fun i x s hx hs => ?_,trivial⟩ rfl,rfl,rfl⟩
  match i,hx,hs with
  | 0,hx,hs => cases hx; cases hs; exact zPO rfl
  | 1,hx,hs => cases hx; cases hs; exact zPO rfl
  | 2,hx,hs => cases hx; cases hs; exact .s _
  | 3,hx,hs => cases hx; cases hs; exact .s _
  | i + 4,hx,hs => simp at hx
theorem zJL (n : Nat) (ih_diff_fill : PSound Tryz.prog 37 (zAC (zEf n))) (ih_diff_pairing : PSound Tryz.prog 62 (zAC (zDx n))) : PSound Tryz.prog 62 (zAC (zDx (n + 1))):=by
 have gok : ∀ f s,look? f [(37,zAC (zEf n))] = some s → PSound Tryz.prog f s:=zAu (by
  simp only [List.forall_mem_cons]
  exact ⟨ih_diff_fill,by simp⟩)
 refine zAJ tokW Tryz.call62 Tryz.func62 rfl (fun xs r h => by obtain ⟨_,_,_,_,rfl,_⟩:=h; show 2 ≤ 83; decide) 83 rfl ?_;rintro xs r w0 G0 ⟨⟨a1_kind,a1_text,a1_cols,a1_kids⟩,⟨a2_kind,a2_text,a2_cols,a2_kids⟩,y0,h,rfl,rfl⟩ _;rw [zBD] at h;refine zAa ?_;refine zAb [] [] rfl ?_;show Tri _ _ _ _;refine zAa ?_;refine zAa ?_;obtain ⟨x3,hj,h⟩:=zAc h;refine zAp ⟨ofL [(0,.s (.pt [.int .i64 a1_kind,.str a1_text,.int .i64 a1_cols,.sl 4 (Nd.encs a1_kids)])),(1,.s (.pt [.int .i64 a2_kind,.str a2_text,.int .i64 a2_cols,.sl 4 (Nd.encs a2_kids)])),(39,.s (.bool x3))],fun _ => none,0⟩ ?_ (fun σ' hle => ?_)
 ·replace h:=hj;refine zAF (by exact tokW) (by exact gok) (by exact mixed) [] [16,27,32,37] [] rfl (by decide +kernel) ?_;intro b hb;cases b with
  | true =>
   replace h:=zAm hb.symm h;intro b hb;subst hb;cases h;exact (Le.forget _ ⟨rfl,rfl,rfl,trivial⟩)
  | false =>
   replace h:=zAl hb.symm h;intro b hb;cases b with
   | true =>
    replace h:=zAm hb.symm h;cases h;exact (Le.forget _ ⟨rfl,rfl,rfl,trivial⟩)
   | false =>
    replace h:=zAl hb.symm h;intro n4 hn4;obtain rfl : (a1_kids.length : Int) = n4:=(hn4.trans (congrArg (fun m : Nat => (m : Int)) (rlen Nd.encs_eq a1_kids))).symm;intro n5 hn5;obtain rfl : (a2_kids.length : Int) = n5:=(hn5.trans (congrArg (fun m : Nat => (m : Int)) (rlen Nd.encs_eq a2_kids))).symm;cases h;exact (Le.forget _ ⟨rfl,rfl,rfl,trivial⟩)
 ·show Tri _ _ _ _;refine zAk hle ?_;refine zAd rfl (fun hb => ?_) (fun hb => ?_)
  ·replace h:=zAm hb h;refine zAa ?_;refine zAb [] [] rfl ?_;show Tri _ _ _ _;refine zAh ?_;have hy:=Option.some.inj h;subst hy;unfold zAy;exact ⟨_,Le.refl _ _,rfl,rfl⟩
  ·replace h:=zAl hb h;refine zAg ?_;show Tri _ _ _ _;refine zAa ?_;refine zAb [] [] rfl ?_;show Tri _ _ _ _;refine zAa ?_;refine zAa ?_;refine zAF (by exact tokW) (by exact gok) (by exact mixed) [] [] [] rfl (by decide +kernel) ?_;show Tri _ _ _ _;obtain ⟨x6,hj,h⟩:=zAc h;refine zAp ⟨ofL [(0,.s (.pt [.int .i64 a1_kind,.str a1_text,.int .i64 a1_cols,.sl 4 (Nd.encs a1_kids)])),(1,.s (.pt [.int .i64 a2_kind,.str a2_text,.int .i64 a2_cols,.sl 4 (Nd.encs a2_kids)])),(5,.s (.int .i64 x6))],fun _ => none,0⟩ ?_ (fun σ' hle => ?_)
   ·replace h:=hj;refine zAd rfl (fun hb => ?_) (fun hb => ?_)
    ·replace h:=zAm hb h;refine zAb [] [] rfl ?_;cases h;exact (Le.forget _ ⟨rfl,rfl,rfl,trivial⟩)
    ·replace h:=zAl hb h;refine zAg ?_;cases h;exact (Le.forget _ ⟨rfl,rfl,rfl,trivial⟩)
   ·show Tri _ _ _ _;refine zAk hle ?_;refine zAa ?_;refine zAa ?_;refine zAb [] [53] rfl ?_;intro n7 hn7;obtain rfl : (a1_kids.length : Int) = n7:=(hn7.trans (congrArg (fun m : Nat => (m : Int)) (rlen Nd.encs_eq a1_kids))).symm;show Tri _ _ _ _;obtain ⟨x10,hl,h⟩:=zAc h;refine zAp ⟨ofL [(5,.s (.int .i64 x10))],fun _ => none,0⟩ ?_ (fun σ' hle => ?_)
    ·refine zAi (zAG (X:=Nat × Int × Int) (fun y => match y with | (k,x8,x9) => ⟨ofL [(0,.s (.pt [.int .i64 a1_kind,.str a1_text,.int .i64 a1_cols,.sl 4 (Nd.encs a1_kids)])),(1,.s (.pt [.int .i64 a2_kind,.str a2_text,.int .i64 a2_cols,.sl 4 (Nd.encs a2_kids)])),(5,.s (.int .i64 x8)),(53,.s (.int .i64 (a1_kids.length : Int))),(54,.s (.int .i64 x9))],fun _ => none,0⟩) (fun y => zBB (zB1 n) a1_kids a2_kids y.1 y.2.1 y.2.2 = some x10) (fun y => y.1) (n,x6,0) hl ?_ ?_)
     ·exact (Le.forget _ ⟨rfl,rfl,rfl,rfl,rfl,trivial⟩)
     ·rintro ⟨k,x8,x9⟩ h;cases k with
      | zero => cases h
      | succ k =>
       replace h : zBB (zB1 n) a1_kids a2_kids (k+1) x8 x9 = some x10:=h;rw [zBB] at h;refine zAa ?_;refine zAb [] [] rfl ?_;show Tri _ _ _ _;refine zAa ?_;refine zAd rfl (fun hb => ?_) (fun hb => ?_)
       ·replace h:=zAm hb h;refine zAg ?_;show Tri _ _ _ _;refine zAa ?_;refine zAi ?_;refine zAa ?_;refine zAb [] [] rfl ?_;show Tri _ _ _ _;refine zAF (by exact tokW) (by exact gok) (by exact mixed) [] [63,71,76,78] [] rfl (by decide +kernel) ?_;obtain ⟨⟨e11_kind,e11_text,e11_cols,e11_kids⟩,he11,h⟩:=zAc h;refine And.intro (zAz Nd.encs_eq he11).1 ?_;intro r12 hr12;obtain rfl : [.int .i64 e11_kind,.str e11_text,.int .i64 e11_cols,.sl 4 (Nd.encs e11_kids)] = r12:=(hr12.trans (zAz Nd.encs_eq he11).2.1).symm;obtain ⟨⟨e13_kind,e13_text,e13_cols,e13_kids⟩,he13,h⟩:=zAc h;refine And.intro (zAz Nd.encs_eq he13).1 ?_
        intro r14 hr14;obtain rfl : [.int .i64 e13_kind,.str e13_text,.int .i64 e13_cols,.sl 4 (Nd.encs e13_kids)] = r14:=(hr14.trans (zAz Nd.encs_eq he13).2.1).symm;obtain ⟨⟨y15_least,y15_pair,y15_first,y15_other⟩,hy15,h⟩:=zAc h;refine ⟨_,⟨_,_,_,hy15,rfl,rfl⟩,?_⟩
        obtain ⟨e16,he16,h⟩:=zAc h;refine And.intro (zAz (fun _ => rfl) he16).1 ?_;intro r17 hr17;obtain rfl : [.sl 1 ((List.map (irow .i64)) e16)] = r17:=(hr17.trans (zAz (fun _ => rfl) he16).2.1).symm;obtain ⟨e18,he18,h⟩:=zAc h;refine And.intro (zAz (fun _ => rfl) he18).1 ?_;intro r19 hr19;obtain rfl : [.int .i64 e18] = r19:=(hr19.trans (zAz (fun _ => rfl) he18).2.1).symm;show Tri _ _ _ _;refine zAb [] [] rfl ?_;refine ⟨(k,IntKind.i64.wrap (x8 + e18),IntKind.i64.wrap (x9 + 1)),h,(Le.forget _ ⟨rfl,rfl,rfl,rfl,rfl,trivial⟩),Nat.lt_succ_self k⟩
       ·replace h:=zAl hb h;refine zAI ?_;cases h;exact (Le.forget _ ⟨rfl,trivial⟩)
    ·show Tri _ _ _ _;refine zAk hle ?_;refine zAa ?_;refine zAb [] [] rfl ?_;show Tri _ _ _ _;refine zAh ?_;have hy:=Option.some.inj h;subst hy;unfold zAy;exact ⟨_,Le.refl _ _,rfl,rfl⟩
theorem zL9 : ∀ n,PSound Tryz.prog 37 (zAC (zEf n)) ∧ PSound Tryz.prog 62 (zAC (zDx n)):=by
 intro n
 induction n with
 | zero =>
  refine ⟨?_,?_⟩
  ·exact zCk Tryz.call37 (fun xs r h => by obtain ⟨_,_,_,h,_⟩:=h; rw [zB1] at h; cases h)
  ·exact zCk Tryz.call62 (fun xs r h => by obtain ⟨_,_,_,h,_⟩:=h; rw [zBD] at h; cases h)
 | succ n ih =>
  obtain ⟨ih_diff_fill,ih_diff_pairing⟩:=ih;exact ⟨zMs n ih_diff_fill ih_diff_pairing,zJL n ih_diff_fill ih_diff_pairing⟩
def zIc : zAt:=zAC fun xs r => ∃ n,zEf n xs r
theorem zJ8 : PSound Tryz.prog 37 zIc:=zD0 (fun n => (zL9 n).1)
def zEJ (xs : List AV) (os : List Ob) (x : AV) (os' : List (Option Ob)) : Prop:=∃ (a0 : List UInt8) (a1 : List UInt8) (y0 : Int) (y1 : Unit) (z1 : List UInt8),zAj a0 a1 = some (y0,y1,z1) ∧ xs = [.op 0 39,.s (.str a0)] ∧ os = [.box 137 (zA7 (.op 0 39) (.orow 1)),.row 5 1 (List.map brow a1)] ∧ x = .tup [.s (.int .i64 y0),.junk] ∧ os' = [some (.box 137 (zA7 (.op 0 39) (.orow 2))),none,some (.row 5 1 (List.map brow z1))]
def zBK : zAt:=zCd (fun xs os x os' => zEJ xs os x os')
theorem zCA : PSound Tryz.prog 117 zBK:=by
 have gok : ∀ f s,look? f [(119,zBZ)] = some s → PSound Tryz.prog f s:=zAu (by
  simp only [List.forall_mem_cons]
  exact ⟨zC3,by simp⟩)
 refine PSound.withNil (zHl tokW Tryz.call117 Tryz.func117 rfl (fun xs os x os' h => by obtain ⟨_,_,_,_,_,_,rfl,rfl,_,rfl⟩:=h; exact ⟨by show 2 ≤ 19; decide,by show 2 ≤ 3; decide⟩) 19 rfl ?_) _;rintro xs os x os' w0 G0 B0 ⟨s1,b2,y0,y1,z1,h,rfl,rfl,rfl,rfl⟩ _;rw [zAj] at h;refine zAa ?_;refine zAb [] [] rfl ?_;show Tri _ _ _ _;refine zAa ?_;refine zAb [] [] rfl ?_;obtain ⟨b3,hb3,h⟩:=zAc h;refine ⟨_,_,⟨_,_,hb3,rfl,rfl,rfl,rfl⟩,?_⟩
 show Tri _ _ _ _;refine zAa ?_;refine zAb [14] [] rfl ?_;obtain ⟨hq,h⟩:=zAU h;refine And.intro (show (((List.map brow) b3).length + (List.map brow s1).length) * 1 ≤ 140737488355328 ∧ ((List.map brow) b3).length + (List.map brow s1).length ≤ 9223372036854775807 from by simp only [List.length_append,List.length_cons,List.length_nil,List.length_map,rlen (fun _ => rfl)] at hq ⊢; omega) ?_;show Tri _ _ _ _
 refine zAk (Le.rename [(0,0),(3,2)] [(1,.s (.str s1))] [(0,.box 137 (zA7 (.op 0 39) (.orow 2))),(2,.row 5 1 ((List.map brow) (b3 ++ s1)))] 3 ⟨rfl,trivial⟩ ⟨rfl,⟨_,rfl,rfl⟩,rfl,⟨_,rfl,congrArg (Ob.row 5 1) (by simp [List.map_append,List.map_take,List.map_drop,irow,brow,zAT,List.map_cons,List.map_nil,zAK,Nd.encs_eq,Nd.enc,zAq,zAn,zAo,zAw,zAv])⟩,trivial⟩ rfl rfl rfl rfl rfl) ?_;refine zAa ?_;refine zAb [] [] rfl ?_;show Tri _ _ _ _;refine zAh ?_;obtain ⟨hj1,hk1⟩:=Prod.mk.inj (Option.some.inj h)
 subst hj1;obtain ⟨hj2,hk2⟩:=Prod.mk.inj hk1;subst hj2;subst hk2;unfold zCX;exact ⟨_,(Le.rename [(0,0),(2,2)] [(4,.s (.int .i64 (s1.length : Int)))] [(0,.box 137 (zA7 (.op 0 39) (.orow 2))),(2,.row 5 1 ((List.map brow) (b3 ++ s1)))] 3 ⟨rfl,trivial⟩ ⟨rfl,⟨_,rfl,rfl⟩,rfl,⟨_,rfl,rfl⟩,trivial⟩ rfl rfl rfl rfl rfl),rfl,rfl,rfl,rfl,rfl,rfl,trivial⟩
def zFa (xs : List AV) (os : List Ob) (x : AV) (os' : List (Option Ob)) : Prop:=∃ (a0 : UInt8) (a1 : List UInt8) (y0 : Unit) (z1 : List UInt8),zAE a0 a1 = some (y0,z1) ∧ xs = [.op 0 39,.s (.int .u8 (a0.toNat : Int))] ∧ os = [.box 137 (zA7 (.op 0 39) (.orow 1)),.row 5 1 (List.map brow a1)] ∧ x = .junk ∧ os' = [some (.box 137 (zA7 (.op 0 39) (.orow 2))),none,some (.row 5 1 (List.map brow z1))]
def zBs : zAt:=zCd (fun xs os x os' => zFa xs os x os')
theorem zBQ : PSound Tryz.prog 98 zBs:=by
 have gok : ∀ f s,look? f [(119,zBZ)] = some s → PSound Tryz.prog f s:=zAu (by
  simp only [List.forall_mem_cons]
  exact ⟨zC3,by simp⟩)
 refine PSound.withNil (zHl tokW Tryz.call98 Tryz.func98 rfl (fun xs os x os' h => by obtain ⟨_,_,_,_,_,rfl,rfl,_,rfl⟩:=h; exact ⟨by show 2 ≤ 17; decide,by show 2 ≤ 3; decide⟩) 17 rfl ?_) _;rintro xs os x os' w0 G0 B0 ⟨c1,b2,y0,z1,h,rfl,rfl,rfl,rfl⟩ _;rw [zAE] at h;refine zAa ?_;refine zAb [] [] rfl ?_;show Tri _ _ _ _;refine zAa ?_;refine zAb [] [] rfl ?_;obtain ⟨b3,hb3,h⟩:=zAc h;refine ⟨_,_,⟨_,_,hb3,rfl,rfl,rfl,rfl⟩,?_⟩
 show Tri _ _ _ _;refine zAa ?_;refine zAb [14] [13] rfl ?_;intro r4 hr4;obtain rfl : (List.map brow) [c1] = r4:=(hr4.trans (by simp [List.map_append,List.map_take,List.map_drop,irow,brow,zAT,List.map_cons,List.map_nil,zAK,Nd.encs_eq,Nd.enc,zAq,zAn,zAo,zAw,zAv])).symm;obtain ⟨hq,h⟩:=zAU h
 refine And.intro (show (((List.map brow) b3).length + ((List.map brow) [c1]).length) * 1 ≤ 140737488355328 ∧ ((List.map brow) b3).length + ((List.map brow) [c1]).length ≤ 9223372036854775807 from by simp only [List.length_append,List.length_cons,List.length_nil,List.length_map,rlen (fun _ => rfl)] at hq ⊢; omega) ?_;show Tri _ _ _ _
 refine zAk (Le.rename [(0,0),(3,2)] [] [(0,.box 137 (zA7 (.op 0 39) (.orow 2))),(2,.row 5 1 ((List.map brow) (b3 ++ [c1])))] 3 trivial ⟨rfl,⟨_,rfl,rfl⟩,rfl,⟨_,rfl,congrArg (Ob.row 5 1) (by simp [List.map_append,List.map_take,List.map_drop,irow,brow,zAT,List.map_cons,List.map_nil,zAK,Nd.encs_eq,Nd.enc,zAq,zAn,zAo,zAw,zAv])⟩,trivial⟩ rfl rfl rfl rfl rfl) ?_;refine zAa ?_;refine zAb [] [] rfl ?_;show Tri _ _ _ _;refine zAh ?_;obtain ⟨hj1,hk1⟩:=Prod.mk.inj (Option.some.inj h)
 subst hj1;subst hk1;unfold zCX;exact ⟨_,(Le.rename [(0,0),(2,2)] [] [(0,.box 137 (zA7 (.op 0 39) (.orow 2))),(2,.row 5 1 ((List.map brow) (b3 ++ [c1])))] 3 trivial ⟨rfl,⟨_,rfl,rfl⟩,rfl,⟨_,rfl,rfl⟩,trivial⟩ rfl rfl rfl rfl rfl),rfl,rfl,rfl,rfl,rfl,rfl,trivial⟩
def zIE (n : Nat) (xs : List AV) (os : List Ob) (x : AV) (os' : List (Option Ob)) : Prop:=∃ (a0 : Nd) (a1 : List UInt8) (z1 : List UInt8),zBl n a0 a1 = some z1 ∧ xs = [.op 0 0,.s (.pt (Nd.enc a0))] ∧ os = [.box 137 (zA7 (.op 0 39) (.orow 1)),.row 5 1 (List.map brow a1)] ∧ x = .tup [] ∧ os' = [some (.box 137 (zA7 (.op 0 39) (.orow 2))),none,some (.row 5 1 (List.map brow z1))]
def zFC : zAt:=zCd (fun xs os x os' => ∃ n,zIE n xs os x os')
theorem zIp : PSound Tryz.prog 97 zFC:=by
 have gok : ∀ f s,look? f [(117,zBK),(118,zFR),(98,zBs)] = some s → PSound Tryz.prog f s:=zAu (by
  simp only [List.forall_mem_cons]
  exact ⟨zCA,zHj,zBQ,by simp⟩)
 refine PSound.withNil (zHl tokW Tryz.call97 Tryz.func97 rfl (fun xs os x os' h => by obtain ⟨n,_,_,_,_,rfl,rfl,_,rfl⟩:=h; exact ⟨by show 2 ≤ 108; decide,by show 2 ≤ 3; decide⟩) 108 rfl ?_) _;rintro xs os x os' w0 G0 B0 ⟨n,⟨a1_kind,a1_text,a1_cols,a1_kids⟩,b2,z1,h,rfl,rfl,rfl,rfl⟩ _;rw [zBl] at h;refine zAa ?_;refine zAa ?_;obtain ⟨x3,hj,h⟩:=zAc h;refine zAp ⟨ofL [(0,.op 0 0),(1,.s (.pt [.int .i64 a1_kind,.str a1_text,.int .i64 a1_cols,.sl 4 (Nd.encs a1_kids)])),(16,.s (.bool x3))],ofH [(0,.box 137 (zA7 (.op 0 39) (.orow 1))),(1,.row 5 1 ((List.map brow) b2))],2⟩ ?_ (fun σ' hle => ?_)
 ·replace h:=hj;refine zAb [] [10] rfl ?_;intro b hb;cases b with
  | true =>
   replace h:=zAm hb.symm h;cases h;exact (Le.rename [(0,0),(1,1)] _ _ _ ⟨rfl,rfl,rfl,trivial⟩ ⟨rfl,⟨_,rfl,rfl⟩,rfl,⟨_,rfl,rfl⟩,trivial⟩ rfl rfl rfl rfl rfl)
  | false =>
   replace h:=zAl hb.symm h;cases h;exact (Le.rename [(0,0),(1,1)] _ _ _ ⟨rfl,rfl,rfl,trivial⟩ ⟨rfl,⟨_,rfl,rfl⟩,rfl,⟨_,rfl,rfl⟩,trivial⟩ rfl rfl rfl rfl rfl)
 ·show Tri _ _ _ _;refine zAk hle ?_;obtain ⟨l4,hj,h⟩:=zAc h;refine zAp ⟨ofL [(0,.op 0 0),(1,.s (.pt [.int .i64 a1_kind,.str a1_text,.int .i64 a1_cols,.sl 4 (Nd.encs a1_kids)]))],ofH [(0,.box 137 (zA7 (.op 0 39) (.orow 2))),(2,.row 5 1 ((List.map brow) l4))],3⟩ ?_ (fun σ' hle => ?_)
  ·replace h:=hj;refine zAd rfl (fun hb => ?_) (fun hb => ?_)
   ·replace h:=zAm hb h;refine zAF (by exact tokW) (by exact gok) (by exact mixed) [] [24] [12,13] rfl (by decide +kernel) ?_;intro vsp hvsp;cases hc : (a1_kind == 1) with
    | true =>
     replace h:=zAm hc h;obtain rfl : (1 : Int) = vsp:=(hvsp.trans (eq_of_beq hc)).symm;refine And.intro (by decide) ?_;obtain ⟨⟨y5,_,b7⟩,hy5,h⟩:=zAc h;refine ⟨_,_,⟨_,_,_,_,_,hy5,rfl,rfl,rfl,rfl⟩,?_⟩
     cases h;exact (Le.rename [(0,0),(2,2)] _ _ _ ⟨rfl,rfl,trivial⟩ ⟨rfl,⟨_,rfl,rfl⟩,rfl,⟨_,rfl,rfl⟩,trivial⟩ rfl rfl rfl rfl rfl)
    | false =>
     replace h:=zAl hc h;cases hc : (a1_kind == 2) with
     | true =>
      replace h:=zAm hc h;obtain rfl : (2 : Int) = vsp:=(hvsp.trans (eq_of_beq hc)).symm;refine And.intro (by decide) ?_;obtain ⟨⟨y8,_,b10⟩,hy8,h⟩:=zAc h;refine ⟨_,_,⟨_,_,_,_,_,hy8,rfl,rfl,rfl,rfl⟩,?_⟩
      cases h;exact (Le.rename [(0,0),(2,2)] _ _ _ ⟨rfl,rfl,trivial⟩ ⟨rfl,⟨_,rfl,rfl⟩,rfl,⟨_,rfl,rfl⟩,trivial⟩ rfl rfl rfl rfl rfl)
     | false =>
      replace h:=zAl hc h;cases hc : (a1_kind == 3) with
      | true =>
       replace h:=zAm hc h;obtain rfl : (3 : Int) = vsp:=(hvsp.trans (eq_of_beq hc)).symm;refine And.intro (by decide) ?_;obtain ⟨⟨y11,_,b13⟩,hy11,h⟩:=zAc h;refine ⟨_,_,⟨_,_,_,_,_,hy11,rfl,rfl,rfl,rfl⟩,?_⟩
       cases h;exact (Le.rename [(0,0),(2,2)] _ _ _ ⟨rfl,rfl,trivial⟩ ⟨rfl,⟨_,rfl,rfl⟩,rfl,⟨_,rfl,rfl⟩,trivial⟩ rfl rfl rfl rfl rfl)
      | false =>
       replace h:=zAl hc h;cases hc : (a1_kind == 4) with
       | true =>
        replace h:=zAm hc h;obtain rfl : (4 : Int) = vsp:=(hvsp.trans (eq_of_beq hc)).symm;refine And.intro (by decide) ?_;obtain ⟨⟨y14,_,b16⟩,hy14,h⟩:=zAc h;refine ⟨_,_,⟨_,_,_,_,_,hy14,rfl,rfl,rfl,rfl⟩,?_⟩
        cases h;exact (Le.rename [(0,0),(2,2)] _ _ _ ⟨rfl,rfl,trivial⟩ ⟨rfl,⟨_,rfl,rfl⟩,rfl,⟨_,rfl,rfl⟩,trivial⟩ rfl rfl rfl rfl rfl)
       | false =>
        replace h:=zAl hc h;cases hc : (a1_kind == 5) with
        | true =>
         replace h:=zAm hc h;obtain rfl : (5 : Int) = vsp:=(hvsp.trans (eq_of_beq hc)).symm;refine And.intro (by decide) ?_;obtain ⟨⟨y17,_,b19⟩,hy17,h⟩:=zAc h;refine ⟨_,_,⟨_,_,_,_,_,hy17,rfl,rfl,rfl,rfl⟩,?_⟩
         cases h;exact (Le.rename [(0,0),(2,2)] _ _ _ ⟨rfl,rfl,trivial⟩ ⟨rfl,⟨_,rfl,rfl⟩,rfl,⟨_,rfl,rfl⟩,trivial⟩ rfl rfl rfl rfl rfl)
        | false =>
         replace h:=zAl hc h;cases hc : (a1_kind == 6) with
         | true =>
          replace h:=zAm hc h;obtain rfl : (6 : Int) = vsp:=(hvsp.trans (eq_of_beq hc)).symm;refine And.intro (by decide) ?_;obtain ⟨⟨y20,_,b22⟩,hy20,h⟩:=zAc h;refine ⟨_,_,⟨_,_,_,_,_,hy20,rfl,rfl,rfl,rfl⟩,?_⟩
          cases h;exact (Le.rename [(0,0),(2,2)] _ _ _ ⟨rfl,rfl,trivial⟩ ⟨rfl,⟨_,rfl,rfl⟩,rfl,⟨_,rfl,rfl⟩,trivial⟩ rfl rfl rfl rfl rfl)
         | false =>
          replace h:=zAl hc h;cases hc : (a1_kind == 7) with
          | true =>
           replace h:=zAm hc h;obtain rfl : (7 : Int) = vsp:=(hvsp.trans (eq_of_beq hc)).symm;refine And.intro (by decide) ?_;obtain ⟨⟨y23,_,b25⟩,hy23,h⟩:=zAc h;refine ⟨_,_,⟨_,_,_,_,_,hy23,rfl,rfl,rfl,rfl⟩,?_⟩
           cases h;exact (Le.rename [(0,0),(2,2)] _ _ _ ⟨rfl,rfl,trivial⟩ ⟨rfl,⟨_,rfl,rfl⟩,rfl,⟨_,rfl,rfl⟩,trivial⟩ rfl rfl rfl rfl rfl)
          | false =>
           replace h:=zAl hc h;cases hc : (a1_kind == 8) with
           | true =>
            replace h:=zAm hc h;obtain rfl : (8 : Int) = vsp:=(hvsp.trans (eq_of_beq hc)).symm;refine And.intro (by decide) ?_;obtain ⟨⟨y26,_,b28⟩,hy26,h⟩:=zAc h;refine ⟨_,_,⟨_,_,_,_,_,hy26,rfl,rfl,rfl,rfl⟩,?_⟩
            cases h;exact (Le.rename [(0,0),(2,2)] _ _ _ ⟨rfl,rfl,trivial⟩ ⟨rfl,⟨_,rfl,rfl⟩,rfl,⟨_,rfl,rfl⟩,trivial⟩ rfl rfl rfl rfl rfl)
           | false =>
            replace h:=zAl hc h;cases hc : (a1_kind == 9) with
            | true =>
             replace h:=zAm hc h;obtain rfl : (9 : Int) = vsp:=(hvsp.trans (eq_of_beq hc)).symm;refine And.intro (by decide) ?_;obtain ⟨⟨y29,_,b31⟩,hy29,h⟩:=zAc h;refine ⟨_,_,⟨_,_,_,_,_,hy29,rfl,rfl,rfl,rfl⟩,?_⟩
             cases h;exact (Le.rename [(0,0),(2,2)] _ _ _ ⟨rfl,rfl,trivial⟩ ⟨rfl,⟨_,rfl,rfl⟩,rfl,⟨_,rfl,rfl⟩,trivial⟩ rfl rfl rfl rfl rfl)
            | false =>
             replace h:=zAl hc h;cases hc : (a1_kind == 10) with
             | true =>
              replace h:=zAm hc h;obtain rfl : (10 : Int) = vsp:=(hvsp.trans (eq_of_beq hc)).symm;refine And.intro (by decide) ?_;obtain ⟨⟨y32,_,b34⟩,hy32,h⟩:=zAc h;refine ⟨_,_,⟨_,_,_,_,_,hy32,rfl,rfl,rfl,rfl⟩,?_⟩
              cases h;exact (Le.rename [(0,0),(2,2)] _ _ _ ⟨rfl,rfl,trivial⟩ ⟨rfl,⟨_,rfl,rfl⟩,rfl,⟨_,rfl,rfl⟩,trivial⟩ rfl rfl rfl rfl rfl)
             | false =>
              replace h:=zAl hc h;cases hc : (a1_kind == 11) with
              | true =>
               replace h:=zAm hc h;obtain rfl : (11 : Int) = vsp:=(hvsp.trans (eq_of_beq hc)).symm;refine And.intro (by decide) ?_;obtain ⟨⟨y35,_,b37⟩,hy35,h⟩:=zAc h;refine ⟨_,_,⟨_,_,_,_,_,hy35,rfl,rfl,rfl,rfl⟩,?_⟩
               cases h;exact (Le.rename [(0,0),(2,2)] _ _ _ ⟨rfl,rfl,trivial⟩ ⟨rfl,⟨_,rfl,rfl⟩,rfl,⟨_,rfl,rfl⟩,trivial⟩ rfl rfl rfl rfl rfl)
              | false =>
               replace h:=zAl hc h;cases hc : (a1_kind == 12) with
               | true =>
                replace h:=zAm hc h;obtain rfl : (12 : Int) = vsp:=(hvsp.trans (eq_of_beq hc)).symm;refine And.intro (by decide) ?_;obtain ⟨⟨y38,_,b40⟩,hy38,h⟩:=zAc h;refine ⟨_,_,⟨_,_,_,_,_,hy38,rfl,rfl,rfl,rfl⟩,?_⟩
                cases h;exact (Le.rename [(0,0),(2,2)] _ _ _ ⟨rfl,rfl,trivial⟩ ⟨rfl,⟨_,rfl,rfl⟩,rfl,⟨_,rfl,rfl⟩,trivial⟩ rfl rfl rfl rfl rfl)
               | false =>
                replace h:=zAl hc h;cases h
   ·replace h:=zAl hb h;refine zAF (by exact tokW) (by exact gok) (by exact mixed) [] [] [9] rfl (by decide +kernel) ?_;obtain ⟨y41,hy41,h⟩:=zAc h;refine ⟨_,⟨_,_,hy41,rfl,rfl⟩,?_⟩
    obtain ⟨hq,h⟩:=zAU h;refine And.intro (Nat.le_trans hq (by decide)) ?_;obtain ⟨⟨y42,_,b44⟩,hy42,h⟩:=zAc h;refine ⟨_,_,⟨_,_,_,_,_,hy42,rfl,rfl,rfl,rfl⟩,?_⟩
    cases h;exact (Le.rename [(0,0),(2,2)] _ _ _ ⟨rfl,rfl,trivial⟩ ⟨rfl,⟨_,rfl,rfl⟩,rfl,⟨_,rfl,rfl⟩,trivial⟩ rfl rfl rfl rfl rfl)
  ·show Tri _ _ _ _;refine zAk hle ?_;refine zAa ?_;refine zAa ?_;refine zAb [] [] rfl ?_;show Tri _ _ _ _;obtain ⟨l45,hj,h⟩:=zAc h;refine zAp ⟨ofL [(0,.op 0 0),(1,.s (.pt [.int .i64 a1_kind,.str a1_text,.int .i64 a1_cols,.sl 4 (Nd.encs a1_kids)]))],ofH [(0,.box 137 (zA7 (.op 0 39) (.orow 2))),(2,.row 5 1 ((List.map brow) l45))],3⟩ ?_ (fun σ' hle => ?_)
   ·replace h:=hj;refine zAd rfl (fun hb => ?_) (fun hb => ?_)
    ·replace h:=zAm hb h;refine zAa ?_;refine zAb [] [] rfl ?_;obtain ⟨⟨y46,_,b48⟩,hy46,h⟩:=zAc h;refine ⟨_,_,⟨_,_,_,_,_,hy46,rfl,rfl,rfl,rfl⟩,?_⟩
     show Tri _ _ _ _;refine zAa ?_;refine zAa ?_;refine zAb [] [] rfl ?_;show Tri _ _ _ _;obtain ⟨l51,hl,h⟩:=zAc h;refine zAp ⟨ofL [(0,.op 0 0),(1,.s (.pt [.int .i64 a1_kind,.str a1_text,.int .i64 a1_cols,.sl 4 (Nd.encs a1_kids)]))],ofH [(0,.box 137 (zA7 (.op 0 39) (.orow 2))),(2,.row 5 1 ((List.map brow) l51))],3⟩ ?_ (fun σ' hle => ?_)
     ·refine zAi (zAG (X:=Nat × Int × (List UInt8)) (fun y => match y with | (k,x49,l50) => ⟨ofL [(0,.op 0 0),(1,.s (.pt [.int .i64 a1_kind,.str a1_text,.int .i64 a1_cols,.sl 4 (Nd.encs a1_kids)])),(4,.s (.int .i64 x49))],ofH [(0,.box 137 (zA7 (.op 0 39) (.orow 2))),(2,.row 5 1 ((List.map brow) l50))],3⟩) (fun y => zAQ a1_text y.1 y.2.1 y.2.2 = some l51) (fun y => y.1) (n,0,b48) hl ?_ ?_)
      ·exact (Le.rename [(0,0),(3,2)] _ _ _ ⟨rfl,rfl,rfl,trivial⟩ ⟨rfl,⟨_,rfl,rfl⟩,rfl,⟨_,rfl,rfl⟩,trivial⟩ rfl rfl rfl rfl rfl)
      ·rintro ⟨k,x49,l50⟩ h;cases k with
       | zero => cases h
       | succ k =>
        replace h : zAQ a1_text (k+1) x49 l50 = some l51:=h;rw [zAQ] at h;refine zAa ?_;refine zAa ?_;refine zAb [] [] rfl ?_;show Tri _ _ _ _;refine zAd rfl (fun hb => ?_) (fun hb => ?_)
        ·replace h:=zAm hb h;refine zAg ?_;show Tri _ _ _ _;refine zAa ?_;obtain ⟨l52,hj,h⟩:=zAc h;refine zAp ⟨ofL [(0,.op 0 0),(1,.s (.pt [.int .i64 a1_kind,.str a1_text,.int .i64 a1_cols,.sl 4 (Nd.encs a1_kids)])),(4,.s (.int .i64 x49))],ofH [(0,.box 137 (zA7 (.op 0 39) (.orow 2))),(2,.row 5 1 ((List.map brow) l52))],3⟩ ?_ (fun σ' hle => ?_)
         ·replace h:=hj;refine zAi ?_;refine zAa ?_;refine zAa ?_;obtain ⟨x53,hj,h⟩:=zAc h;refine zAp ⟨ofL [(0,.op 0 0),(1,.s (.pt [.int .i64 a1_kind,.str a1_text,.int .i64 a1_cols,.sl 4 (Nd.encs a1_kids)])),(4,.s (.int .i64 x49)),(74,.s (.bool x53))],ofH [(0,.box 137 (zA7 (.op 0 39) (.orow 2))),(2,.row 5 1 ((List.map brow) l50))],3⟩ ?_ (fun σ' hle => ?_)
          ·replace h:=hj;refine zAb [] [64,66,72] rfl ?_;obtain ⟨c54,hc54,h⟩:=zAc h;refine And.intro (zBe hc54).1 ?_;intro v55 hv55;obtain rfl : (c54.toNat : Int) = v55:=(hv55.trans (zBe hc54).2).symm;intro b hb;cases b with
           | true =>
            replace h:=zAm hb.symm h;cases h;exact (Le.rename [(0,0),(2,2)] _ _ _ ⟨rfl,rfl,rfl,rfl,trivial⟩ ⟨rfl,⟨_,rfl,rfl⟩,rfl,⟨_,rfl,rfl⟩,trivial⟩ rfl rfl rfl rfl rfl)
           | false =>
            replace h:=zAl hb.symm h;obtain ⟨c56,hc56,h⟩:=zAc h;refine And.intro (zBe hc56).1 ?_;intro v57 hv57;obtain rfl : (c56.toNat : Int) = v57:=(hv57.trans (zBe hc56).2).symm;cases h;exact (Le.rename [(0,0),(2,2)] _ _ _ ⟨rfl,rfl,rfl,rfl,trivial⟩ ⟨rfl,⟨_,rfl,rfl⟩,rfl,⟨_,rfl,rfl⟩,trivial⟩ rfl rfl rfl rfl rfl)
          ·show Tri _ _ _ _;refine zAk hle ?_;obtain ⟨l58,hj,h⟩:=zAc h;refine zAp ⟨ofL [(0,.op 0 0),(1,.s (.pt [.int .i64 a1_kind,.str a1_text,.int .i64 a1_cols,.sl 4 (Nd.encs a1_kids)])),(4,.s (.int .i64 x49))],ofH [(0,.box 137 (zA7 (.op 0 39) (.orow 2))),(2,.row 5 1 ((List.map brow) l58))],3⟩ ?_ (fun σ' hle => ?_)
           ·replace h:=hj;refine zAd rfl (fun hb => ?_) (fun hb => ?_)
            ·replace h:=zAm hb h;refine zAb [] [] rfl ?_;obtain ⟨⟨_,b60⟩,hy59,h⟩:=zAc h;refine ⟨_,_,⟨_,_,_,_,hy59,rfl,rfl,rfl,rfl⟩,?_⟩
             cases h;exact (Le.rename [(0,0),(3,2)] _ _ _ ⟨rfl,rfl,rfl,trivial⟩ ⟨rfl,⟨_,rfl,rfl⟩,rfl,⟨_,rfl,rfl⟩,trivial⟩ rfl rfl rfl rfl rfl)
            ·replace h:=zAl hb h;refine zAg ?_;cases h;exact (Le.rename [(0,0),(2,2)] _ _ _ ⟨rfl,rfl,rfl,trivial⟩ ⟨rfl,⟨_,rfl,rfl⟩,rfl,⟨_,rfl,rfl⟩,trivial⟩ rfl rfl rfl rfl rfl)
           ·show Tri _ _ _ _;refine zAk hle ?_;refine zAF (by exact tokW) (by exact gok) (by exact mixed) [] [87] [9] rfl (by decide +kernel) ?_;obtain ⟨c61,hc61,h⟩:=zAc h;refine And.intro (zBe hc61).1 ?_;intro v62 hv62;obtain rfl : (c61.toNat : Int) = v62:=(hv62.trans (zBe hc61).2).symm;obtain ⟨⟨_,b64⟩,hy63,h⟩:=zAc h;refine ⟨_,_,⟨_,_,_,_,hy63,rfl,rfl,rfl,rfl⟩,?_⟩
            cases h;exact (Le.rename [(0,0),(3,2)] _ _ _ ⟨rfl,rfl,rfl,trivial⟩ ⟨rfl,⟨_,rfl,rfl⟩,rfl,⟨_,rfl,rfl⟩,trivial⟩ rfl rfl rfl rfl rfl)
         ·show Tri _ _ _ _;refine zAk hle ?_;refine zAb [] [] rfl ?_;refine ⟨(k,IntKind.i64.wrap (x49 + 1),l52),h,(Le.rename [(0,0),(2,2)] _ _ _ ⟨rfl,rfl,rfl,trivial⟩ ⟨rfl,⟨_,rfl,rfl⟩,rfl,⟨_,rfl,rfl⟩,trivial⟩ rfl rfl rfl rfl rfl),Nat.lt_succ_self k⟩
        ·replace h:=zAl hb h;refine zAI ?_;cases h;exact (Le.rename [(0,0),(2,2)] _ _ _ ⟨rfl,rfl,trivial⟩ ⟨rfl,⟨_,rfl,rfl⟩,rfl,⟨_,rfl,rfl⟩,trivial⟩ rfl rfl rfl rfl rfl)
     ·show Tri _ _ _ _;refine zAk hle ?_;refine zAb [] [] rfl ?_;obtain ⟨⟨_,b66⟩,hy65,h⟩:=zAc h;refine ⟨_,_,⟨_,_,_,_,hy65,rfl,rfl,rfl,rfl⟩,?_⟩
      cases h;exact (Le.rename [(0,0),(3,2)] _ _ _ ⟨rfl,rfl,trivial⟩ ⟨rfl,⟨_,rfl,rfl⟩,rfl,⟨_,rfl,rfl⟩,trivial⟩ rfl rfl rfl rfl rfl)
    ·replace h:=zAl hb h;refine zAg ?_;cases h;exact (Le.rename [(0,0),(2,2)] _ _ _ ⟨rfl,rfl,trivial⟩ ⟨rfl,⟨_,rfl,rfl⟩,rfl,⟨_,rfl,rfl⟩,trivial⟩ rfl rfl rfl rfl rfl)
   ·show Tri _ _ _ _;refine zAk hle ?_;refine zAa ?_;refine zAb [] [] rfl ?_;show Tri _ _ _ _;refine zAd rfl (fun hb => ?_) (fun hb => ?_)
    ·replace h:=zAm hb h;refine zAF (by exact tokW) (by exact gok) (by exact mixed) [] [] [9] rfl (by decide +kernel) ?_;obtain ⟨y67,hy67,h⟩:=zAc h;refine ⟨_,⟨_,_,hy67,rfl,rfl⟩,?_⟩
     obtain ⟨hq,h⟩:=zAU h;refine And.intro (Nat.le_trans hq (by decide)) ?_;obtain ⟨⟨y68,_,b70⟩,hy68,h⟩:=zAc h;refine ⟨_,_,⟨_,_,_,_,_,hy68,rfl,rfl,rfl,rfl⟩,?_⟩
     have hy:=Option.some.inj h;subst hy;unfold zCX;exact ⟨_,(Le.rename [(0,0),(3,2)] [] [(0,.box 137 (zA7 (.op 0 39) (.orow 2))),(2,.row 5 1 ((List.map brow) b70))] 3 trivial ⟨rfl,⟨_,rfl,rfl⟩,rfl,⟨_,rfl,rfl⟩,trivial⟩ rfl rfl rfl rfl rfl),rfl,rfl,rfl,rfl,rfl,rfl,trivial⟩
    ·replace h:=zAl hb h;refine zAg ?_;have hy:=Option.some.inj h;subst hy;unfold zCX;exact ⟨_,(Le.rename [(0,0),(2,2)] [] [(0,.box 137 (zA7 (.op 0 39) (.orow 2))),(2,.row 5 1 ((List.map brow) l45))] 3 trivial ⟨rfl,⟨_,rfl,rfl⟩,rfl,⟨_,rfl,rfl⟩,trivial⟩ rfl rfl rfl rfl rfl),rfl,rfl,rfl,rfl,rfl,rfl,trivial⟩
def zEe (xs : List AV) (os : List Ob) (x : AV) (os' : List (Option Ob)) : Prop:=∃ (a0 : List UInt8) (a1 : List UInt8) (y0 : Int) (y1 : Unit) (z1 : List UInt8),zAj a0 a1 = some (y0,y1,z1) ∧ xs = [.op 0 39,.s (.str a0)] ∧ os = [.box 137 (zA7 (.s (.np)) (.orow 1)),.row 5 1 (List.map brow a1)] ∧ x = .tup [.s (.int .i64 y0),.junk] ∧ os' = [some (.box 137 (zA7 (.op 0 39) (.orow 2))),none,some (.row 5 1 (List.map brow z1))]
def zCl : zAt:=zCd (fun xs os x os' => zEe xs os x os')
theorem zEd : PSound Tryz.prog 117 zCl:=by
 have gok : ∀ f s,look? f [(119,zCx)] = some s → PSound Tryz.prog f s:=zAu (by
  simp only [List.forall_mem_cons]
  exact ⟨zEq,by simp⟩)
 refine PSound.withNil (zHl tokW Tryz.call117 Tryz.func117 rfl (fun xs os x os' h => by obtain ⟨_,_,_,_,_,_,rfl,rfl,_,rfl⟩:=h; exact ⟨by show 2 ≤ 19; decide,by show 2 ≤ 3; decide⟩) 19 rfl ?_) _;rintro xs os x os' w0 G0 B0 ⟨s1,b2,y0,y1,z1,h,rfl,rfl,rfl,rfl⟩ _;rw [zAj] at h;refine zAa ?_;refine zAb [] [] rfl ?_;show Tri _ _ _ _;refine zAa ?_;refine zAb [] [] rfl ?_;obtain ⟨b3,hb3,h⟩:=zAc h;refine ⟨_,_,⟨_,_,hb3,rfl,rfl,rfl,rfl⟩,?_⟩
 show Tri _ _ _ _;refine zAa ?_;refine zAb [14] [] rfl ?_;obtain ⟨hq,h⟩:=zAU h;refine And.intro (show (((List.map brow) b3).length + (List.map brow s1).length) * 1 ≤ 140737488355328 ∧ ((List.map brow) b3).length + (List.map brow s1).length ≤ 9223372036854775807 from by simp only [List.length_append,List.length_cons,List.length_nil,List.length_map,rlen (fun _ => rfl)] at hq ⊢; omega) ?_;show Tri _ _ _ _
 refine zAk (Le.rename [(0,0),(3,2)] [(1,.s (.str s1))] [(0,.box 137 (zA7 (.op 0 39) (.orow 2))),(2,.row 5 1 ((List.map brow) (b3 ++ s1)))] 3 ⟨rfl,trivial⟩ ⟨rfl,⟨_,rfl,rfl⟩,rfl,⟨_,rfl,congrArg (Ob.row 5 1) (by simp [List.map_append,List.map_take,List.map_drop,irow,brow,zAT,List.map_cons,List.map_nil,zAK,Nd.encs_eq,Nd.enc,zAq,zAn,zAo,zAw,zAv])⟩,trivial⟩ rfl rfl rfl rfl rfl) ?_;refine zAa ?_;refine zAb [] [] rfl ?_;show Tri _ _ _ _;refine zAh ?_;obtain ⟨hj1,hk1⟩:=Prod.mk.inj (Option.some.inj h)
 subst hj1;obtain ⟨hj2,hk2⟩:=Prod.mk.inj hk1;subst hj2;subst hk2;unfold zCX;exact ⟨_,(Le.rename [(0,0),(2,2)] [(4,.s (.int .i64 (s1.length : Int)))] [(0,.box 137 (zA7 (.op 0 39) (.orow 2))),(2,.row 5 1 ((List.map brow) (b3 ++ s1)))] 3 ⟨rfl,trivial⟩ ⟨rfl,⟨_,rfl,rfl⟩,rfl,⟨_,rfl,rfl⟩,trivial⟩ rfl rfl rfl rfl rfl),rfl,rfl,rfl,rfl,rfl,rfl,trivial⟩
def zGS (n : Nat) (xs : List AV) (os : List Ob) (x : AV) (os' : List (Option Ob)) : Prop:=∃ (a0 : Nd) (a1 : List UInt8) (z1 : List UInt8),zBl n a0 a1 = some z1 ∧ xs = [.op 0 0,.s (.pt (Nd.enc a0))] ∧ os = [.box 137 (zA7 (.s (.np)) (.orow 1)),.row 5 1 (List.map brow a1)] ∧ x = .tup [] ∧ os' = [some (.box 137 (zA7 (.op 0 39) (.orow 2))),none,some (.row 5 1 (List.map brow z1))]
def zEA : zAt:=zCd (fun xs os x os' => ∃ n,zGS n xs os x os')
theorem zGP : PSound Tryz.prog 97 zEA:=by
 have gok : ∀ f s,look? f [(117,orS zBK zCl),(118,zFR),(98,zBs)] = some s → PSound Tryz.prog f s:=zAu (by
  simp only [List.forall_mem_cons]
  exact ⟨(zPI zCA zEd),zHj,zBQ,by simp⟩)
 refine PSound.withNil (zHl tokW Tryz.call97 Tryz.func97 rfl (fun xs os x os' h => by obtain ⟨n,_,_,_,_,rfl,rfl,_,rfl⟩:=h; exact ⟨by show 2 ≤ 108; decide,by show 2 ≤ 3; decide⟩) 108 rfl ?_) _;rintro xs os x os' w0 G0 B0 ⟨n,⟨a1_kind,a1_text,a1_cols,a1_kids⟩,b2,z1,h,rfl,rfl,rfl,rfl⟩ _;rw [zBl] at h;refine zAa ?_;refine zAa ?_;obtain ⟨x3,hj,h⟩:=zAc h;refine zAp ⟨ofL [(0,.op 0 0),(1,.s (.pt [.int .i64 a1_kind,.str a1_text,.int .i64 a1_cols,.sl 4 (Nd.encs a1_kids)])),(16,.s (.bool x3))],ofH [(0,.box 137 (zA7 (.s (.np)) (.orow 1))),(1,.row 5 1 ((List.map brow) b2))],2⟩ ?_ (fun σ' hle => ?_)
 ·replace h:=hj;refine zAb [] [10] rfl ?_;intro b hb;cases b with
  | true =>
   replace h:=zAm hb.symm h;cases h;exact (Le.rename [(0,0),(1,1)] _ _ _ ⟨rfl,rfl,rfl,trivial⟩ ⟨rfl,⟨_,rfl,rfl⟩,rfl,⟨_,rfl,rfl⟩,trivial⟩ rfl rfl rfl rfl rfl)
  | false =>
   replace h:=zAl hb.symm h;cases h;exact (Le.rename [(0,0),(1,1)] _ _ _ ⟨rfl,rfl,rfl,trivial⟩ ⟨rfl,⟨_,rfl,rfl⟩,rfl,⟨_,rfl,rfl⟩,trivial⟩ rfl rfl rfl rfl rfl)
 ·show Tri _ _ _ _;refine zAk hle ?_;obtain ⟨l4,hj,h⟩:=zAc h;refine zAp ⟨ofL [(0,.op 0 0),(1,.s (.pt [.int .i64 a1_kind,.str a1_text,.int .i64 a1_cols,.sl 4 (Nd.encs a1_kids)]))],ofH [(0,.box 137 (zA7 (.op 0 39) (.orow 2))),(2,.row 5 1 ((List.map brow) l4))],3⟩ ?_ (fun σ' hle => ?_)
  ·replace h:=hj;refine zAd rfl (fun hb => ?_) (fun hb => ?_)
   ·replace h:=zAm hb h;refine zAF (by exact tokW) (by exact gok) (by exact mixed) [] [24] [12,13] rfl (by decide +kernel) ?_;intro vsp hvsp;cases hc : (a1_kind == 1) with
    | true =>
     replace h:=zAm hc h;obtain rfl : (1 : Int) = vsp:=(hvsp.trans (eq_of_beq hc)).symm;refine And.intro (by decide) ?_;obtain ⟨⟨y5,_,b7⟩,hy5,h⟩:=zAc h;refine ⟨_,_,(Or.inr ⟨_,_,_,_,_,hy5,rfl,rfl,rfl,rfl⟩),?_⟩
     cases h;exact (Le.rename [(0,0),(2,2)] _ _ _ ⟨rfl,rfl,trivial⟩ ⟨rfl,⟨_,rfl,rfl⟩,rfl,⟨_,rfl,rfl⟩,trivial⟩ rfl rfl rfl rfl rfl)
    | false =>
     replace h:=zAl hc h;cases hc : (a1_kind == 2) with
     | true =>
      replace h:=zAm hc h;obtain rfl : (2 : Int) = vsp:=(hvsp.trans (eq_of_beq hc)).symm;refine And.intro (by decide) ?_;obtain ⟨⟨y8,_,b10⟩,hy8,h⟩:=zAc h;refine ⟨_,_,(Or.inr ⟨_,_,_,_,_,hy8,rfl,rfl,rfl,rfl⟩),?_⟩
      cases h;exact (Le.rename [(0,0),(2,2)] _ _ _ ⟨rfl,rfl,trivial⟩ ⟨rfl,⟨_,rfl,rfl⟩,rfl,⟨_,rfl,rfl⟩,trivial⟩ rfl rfl rfl rfl rfl)
     | false =>
      replace h:=zAl hc h;cases hc : (a1_kind == 3) with
      | true =>
       replace h:=zAm hc h;obtain rfl : (3 : Int) = vsp:=(hvsp.trans (eq_of_beq hc)).symm;refine And.intro (by decide) ?_;obtain ⟨⟨y11,_,b13⟩,hy11,h⟩:=zAc h;refine ⟨_,_,(Or.inr ⟨_,_,_,_,_,hy11,rfl,rfl,rfl,rfl⟩),?_⟩
       cases h;exact (Le.rename [(0,0),(2,2)] _ _ _ ⟨rfl,rfl,trivial⟩ ⟨rfl,⟨_,rfl,rfl⟩,rfl,⟨_,rfl,rfl⟩,trivial⟩ rfl rfl rfl rfl rfl)
      | false =>
       replace h:=zAl hc h;cases hc : (a1_kind == 4) with
       | true =>
        replace h:=zAm hc h;obtain rfl : (4 : Int) = vsp:=(hvsp.trans (eq_of_beq hc)).symm;refine And.intro (by decide) ?_;obtain ⟨⟨y14,_,b16⟩,hy14,h⟩:=zAc h;refine ⟨_,_,(Or.inr ⟨_,_,_,_,_,hy14,rfl,rfl,rfl,rfl⟩),?_⟩
        cases h;exact (Le.rename [(0,0),(2,2)] _ _ _ ⟨rfl,rfl,trivial⟩ ⟨rfl,⟨_,rfl,rfl⟩,rfl,⟨_,rfl,rfl⟩,trivial⟩ rfl rfl rfl rfl rfl)
       | false =>
        replace h:=zAl hc h;cases hc : (a1_kind == 5) with
        | true =>
         replace h:=zAm hc h;obtain rfl : (5 : Int) = vsp:=(hvsp.trans (eq_of_beq hc)).symm;refine And.intro (by decide) ?_;obtain ⟨⟨y17,_,b19⟩,hy17,h⟩:=zAc h;refine ⟨_,_,(Or.inr ⟨_,_,_,_,_,hy17,rfl,rfl,rfl,rfl⟩),?_⟩
         cases h;exact (Le.rename [(0,0),(2,2)] _ _ _ ⟨rfl,rfl,trivial⟩ ⟨rfl,⟨_,rfl,rfl⟩,rfl,⟨_,rfl,rfl⟩,trivial⟩ rfl rfl rfl rfl rfl)
        | false =>
         replace h:=zAl hc h;cases hc : (a1_kind == 6) with
         | true =>
          replace h:=zAm hc h;obtain rfl : (6 : Int) = vsp:=(hvsp.trans (eq_of_beq hc)).symm;refine And.intro (by decide) ?_;obtain ⟨⟨y20,_,b22⟩,hy20,h⟩:=zAc h;refine ⟨_,_,(Or.inr ⟨_,_,_,_,_,hy20,rfl,rfl,rfl,rfl⟩),?_⟩
          cases h;exact (Le.rename [(0,0),(2,2)] _ _ _ ⟨rfl,rfl,trivial⟩ ⟨rfl,⟨_,rfl,rfl⟩,rfl,⟨_,rfl,rfl⟩,trivial⟩ rfl rfl rfl rfl rfl)
         | false =>
          replace h:=zAl hc h;cases hc : (a1_kind == 7) with
          | true =>
           replace h:=zAm hc h;obtain rfl : (7 : Int) = vsp:=(hvsp.trans (eq_of_beq hc)).symm;refine And.intro (by decide) ?_;obtain ⟨⟨y23,_,b25⟩,hy23,h⟩:=zAc h;refine ⟨_,_,(Or.inr ⟨_,_,_,_,_,hy23,rfl,rfl,rfl,rfl⟩),?_⟩
           cases h;exact (Le.rename [(0,0),(2,2)] _ _ _ ⟨rfl,rfl,trivial⟩ ⟨rfl,⟨_,rfl,rfl⟩,rfl,⟨_,rfl,rfl⟩,trivial⟩ rfl rfl rfl rfl rfl)
          | false =>
           replace h:=zAl hc h;cases hc : (a1_kind == 8) with
           | true =>
            replace h:=zAm hc h;obtain rfl : (8 : Int) = vsp:=(hvsp.trans (eq_of_beq hc)).symm;refine And.intro (by decide) ?_;obtain ⟨⟨y26,_,b28⟩,hy26,h⟩:=zAc h;refine ⟨_,_,(Or.inr ⟨_,_,_,_,_,hy26,rfl,rfl,rfl,rfl⟩),?_⟩
            cases h;exact (Le.rename [(0,0),(2,2)] _ _ _ ⟨rfl,rfl,trivial⟩ ⟨rfl,⟨_,rfl,rfl⟩,rfl,⟨_,rfl,rfl⟩,trivial⟩ rfl rfl rfl rfl rfl)
           | false =>
            replace h:=zAl hc h;cases hc : (a1_kind == 9) with
            | true =>
             replace h:=zAm hc h;obtain rfl : (9 : Int) = vsp:=(hvsp.trans (eq_of_beq hc)).symm;refine And.intro (by decide) ?_;obtain ⟨⟨y29,_,b31⟩,hy29,h⟩:=zAc h;refine ⟨_,_,(Or.inr ⟨_,_,_,_,_,hy29,rfl,rfl,rfl,rfl⟩),?_⟩
             cases h;exact (Le.rename [(0,0),(2,2)] _ _ _ ⟨rfl,rfl,trivial⟩ ⟨rfl,⟨_,rfl,rfl⟩,rfl,⟨_,rfl,rfl⟩,trivial⟩ rfl rfl rfl rfl rfl)
            | false =>
             replace h:=zAl hc h;cases hc : (a1_kind == 10) with
             | true =>
              replace h:=zAm hc h;obtain rfl : (10 : Int) = vsp:=(hvsp.trans (eq_of_beq hc)).symm;refine And.intro (by decide) ?_;obtain ⟨⟨y32,_,b34⟩,hy32,h⟩:=zAc h;refine ⟨_,_,(Or.inr ⟨_,_,_,_,_,hy32,rfl,rfl,rfl,rfl⟩),?_⟩
              cases h;exact (Le.rename [(0,0),(2,2)] _ _ _ ⟨rfl,rfl,trivial⟩ ⟨rfl,⟨_,rfl,rfl⟩,rfl,⟨_,rfl,rfl⟩,trivial⟩ rfl rfl rfl rfl rfl)
             | false =>
              replace h:=zAl hc h;cases hc : (a1_kind == 11) with
              | true =>
               replace h:=zAm hc h;obtain rfl : (11 : Int) = vsp:=(hvsp.trans (eq_of_beq hc)).symm;refine And.intro (by decide) ?_;obtain ⟨⟨y35,_,b37⟩,hy35,h⟩:=zAc h;refine ⟨_,_,(Or.inr ⟨_,_,_,_,_,hy35,rfl,rfl,rfl,rfl⟩),?_⟩
               cases h;exact (Le.rename [(0,0),(2,2)] _ _ _ ⟨rfl,rfl,trivial⟩ ⟨rfl,⟨_,rfl,rfl⟩,rfl,⟨_,rfl,rfl⟩,trivial⟩ rfl rfl rfl rfl rfl)
              | false =>
               replace h:=zAl hc h;cases hc : (a1_kind == 12) with
               | true =>
                replace h:=zAm hc h;obtain rfl : (12 : Int) = vsp:=(hvsp.trans (eq_of_beq hc)).symm;refine And.intro (by decide) ?_;obtain ⟨⟨y38,_,b40⟩,hy38,h⟩:=zAc h;refine ⟨_,_,(Or.inr ⟨_,_,_,_,_,hy38,rfl,rfl,rfl,rfl⟩),?_⟩
                cases h;exact (Le.rename [(0,0),(2,2)] _ _ _ ⟨rfl,rfl,trivial⟩ ⟨rfl,⟨_,rfl,rfl⟩,rfl,⟨_,rfl,rfl⟩,trivial⟩ rfl rfl rfl rfl rfl)
               | false =>
                replace h:=zAl hc h;cases h
   ·replace h:=zAl hb h;refine zAF (by exact tokW) (by exact gok) (by exact mixed) [] [] [9] rfl (by decide +kernel) ?_;obtain ⟨y41,hy41,h⟩:=zAc h;refine ⟨_,⟨_,_,hy41,rfl,rfl⟩,?_⟩
    obtain ⟨hq,h⟩:=zAU h;refine And.intro (Nat.le_trans hq (by decide)) ?_;obtain ⟨⟨y42,_,b44⟩,hy42,h⟩:=zAc h;refine ⟨_,_,(Or.inr ⟨_,_,_,_,_,hy42,rfl,rfl,rfl,rfl⟩),?_⟩
    cases h;exact (Le.rename [(0,0),(2,2)] _ _ _ ⟨rfl,rfl,trivial⟩ ⟨rfl,⟨_,rfl,rfl⟩,rfl,⟨_,rfl,rfl⟩,trivial⟩ rfl rfl rfl rfl rfl)
  ·show Tri _ _ _ _;refine zAk hle ?_;refine zAa ?_;refine zAa ?_;refine zAb [] [] rfl ?_;show Tri _ _ _ _;obtain ⟨l45,hj,h⟩:=zAc h;refine zAp ⟨ofL [(0,.op 0 0),(1,.s (.pt [.int .i64 a1_kind,.str a1_text,.int .i64 a1_cols,.sl 4 (Nd.encs a1_kids)]))],ofH [(0,.box 137 (zA7 (.op 0 39) (.orow 2))),(2,.row 5 1 ((List.map brow) l45))],3⟩ ?_ (fun σ' hle => ?_)
   ·replace h:=hj;refine zAd rfl (fun hb => ?_) (fun hb => ?_)
    ·replace h:=zAm hb h;refine zAa ?_;refine zAb [] [] rfl ?_;obtain ⟨⟨y46,_,b48⟩,hy46,h⟩:=zAc h;refine ⟨_,_,(Or.inl ⟨_,_,_,_,_,hy46,rfl,rfl,rfl,rfl⟩),?_⟩
     show Tri _ _ _ _;refine zAa ?_;refine zAa ?_;refine zAb [] [] rfl ?_;show Tri _ _ _ _;obtain ⟨l51,hl,h⟩:=zAc h;refine zAp ⟨ofL [(0,.op 0 0),(1,.s (.pt [.int .i64 a1_kind,.str a1_text,.int .i64 a1_cols,.sl 4 (Nd.encs a1_kids)]))],ofH [(0,.box 137 (zA7 (.op 0 39) (.orow 2))),(2,.row 5 1 ((List.map brow) l51))],3⟩ ?_ (fun σ' hle => ?_)
     ·refine zAi (zAG (X:=Nat × Int × (List UInt8)) (fun y => match y with | (k,x49,l50) => ⟨ofL [(0,.op 0 0),(1,.s (.pt [.int .i64 a1_kind,.str a1_text,.int .i64 a1_cols,.sl 4 (Nd.encs a1_kids)])),(4,.s (.int .i64 x49))],ofH [(0,.box 137 (zA7 (.op 0 39) (.orow 2))),(2,.row 5 1 ((List.map brow) l50))],3⟩) (fun y => zAQ a1_text y.1 y.2.1 y.2.2 = some l51) (fun y => y.1) (n,0,b48) hl ?_ ?_)
      ·exact (Le.rename [(0,0),(3,2)] _ _ _ ⟨rfl,rfl,rfl,trivial⟩ ⟨rfl,⟨_,rfl,rfl⟩,rfl,⟨_,rfl,rfl⟩,trivial⟩ rfl rfl rfl rfl rfl)
      ·rintro ⟨k,x49,l50⟩ h;cases k with
       | zero => cases h
       | succ k =>
        replace h : zAQ a1_text (k+1) x49 l50 = some l51:=h;rw [zAQ] at h;refine zAa ?_;refine zAa ?_;refine zAb [] [] rfl ?_;show Tri _ _ _ _;refine zAd rfl (fun hb => ?_) (fun hb => ?_)
        ·replace h:=zAm hb h;refine zAg ?_;show Tri _ _ _ _;refine zAa ?_;obtain ⟨l52,hj,h⟩:=zAc h;refine zAp ⟨ofL [(0,.op 0 0),(1,.s (.pt [.int .i64 a1_kind,.str a1_text,.int .i64 a1_cols,.sl 4 (Nd.encs a1_kids)])),(4,.s (.int .i64 x49))],ofH [(0,.box 137 (zA7 (.op 0 39) (.orow 2))),(2,.row 5 1 ((List.map brow) l52))],3⟩ ?_ (fun σ' hle => ?_)
         ·replace h:=hj;refine zAi ?_;refine zAa ?_;refine zAa ?_;obtain ⟨x53,hj,h⟩:=zAc h;refine zAp ⟨ofL [(0,.op 0 0),(1,.s (.pt [.int .i64 a1_kind,.str a1_text,.int .i64 a1_cols,.sl 4 (Nd.encs a1_kids)])),(4,.s (.int .i64 x49)),(74,.s (.bool x53))],ofH [(0,.box 137 (zA7 (.op 0 39) (.orow 2))),(2,.row 5 1 ((List.map brow) l50))],3⟩ ?_ (fun σ' hle => ?_)
          ·replace h:=hj;refine zAb [] [64,66,72] rfl ?_;obtain ⟨c54,hc54,h⟩:=zAc h;refine And.intro (zBe hc54).1 ?_;intro v55 hv55;obtain rfl : (c54.toNat : Int) = v55:=(hv55.trans (zBe hc54).2).symm;intro b hb;cases b with
           | true =>
            replace h:=zAm hb.symm h;cases h;exact (Le.rename [(0,0),(2,2)] _ _ _ ⟨rfl,rfl,rfl,rfl,trivial⟩ ⟨rfl,⟨_,rfl,rfl⟩,rfl,⟨_,rfl,rfl⟩,trivial⟩ rfl rfl rfl rfl rfl)
           | false =>
            replace h:=zAl hb.symm h;obtain ⟨c56,hc56,h⟩:=zAc h;refine And.intro (zBe hc56).1 ?_;intro v57 hv57;obtain rfl : (c56.toNat : Int) = v57:=(hv57.trans (zBe hc56).2).symm;cases h;exact (Le.rename [(0,0),(2,2)] _ _ _ ⟨rfl,rfl,rfl,rfl,trivial⟩ ⟨rfl,⟨_,rfl,rfl⟩,rfl,⟨_,rfl,rfl⟩,trivial⟩ rfl rfl rfl rfl rfl)
          ·show Tri _ _ _ _;refine zAk hle ?_;obtain ⟨l58,hj,h⟩:=zAc h;refine zAp ⟨ofL [(0,.op 0 0),(1,.s (.pt [.int .i64 a1_kind,.str a1_text,.int .i64 a1_cols,.sl 4 (Nd.encs a1_kids)])),(4,.s (.int .i64 x49))],ofH [(0,.box 137 (zA7 (.op 0 39) (.orow 2))),(2,.row 5 1 ((List.map brow) l58))],3⟩ ?_ (fun σ' hle => ?_)
           ·replace h:=hj;refine zAd rfl (fun hb => ?_) (fun hb => ?_)
            ·replace h:=zAm hb h;refine zAb [] [] rfl ?_;obtain ⟨⟨_,b60⟩,hy59,h⟩:=zAc h;refine ⟨_,_,⟨_,_,_,_,hy59,rfl,rfl,rfl,rfl⟩,?_⟩
             cases h;exact (Le.rename [(0,0),(3,2)] _ _ _ ⟨rfl,rfl,rfl,trivial⟩ ⟨rfl,⟨_,rfl,rfl⟩,rfl,⟨_,rfl,rfl⟩,trivial⟩ rfl rfl rfl rfl rfl)
            ·replace h:=zAl hb h;refine zAg ?_;cases h;exact (Le.rename [(0,0),(2,2)] _ _ _ ⟨rfl,rfl,rfl,trivial⟩ ⟨rfl,⟨_,rfl,rfl⟩,rfl,⟨_,rfl,rfl⟩,trivial⟩ rfl rfl rfl rfl rfl)
           ·show Tri _ _ _ _;refine zAk hle ?_;refine zAF (by exact tokW) (by exact gok) (by exact mixed) [] [87] [9] rfl (by decide +kernel) ?_;obtain ⟨c61,hc61,h⟩:=zAc h;refine And.intro (zBe hc61).1 ?_;intro v62 hv62;obtain rfl : (c61.toNat : Int) = v62:=(hv62.trans (zBe hc61).2).symm;obtain ⟨⟨_,b64⟩,hy63,h⟩:=zAc h;refine ⟨_,_,⟨_,_,_,_,hy63,rfl,rfl,rfl,rfl⟩,?_⟩
            cases h;exact (Le.rename [(0,0),(3,2)] _ _ _ ⟨rfl,rfl,rfl,trivial⟩ ⟨rfl,⟨_,rfl,rfl⟩,rfl,⟨_,rfl,rfl⟩,trivial⟩ rfl rfl rfl rfl rfl)
         ·show Tri _ _ _ _;refine zAk hle ?_;refine zAb [] [] rfl ?_;refine ⟨(k,IntKind.i64.wrap (x49 + 1),l52),h,(Le.rename [(0,0),(2,2)] _ _ _ ⟨rfl,rfl,rfl,trivial⟩ ⟨rfl,⟨_,rfl,rfl⟩,rfl,⟨_,rfl,rfl⟩,trivial⟩ rfl rfl rfl rfl rfl),Nat.lt_succ_self k⟩
        ·replace h:=zAl hb h;refine zAI ?_;cases h;exact (Le.rename [(0,0),(2,2)] _ _ _ ⟨rfl,rfl,trivial⟩ ⟨rfl,⟨_,rfl,rfl⟩,rfl,⟨_,rfl,rfl⟩,trivial⟩ rfl rfl rfl rfl rfl)
     ·show Tri _ _ _ _;refine zAk hle ?_;refine zAb [] [] rfl ?_;obtain ⟨⟨_,b66⟩,hy65,h⟩:=zAc h;refine ⟨_,_,⟨_,_,_,_,hy65,rfl,rfl,rfl,rfl⟩,?_⟩
      cases h;exact (Le.rename [(0,0),(3,2)] _ _ _ ⟨rfl,rfl,trivial⟩ ⟨rfl,⟨_,rfl,rfl⟩,rfl,⟨_,rfl,rfl⟩,trivial⟩ rfl rfl rfl rfl rfl)
    ·replace h:=zAl hb h;refine zAg ?_;cases h;exact (Le.rename [(0,0),(2,2)] _ _ _ ⟨rfl,rfl,trivial⟩ ⟨rfl,⟨_,rfl,rfl⟩,rfl,⟨_,rfl,rfl⟩,trivial⟩ rfl rfl rfl rfl rfl)
   ·show Tri _ _ _ _;refine zAk hle ?_;refine zAa ?_;refine zAb [] [] rfl ?_;show Tri _ _ _ _;refine zAd rfl (fun hb => ?_) (fun hb => ?_)
    ·replace h:=zAm hb h;refine zAF (by exact tokW) (by exact gok) (by exact mixed) [] [] [9] rfl (by decide +kernel) ?_;obtain ⟨y67,hy67,h⟩:=zAc h;refine ⟨_,⟨_,_,hy67,rfl,rfl⟩,?_⟩
     obtain ⟨hq,h⟩:=zAU h;refine And.intro (Nat.le_trans hq (by decide)) ?_;obtain ⟨⟨y68,_,b70⟩,hy68,h⟩:=zAc h;refine ⟨_,_,(Or.inl ⟨_,_,_,_,_,hy68,rfl,rfl,rfl,rfl⟩),?_⟩
     have hy:=Option.some.inj h;subst hy;unfold zCX;exact ⟨_,(Le.rename [(0,0),(3,2)] [] [(0,.box 137 (zA7 (.op 0 39) (.orow 2))),(2,.row 5 1 ((List.map brow) b70))] 3 trivial ⟨rfl,⟨_,rfl,rfl⟩,rfl,⟨_,rfl,rfl⟩,trivial⟩ rfl rfl rfl rfl rfl),rfl,rfl,rfl,rfl,rfl,rfl,trivial⟩
    ·replace h:=zAl hb h;refine zAg ?_;have hy:=Option.some.inj h;subst hy;unfold zCX;exact ⟨_,(Le.rename [(0,0),(2,2)] [] [(0,.box 137 (zA7 (.op 0 39) (.orow 2))),(2,.row 5 1 ((List.map brow) l45))] 3 trivial ⟨rfl,⟨_,rfl,rfl⟩,rfl,⟨_,rfl,rfl⟩,trivial⟩ rfl rfl rfl rfl rfl),rfl,rfl,rfl,rfl,rfl,rfl,trivial⟩
def zAs (p : (Nd × Int)) : List S:=[.pt (Nd.enc p.1),.int .i64 p.2]
def zQc (n : Nat) (xs : List AV) (r : Ret) : Prop:=∃ (a0 : Nd) (y0 : List UInt8),zEn n a0 = some y0 ∧ xs = [.agg ((Nd.enc a0).map .s)] ∧ r = .val (.s (.str y0))
def zKU : zAt:=zAC fun xs r => ∃ n,zQc n xs r
set_option maxHeartbeats 8000000 in
theorem zPv : PSound Tryz.prog 67 zKU:=by
 have gok : ∀ f s,look? f [(53,zGZ),(97,orS zFC zEA),(98,zBs),(99,zDO)] = some s → PSound Tryz.prog f s:=zAu (by
  simp only [List.forall_mem_cons]
  exact ⟨zJa,(zPI zIp zGP),zBQ,zFW,by simp⟩)
 refine zAJ tokW Tryz.call67 Tryz.func67 rfl (fun xs r h => by obtain ⟨n,_,_,_,rfl,_⟩:=h; show 1 ≤ 83; decide) 83 rfl ?_;rintro xs r w0 G0 ⟨n,⟨a1_kind,a1_text,a1_cols,a1_kids⟩,y0,h,rfl,rfl⟩ _;rw [zEn] at h;refine zAa ?_;refine zAb [] [] rfl ?_;show Tri _ _ _ _;refine zAa ?_;refine zAb [10] [] rfl ?_;obtain ⟨_,hy2,h⟩:=zAc h;refine ⟨_,⟨_,hy2,rfl,rfl⟩,?_⟩
 show Tri _ _ _ _;refine zAk (Le.trans (Le.rename [(0,0)] [(1,.s (.pt [.int .i64 a1_kind,.str a1_text,.int .i64 a1_cols,.sl 4 (Nd.encs a1_kids)])),(3,.op 0 0)] [(0,.box 137 (zA7 (.s (.np)) (.nl 1)))] 1 ⟨rfl,rfl,trivial⟩ ⟨rfl,⟨_,rfl,rfl⟩,trivial⟩ rfl rfl rfl rfl rfl) (Le.takeNil 0 40 5 rfl rfl (by decide))) ?_;refine zAa ?_;refine zAb [] [] rfl ?_;obtain ⟨b3,hb3,h⟩:=zAc h;refine ⟨_,_,(Or.inr ⟨_,_,_,_,hb3,rfl,rfl,rfl,rfl⟩),?_⟩
 show Tri _ _ _ _;refine zAa ?_;refine zAb [14] [] rfl ?_;show Tri _ _ _ _
 refine zAk (Le.rename [(0,0),(2,1),(3,2)] [(3,.op 0 0),(4,.orow 2)] [(0,.box 137 (zA7 (.op 0 39) (.orow 1))),(1,.row 5 1 ((List.map brow) b3)),(2,.row 140 2 ((List.map zAs) [(Nd.mk a1_kind a1_text a1_cols a1_kids,0)]))] 3 ⟨rfl,rfl,trivial⟩ ⟨rfl,⟨_,rfl,rfl⟩,rfl,⟨_,rfl,rfl⟩,rfl,⟨_,rfl,congrArg (Ob.row 140 2) (by simp [List.map_append,List.map_take,List.map_drop,irow,brow,zAT,List.map_cons,List.map_nil,zAK,Nd.encs_eq,Nd.enc,zAq,zAn,zAo,zAw,zAv,zAs])⟩,trivial⟩ rfl rfl rfl rfl rfl) ?_;refine zAa ?_;obtain ⟨l7,hl,h⟩:=zAc h
 refine zAp ⟨ofL [(3,.op 0 0)],ofH [(0,.box 137 (zA7 (.op 0 39) (.orow 1))),(1,.row 5 1 ((List.map brow) l7))],2⟩ ?_ (fun σ' hle => ?_)
 ·refine zAi (zAG (X:=Nat × (List UInt8) × (List (Nd × Int))) (fun y => match y with | (k,l5,l6) => ⟨ofL [(3,.op 0 0),(4,.orow 2)],ofH [(0,.box 137 (zA7 (.op 0 39) (.orow 1))),(1,.row 5 1 ((List.map brow) l5)),(2,.row 140 2 ((List.map zAs) l6))],3⟩) (fun y => zBT n y.1 y.2.1 y.2.2 = some l7) (fun y => y.1) (n,b3,[(Nd.mk a1_kind a1_text a1_cols a1_kids,0)]) hl ?_ ?_)
  ·exact (Le.rename [(0,0),(1,1),(2,2)] _ _ _ ⟨rfl,rfl,trivial⟩ ⟨rfl,⟨_,rfl,rfl⟩,rfl,⟨_,rfl,rfl⟩,rfl,⟨_,rfl,rfl⟩,trivial⟩ rfl rfl rfl rfl rfl)
  ·rintro ⟨k,l5,l6⟩ h;cases k with
   | zero => cases h
   | succ k =>
    replace h : zBT n (k+1) l5 l6 = some l7:=h;rw [zBT] at h;refine zAa ?_;refine zAa ?_;refine zAb [] [16] rfl ?_;intro n8 hn8;obtain rfl : (l6.length : Int) = n8:=(hn8.trans (congrArg (fun m : Nat => (m : Int)) (rlen (fun _ => rfl) l6))).symm;show Tri _ _ _ _;refine zAd rfl (fun hb => ?_) (fun hb => ?_)
    ·replace h:=zAm hb h;refine zAg ?_;show Tri _ _ _ _;refine zAi ?_;refine zAa ?_;refine zAb [] [20] rfl ?_;intro n9 hn9;obtain rfl : (l6.length : Int) = n9:=(hn9.trans (congrArg (fun m : Nat => (m : Int)) (rlen (fun _ => rfl) l6))).symm;obtain ⟨⟨⟨e10_node_kind,e10_node_text,e10_node_cols,e10_node_kids⟩,e10_kids⟩,he10,h⟩:=zAc h;refine And.intro (zAz (fun _ => rfl) he10).1 ?_;show Tri _ _ _ _;refine zAa ?_;refine zAb [] [] rfl ?_;refine And.intro (zAz (fun _ => rfl) he10).2.2 ?_;refine ⟨_,(zAz (fun _ => rfl) he10).2.1,?_⟩
     show Tri _ _ _ _;refine zAa ?_;refine zAa ?_;refine zAb [] [35] rfl ?_;refine And.intro (zAz (fun _ => rfl) he10).2.2 ?_;refine ⟨_,(zAz (fun _ => rfl) he10).2.1,?_⟩
     intro n11 hn11;obtain rfl : (e10_node_kids.length : Int) = n11:=(hn11.trans (congrArg (fun m : Nat => (m : Int)) (rlen Nd.encs_eq e10_node_kids))).symm;show Tri _ _ _ _;refine zAd rfl (fun hb => ?_) (fun hb => ?_)
     ·replace h:=zAm hb h;refine zAa ?_;refine zAa ?_;refine zAb [] [] rfl ?_;show Tri _ _ _ _;obtain ⟨l12,hj,h⟩:=zAc h;refine zAp ⟨ofL [(3,.op 0 0),(4,.orow 2)],ofH [(0,.box 137 (zA7 (.op 0 39) (.orow 1))),(1,.row 5 1 ((List.map brow) l12)),(2,.row 140 2 ((List.map zAs) l6))],3⟩ ?_ (fun σ' hle => ?_)
      ·replace h:=hj;refine zAd rfl (fun hb => ?_) (fun hb => ?_)
       ·replace h:=zAm hb h;refine zAb [] [] rfl ?_;obtain ⟨⟨_,b14⟩,hy13,h⟩:=zAc h;refine ⟨_,_,⟨_,_,_,_,hy13,rfl,rfl,rfl,rfl⟩,?_⟩
        cases h;exact (Le.rename [(0,0),(3,1),(2,2)] _ _ _ ⟨rfl,rfl,trivial⟩ ⟨rfl,⟨_,rfl,rfl⟩,rfl,⟨_,rfl,rfl⟩,rfl,⟨_,rfl,rfl⟩,trivial⟩ rfl rfl rfl rfl rfl)
       ·replace h:=zAl hb h;refine zAg ?_;cases h;exact (Le.rename [(0,0),(1,1),(2,2)] _ _ _ ⟨rfl,rfl,trivial⟩ ⟨rfl,⟨_,rfl,rfl⟩,rfl,⟨_,rfl,rfl⟩,rfl,⟨_,rfl,rfl⟩,trivial⟩ rfl rfl rfl rfl rfl)
      ·show Tri _ _ _ _;refine zAk hle ?_;refine zAa ?_;refine zAb [47] [45] rfl ?_;intro n15 hn15;obtain rfl : (l6.length : Int) = n15:=(hn15.trans (congrArg (fun m : Nat => (m : Int)) (rlen (fun _ => rfl) l6))).symm;obtain ⟨hq,h⟩:=zAU h;refine And.intro ⟨hq.1,Int.le_trans hq.2 (Int.ofNat_le.2 (Nat.le_of_eq (rlen (fun _ => rfl) _).symm))⟩ ?_;show Tri _ _ _ _
       refine zAk (Le.rename [(0,0),(1,1),(3,2)] [(3,.op 0 0),(4,.orow 2)] [(0,.box 137 (zA7 (.op 0 39) (.orow 1))),(1,.row 5 1 ((List.map brow) l12)),(2,.row 140 2 ((List.map zAs) (l6.take (IntKind.i64.wrap ((l6.length : Int) - 1)).toNat)))] 3 ⟨rfl,rfl,trivial⟩ ⟨rfl,⟨_,rfl,rfl⟩,rfl,⟨_,rfl,rfl⟩,rfl,⟨_,rfl,congrArg (Ob.row 140 2) (by simp [List.map_append,List.map_take,List.map_drop,irow,brow,zAT,List.map_cons,List.map_nil,zAK,Nd.encs_eq,Nd.enc,zAq,zAn,zAo,zAw,zAv,zAs])⟩,trivial⟩ rfl rfl rfl rfl rfl) ?_;refine zAI ?_
       refine ⟨(k,l12,l6.take (IntKind.i64.wrap ((l6.length : Int) - 1)).toNat),h,(Le.rename [(0,0),(1,1),(2,2)] _ _ _ ⟨rfl,rfl,trivial⟩ ⟨rfl,⟨_,rfl,rfl⟩,rfl,⟨_,rfl,rfl⟩,rfl,⟨_,rfl,rfl⟩,trivial⟩ rfl rfl rfl rfl rfl),Nat.lt_succ_self k⟩
     ·replace h:=zAl hb h;refine zAg ?_;show Tri _ _ _ _;refine zAa ?_;refine zAb [] [] rfl ?_;refine And.intro (zAz (fun _ => rfl) he10).2.2 ?_;refine ⟨_,(zAz (fun _ => rfl) he10).2.1,?_⟩
      have hset16:=(rset (R:=(List.map zAs)) (f:=zAs) (fun _ => rfl) he10 (Nd.mk e10_node_kind e10_node_text e10_node_cols e10_node_kids,IntKind.i64.wrap (e10_kids + 1)) 1 2 [.int .i64 (IntKind.i64.wrap (e10_kids + 1))] rfl)
      have hat16:=at_set he10 (Nd.mk e10_node_kind e10_node_text e10_node_cols e10_node_kids,IntKind.i64.wrap (e10_kids + 1))
      refine And.intro (zAz (fun _ => rfl) he10).2.2 ?_;show Tri _ _ _ _;refine zAa ?_;refine zAb [] [63] rfl ?_;refine And.intro ((congrArg (fun r : List (List S) => (IntKind.i64.wrap ((l6.length : Int) - 1)).toNat < r.length) hset16).mpr (zAz (fun _ => rfl) hat16).2.2) ?_;refine ⟨_,(congrArg (fun r : List (List S) => r.getD (IntKind.i64.wrap ((l6.length : Int) - 1)).toNat []) hset16).trans (zAz (fun _ => rfl) hat16).2.1,?_⟩
      obtain ⟨⟨e17_kind,e17_text,e17_cols,e17_kids⟩,he17,h⟩:=zAc h;refine And.intro (zAz Nd.encs_eq he17).1 ?_;intro r18 hr18;obtain rfl : [.int .i64 e17_kind,.str e17_text,.int .i64 e17_cols,.sl 4 (Nd.encs e17_kids)] = r18:=(hr18.trans (zAz Nd.encs_eq he17).2.1).symm;show Tri _ _ _ _
      refine zAk (Le.rename [(0,0),(1,1),(2,2)] [(3,.op 0 0),(4,.orow 2),(6,.s (.int .i64 e10_kids)),(7,.s (.pt [.int .i64 e17_kind,.str e17_text,.int .i64 e17_cols,.sl 4 (Nd.encs e17_kids)]))] [(0,.box 137 (zA7 (.op 0 39) (.orow 1))),(1,.row 5 1 ((List.map brow) l5)),(2,.row 140 2 ((List.map zAs) (l6.set (IntKind.i64.wrap ((l6.length : Int) - 1)).toNat (Nd.mk e10_node_kind e10_node_text e10_node_cols e10_node_kids,IntKind.i64.wrap (e10_kids + 1)))))] 3 ⟨rfl,rfl,rfl,rfl,trivial⟩ ⟨rfl,⟨_,rfl,rfl⟩,rfl,⟨_,rfl,rfl⟩,rfl,⟨_,rfl,congrArg (Ob.row 140 2) hset16⟩,trivial⟩ rfl rfl rfl rfl rfl) ?_;refine zAa ?_
      refine zAF (by exact tokW) (by exact gok) (by exact mixed) [] [69] [6] rfl (by decide +kernel) ?_;obtain ⟨c19,hc19,h⟩:=zAc h;refine And.intro (zBe hc19).1 ?_;intro v20 hv20;obtain rfl : (c19.toNat : Int) = v20:=(hv20.trans (zBe hc19).2).symm;obtain ⟨⟨_,b22⟩,hy21,h⟩:=zAc h;refine ⟨_,_,⟨_,_,_,_,hy21,rfl,rfl,rfl,rfl⟩,?_⟩
      show Tri _ _ _ _;refine zAa ?_;refine zAb [] [] rfl ?_;obtain ⟨b23,hb23,h⟩:=zAc h;refine ⟨_,_,(Or.inl ⟨_,_,_,_,hb23,rfl,rfl,rfl,rfl⟩),?_⟩
      show Tri _ _ _ _;refine zAb [78] [77] rfl ?_;intro r24 hr24;obtain rfl : (List.map zAs) [(Nd.mk e17_kind e17_text e17_cols e17_kids,0)] = r24:=(hr24.trans (by simp [List.map_append,List.map_take,List.map_drop,irow,brow,zAT,List.map_cons,List.map_nil,zAK,Nd.encs_eq,Nd.enc,zAq,zAn,zAo,zAw,zAv,zAs])).symm;obtain ⟨hq,h⟩:=zAU h
      refine And.intro (show (((List.map zAs) (l6.set (IntKind.i64.wrap ((l6.length : Int) - 1)).toNat (Nd.mk e10_node_kind e10_node_text e10_node_cols e10_node_kids,IntKind.i64.wrap (e10_kids + 1)))).length + ((List.map zAs) [(Nd.mk e17_kind e17_text e17_cols e17_kids,0)]).length) * 16 ≤ 140737488355328 ∧ ((List.map zAs) (l6.set (IntKind.i64.wrap ((l6.length : Int) - 1)).toNat (Nd.mk e10_node_kind e10_node_text e10_node_cols e10_node_kids,IntKind.i64.wrap (e10_kids + 1)))).length + ((List.map zAs) [(Nd.mk e17_kind e17_text e17_cols e17_kids,0)]).length ≤ 9223372036854775807 from by simp only [List.length_append,List.length_cons,List.length_nil,List.length_map,rlen (fun _ => rfl)] at hq ⊢; omega) ?_
      refine ⟨(k,b23,(l6.set (IntKind.i64.wrap ((l6.length : Int) - 1)).toNat (Nd.mk e10_node_kind e10_node_text e10_node_cols e10_node_kids,IntKind.i64.wrap (e10_kids + 1))) ++ [(Nd.mk e17_kind e17_text e17_cols e17_kids,0)]),h,(Le.trans (Le.rename [(0,0),(4,1),(5,2)] [(3,.op 0 0),(4,.orow 2)] [(0,.box 137 (zA7 (.op 0 39) (.orow 1))),(1,.row 5 1 ((List.map brow) b23)),(2,.row 140 2 ((List.map zAs) ((l6.set (IntKind.i64.wrap ((l6.length : Int) - 1)).toNat (Nd.mk e10_node_kind e10_node_text e10_node_cols e10_node_kids,IntKind.i64.wrap (e10_kids + 1))) ++ [(Nd.mk e17_kind e17_text e17_cols e17_kids,0)])))] 3 ⟨rfl,rfl,trivial⟩ ⟨rfl,⟨_,rfl,rfl⟩,rfl,⟨_,rfl,rfl⟩,rfl,⟨_,rfl,congrArg (Ob.row 140 2) (by simp [List.map_append,List.map_take,List.map_drop,irow,brow,zAT,List.map_cons,List.map_nil,zAK,Nd.encs_eq,Nd.enc,zAq,zAn,zAo,zAw,zAv,zAs])⟩,trivial⟩ rfl rfl rfl rfl rfl) (Le.rename [(0,0),(1,1),(2,2)] _ _ _ ⟨rfl,rfl,trivial⟩ ⟨rfl,⟨_,rfl,rfl⟩,rfl,⟨_,rfl,rfl⟩,rfl,⟨_,rfl,rfl⟩,trivial⟩ rfl rfl rfl rfl rfl)),Nat.lt_succ_self k⟩
    ·replace h:=zAl hb h;refine zAI ?_;cases h;exact (Le.rename [(0,0),(1,1)] _ _ _ ⟨rfl,trivial⟩ ⟨rfl,⟨_,rfl,rfl⟩,rfl,⟨_,rfl,rfl⟩,trivial⟩ rfl rfl rfl rfl rfl)
 ·show Tri _ _ _ _;refine zAk hle ?_;refine zAa ?_;refine zAb [] [] rfl ?_;obtain ⟨y25,hy25,h⟩:=zAc h;refine ⟨_,_,⟨_,_,hy25,rfl,rfl,rfl,rfl⟩,?_⟩
  show Tri _ _ _ _;refine zAh ?_;have hy:=Option.some.inj h;subst hy;unfold zAy;exact ⟨_,Le.refl _ _,rfl,rfl⟩
def zAx (p : (Int × Int)) : List S:=[.int .i64 p.1,.int .i64 p.2]
def zOn (n : Nat) (xs : List AV) (r : Ret) : Prop:=∃ (a0 : List Nd) (a1 : List Nd) (y0 : List (Int × Int)),zDU n a0 a1 = some y0 ∧ xs = [.s (.sl 4 (Nd.encs a0)),.s (.sl 4 (Nd.encs a1))] ∧ r = .row 83 2 ((List.map zAx) y0)
def zGV : zAt:=zAC fun xs r => ∃ n,zOn n xs r
theorem zI4 : PSound Tryz.prog 45 zGV:=by
 have gok : ∀ f s,look? f [(37,zIc),(67,zKU)] = some s → PSound Tryz.prog f s:=zAu (by
  simp only [List.forall_mem_cons]
  exact ⟨zJ8,zPv,by simp⟩)
 refine zAJ tokW Tryz.call45 Tryz.func45 rfl (fun xs r h => by obtain ⟨n,_,_,_,_,rfl,_⟩:=h; show 2 ≤ 134; decide) 134 rfl ?_;rintro xs r w0 G0 ⟨n,a1,a2,y0,h,rfl,rfl⟩ _;rw [zDU] at h;refine zAa ?_;refine zAb [4] [] rfl ?_;show Tri _ _ _ _;refine zAk (Le.rename [] [(0,.s (.sl 4 (Nd.encs a1))),(1,.s (.sl 4 (Nd.encs a2)))] [] 0 ⟨rfl,rfl,trivial⟩ trivial rfl rfl rfl rfl rfl) ?_;refine zAa ?_;refine zAb [5] [] rfl ?_;obtain ⟨⟨y3_least,y3_pair,y3_first,y3_other⟩,hy3,h⟩:=zAc h;refine ⟨_,⟨_,_,_,_,hy3,rfl,rfl⟩,?_⟩
 show Tri _ _ _ _;refine zAk (Le.giveBox 0 [.sl 1 ((List.map zAv) y3_least),.sl 1 ((List.map zAv) y3_pair),.sl 1 ((List.map (irow .i64)) y3_first),.sl 1 ((List.map (irow .i64)) y3_other)] rfl rfl) ?_;refine zAa ?_;refine zAb [6] [] rfl ?_;show Tri _ _ _ _
 refine zAk (Le.rename [(1,0)] [(0,.s (.sl 4 (Nd.encs a1))),(1,.s (.sl 4 (Nd.encs a2))),(5,.s (.pt [.sl 1 ((List.map zAv) y3_least),.sl 1 ((List.map zAv) y3_pair),.sl 1 ((List.map (irow .i64)) y3_first),.sl 1 ((List.map (irow .i64)) y3_other)])),(6,.orow 0)] [(0,.row 83 2 ((List.map zAx) []))] 1 ⟨rfl,rfl,rfl,rfl,trivial⟩ ⟨rfl,⟨_,rfl,congrArg (Ob.row 83 2) (by simp [List.map_append,List.map_take,List.map_drop,irow,brow,zAT,List.map_cons,List.map_nil,zAK,Nd.encs_eq,Nd.enc,zAq,zAn,zAo,zAw,zAv,zAs,zAx])⟩,trivial⟩ rfl rfl rfl rfl rfl) ?_;refine zAa ?_
 refine zAa ?_;refine zAb [] [] rfl ?_;show Tri _ _ _ _;obtain ⟨l8,hl,h⟩:=zAc h;refine zAp ⟨ofL [(6,.orow 0)],ofH [(0,.row 83 2 ((List.map zAx) l8))],1⟩ ?_ (fun σ' hle => ?_)
 ·refine zAi (zAG (X:=Nat × Int × Int × (List (Int × Int))) (fun y => match y with | (k,x5,x6,l7) => ⟨ofL [(0,.s (.sl 4 (Nd.encs a1))),(1,.s (.sl 4 (Nd.encs a2))),(5,.s (.pt [.sl 1 ((List.map zAv) y3_least),.sl 1 ((List.map zAv) y3_pair),.sl 1 ((List.map (irow .i64)) y3_first),.sl 1 ((List.map (irow .i64)) y3_other)])),(6,.orow 0),(7,.s (.int .i64 x5)),(8,.s (.int .i64 x6))],ofH [(0,.row 83 2 ((List.map zAx) l7))],1⟩) (fun y => zBu n a1 a2 y3_least y3_pair y3_first y3_other y.1 y.2.1 y.2.2.1 y.2.2.2 = some l8) (fun y => y.1) (n,0,0,[]) hl ?_ ?_)
  ·exact (Le.rename [(0,0)] _ _ _ ⟨rfl,rfl,rfl,rfl,rfl,rfl,trivial⟩ ⟨rfl,⟨_,rfl,rfl⟩,trivial⟩ rfl rfl rfl rfl rfl)
  ·rintro ⟨k,x5,x6,l7⟩ h;cases k with
   | zero => cases h
   | succ k =>
    replace h : zBu n a1 a2 y3_least y3_pair y3_first y3_other (k+1) x5 x6 l7 = some l8:=h;rw [zBu] at h;refine zAa ?_;refine zAa ?_;obtain ⟨x9,hj,h⟩:=zAc h;refine zAp ⟨ofL [(0,.s (.sl 4 (Nd.encs a1))),(1,.s (.sl 4 (Nd.encs a2))),(5,.s (.pt [.sl 1 ((List.map zAv) y3_least),.sl 1 ((List.map zAv) y3_pair),.sl 1 ((List.map (irow .i64)) y3_first),.sl 1 ((List.map (irow .i64)) y3_other)])),(6,.orow 0),(7,.s (.int .i64 x5)),(8,.s (.int .i64 x6)),(24,.s (.bool x9))],ofH [(0,.row 83 2 ((List.map zAx) l7))],1⟩ ?_ (fun σ' hle => ?_)
    ·replace h:=hj;refine zAb [] [17,19,22] rfl ?_;intro n10 hn10;obtain rfl : (a1.length : Int) = n10:=(hn10.trans (congrArg (fun m : Nat => (m : Int)) (rlen Nd.encs_eq a1))).symm;intro b hb;cases b with
     | true =>
      replace h:=zAm hb.symm h;intro n11 hn11;obtain rfl : (a2.length : Int) = n11:=(hn11.trans (congrArg (fun m : Nat => (m : Int)) (rlen Nd.encs_eq a2))).symm;cases h;exact (Le.rename [(0,0)] _ _ _ ⟨rfl,rfl,rfl,rfl,rfl,rfl,rfl,trivial⟩ ⟨rfl,⟨_,rfl,rfl⟩,trivial⟩ rfl rfl rfl rfl rfl)
     | false =>
      replace h:=zAl hb.symm h;cases h;exact (Le.rename [(0,0)] _ _ _ ⟨rfl,rfl,rfl,rfl,rfl,rfl,rfl,trivial⟩ ⟨rfl,⟨_,rfl,rfl⟩,trivial⟩ rfl rfl rfl rfl rfl)
    ·show Tri _ _ _ _;refine zAk hle ?_;refine zAd rfl (fun hb => ?_) (fun hb => ?_)
     ·replace h:=zAm hb h;refine zAg ?_;show Tri _ _ _ _;refine zAi ?_;refine zAa ?_;refine zAb [] [28,31] rfl ?_;obtain ⟨e12,he12,h⟩:=zAc h;refine And.intro (zAz (fun _ => rfl) he12).1 ?_;intro r13 hr13;obtain rfl : [.sl 1 ((List.map (irow .i64)) e12)] = r13:=(hr13.trans (zAz (fun _ => rfl) he12).2.1).symm;obtain ⟨e14,he14,h⟩:=zAc h;refine And.intro (zAz (fun _ => rfl) he14).1 ?_;intro r15 hr15;obtain rfl : [.int .i64 e14] = r15:=(hr15.trans (zAz (fun _ => rfl) he14).2.1).symm;show Tri _ _ _ _;refine zAa ?_;refine zAF (by exact tokW) (by exact gok) (by exact mixed) [] [38,41,46] [] rfl (by decide +kernel) ?_
      obtain ⟨e16,he16,h⟩:=zAc h;refine And.intro (zAz (fun _ => rfl) he16).1 ?_;intro r17 hr17;obtain rfl : [.sl 1 ((List.map (irow .i64)) e16)] = r17:=(hr17.trans (zAz (fun _ => rfl) he16).2.1).symm;obtain ⟨e18,he18,h⟩:=zAc h;refine And.intro (zAz (fun _ => rfl) he18).1 ?_;intro r19 hr19;obtain rfl : [.int .i64 e18] = r19:=(hr19.trans (zAz (fun _ => rfl) he18).2.1).symm;obtain ⟨e20,he20,h⟩:=zAc h;refine And.intro (zAz (fun _ => rfl) he20).1 ?_;intro r21 hr21;obtain rfl : [.int .i64 e20] = r21:=(hr21.trans (zAz (fun _ => rfl) he20).2.1).symm;show Tri _ _ _ _;refine zAa ?_
      refine zAF (by exact tokW) (by exact gok) (by exact mixed) [] [54,58,63] [] rfl (by decide +kernel) ?_;obtain ⟨e22,he22,h⟩:=zAc h;refine And.intro (zAz (fun _ => rfl) he22).1 ?_;intro r23 hr23;obtain rfl : [.sl 1 ((List.map (irow .i64)) e22)] = r23:=(hr23.trans (zAz (fun _ => rfl) he22).2.1).symm;obtain ⟨e24,he24,h⟩:=zAc h;refine And.intro (zAz (fun _ => rfl) he24).1 ?_;intro r25 hr25;obtain rfl : [.int .i64 e24] = r25:=(hr25.trans (zAz (fun _ => rfl) he24).2.1).symm;obtain ⟨e26,he26,h⟩:=zAc h;refine And.intro (zAz (fun _ => rfl) he26).1 ?_;intro r27 hr27
      obtain rfl : [.int .i64 e26] = r27:=(hr27.trans (zAz (fun _ => rfl) he26).2.1).symm;show Tri _ _ _ _;refine zAi ?_;refine zAa ?_;obtain ⟨x28,hj,h⟩:=zAc h
      refine zAp ⟨ofL [(0,.s (.sl 4 (Nd.encs a1))),(1,.s (.sl 4 (Nd.encs a2))),(5,.s (.pt [.sl 1 ((List.map zAv) y3_least),.sl 1 ((List.map zAv) y3_pair),.sl 1 ((List.map (irow .i64)) y3_first),.sl 1 ((List.map (irow .i64)) y3_other)])),(6,.orow 0),(7,.s (.int .i64 x5)),(8,.s (.int .i64 x6)),(10,.s (.bool (e14 == (IntKind.i64.wrap (e18 + e20))))),(11,.s (.bool (e14 == (IntKind.i64.wrap (e24 + e26))))),(69,.s (.bool x28))],ofH [(0,.row 83 2 ((List.map zAx) l7))],1⟩ ?_ (fun σ' hle => ?_)
      ·replace h:=hj;refine zAF (by exact tokW) (by exact gok) (by exact mixed) [] [73,76,79,85,89,94,97] [] rfl (by decide +kernel) ?_;obtain ⟨e29,he29,h⟩:=zAc h;refine And.intro (zAz (fun _ => rfl) he29).1 ?_;intro r30 hr30;obtain rfl : [.sl 1 ((List.map (irow .i64)) e29)] = r30:=(hr30.trans (zAz (fun _ => rfl) he29).2.1).symm;obtain ⟨e31,he31,h⟩:=zAc h;refine And.intro (zAz (fun _ => rfl) he31).1 ?_;intro r32 hr32;obtain rfl : [.int .i64 e31] = r32:=(hr32.trans (zAz (fun _ => rfl) he31).2.1).symm;intro b hb;cases b with
       | true =>
        replace h:=zAm hb.symm h;obtain ⟨e33,he33,h⟩:=zAc h;refine And.intro (zAz (fun _ => rfl) he33).1 ?_;intro r34 hr34;obtain rfl : [.sl 1 ((List.map (irow .i64)) e33)] = r34:=(hr34.trans (zAz (fun _ => rfl) he33).2.1).symm;obtain ⟨e35,he35,h⟩:=zAc h;refine And.intro (zAz (fun _ => rfl) he35).1 ?_;intro r36 hr36;obtain rfl : [.int .i64 e35] = r36:=(hr36.trans (zAz (fun _ => rfl) he35).2.1).symm;obtain ⟨e37,he37,h⟩:=zAc h;refine And.intro (zAz (fun _ => rfl) he37).1 ?_;intro r38 hr38;obtain rfl : [.sl 1 ((List.map (irow .i64)) e37)] = r38:=(hr38.trans (zAz (fun _ => rfl) he37).2.1).symm;obtain ⟨e39,he39,h⟩:=zAc h
        refine And.intro (zAz (fun _ => rfl) he39).1 ?_;intro r40 hr40;obtain rfl : [.int .i64 e39] = r40:=(hr40.trans (zAz (fun _ => rfl) he39).2.1).symm;cases h;exact (Le.rename [(0,0)] _ _ _ ⟨rfl,rfl,rfl,rfl,rfl,rfl,rfl,rfl,rfl,trivial⟩ ⟨rfl,⟨_,rfl,rfl⟩,trivial⟩ rfl rfl rfl rfl rfl)
       | false =>
        replace h:=zAl hb.symm h;cases h;exact (Le.rename [(0,0)] _ _ _ ⟨rfl,rfl,rfl,rfl,rfl,rfl,rfl,rfl,rfl,trivial⟩ ⟨rfl,⟨_,rfl,rfl⟩,trivial⟩ rfl rfl rfl rfl rfl)
      ·show Tri _ _ _ _;refine zAk hle ?_;refine zAd rfl (fun hb => ?_) (fun hb => ?_)
       ·replace h:=zAm hb h;refine zAa ?_;refine zAb [107] [106] rfl ?_;intro r41 hr41;obtain rfl : (List.map zAx) [(x5,x6)] = r41:=(hr41.trans (by simp [List.map_append,List.map_take,List.map_drop,irow,brow,zAT,List.map_cons,List.map_nil,zAK,Nd.encs_eq,Nd.enc,zAq,zAn,zAo,zAw,zAv,zAs,zAx])).symm;obtain ⟨hq,h⟩:=zAU h
        refine And.intro (show (((List.map zAx) l7).length + ((List.map zAx) [(x5,x6)]).length) * 16 ≤ 140737488355328 ∧ ((List.map zAx) l7).length + ((List.map zAx) [(x5,x6)]).length ≤ 9223372036854775807 from by simp only [List.length_append,List.length_cons,List.length_nil,List.length_map,rlen (fun _ => rfl)] at hq ⊢; omega) ?_;show Tri _ _ _ _
        refine zAk (Le.rename [(1,0)] [(0,.s (.sl 4 (Nd.encs a1))),(1,.s (.sl 4 (Nd.encs a2))),(5,.s (.pt [.sl 1 ((List.map zAv) y3_least),.sl 1 ((List.map zAv) y3_pair),.sl 1 ((List.map (irow .i64)) y3_first),.sl 1 ((List.map (irow .i64)) y3_other)])),(6,.orow 0),(7,.s (.int .i64 x5)),(8,.s (.int .i64 x6))] [(0,.row 83 2 ((List.map zAx) (l7 ++ [(x5,x6)])))] 1 ⟨rfl,rfl,rfl,rfl,rfl,rfl,trivial⟩ ⟨rfl,⟨_,rfl,congrArg (Ob.row 83 2) (by simp [List.map_append,List.map_take,List.map_drop,irow,brow,zAT,List.map_cons,List.map_nil,zAK,Nd.encs_eq,Nd.enc,zAq,zAn,zAo,zAw,zAv,zAs,zAx])⟩,trivial⟩ rfl rfl rfl rfl rfl) ?_
        refine zAb [] [] rfl ?_;refine ⟨(k,IntKind.i64.wrap (x5 + 1),IntKind.i64.wrap (x6 + 1),l7 ++ [(x5,x6)]),h,(Le.rename [(0,0)] _ _ _ ⟨rfl,rfl,rfl,rfl,rfl,rfl,trivial⟩ ⟨rfl,⟨_,rfl,rfl⟩,trivial⟩ rfl rfl rfl rfl rfl),Nat.lt_succ_self k⟩
       ·replace h:=zAl hb h;refine zAa ?_;obtain ⟨x42,hj,h⟩:=zAc h;refine zAp ⟨ofL [(0,.s (.sl 4 (Nd.encs a1))),(1,.s (.sl 4 (Nd.encs a2))),(5,.s (.pt [.sl 1 ((List.map zAv) y3_least),.sl 1 ((List.map zAv) y3_pair),.sl 1 ((List.map (irow .i64)) y3_first),.sl 1 ((List.map (irow .i64)) y3_other)])),(6,.orow 0),(7,.s (.int .i64 x5)),(8,.s (.int .i64 x6)),(112,.s (.bool x42))],ofH [(0,.row 83 2 ((List.map zAx) l7))],1⟩ ?_ (fun σ' hle => ?_)
        ·replace h:=hj;refine zAF (by exact tokW) (by exact gok) (by exact mixed) [] [114,117,120,125] [] rfl (by decide +kernel) ?_;intro b hb;cases b with
         | true =>
          replace h:=zAm hb.symm h;intro b hb;cases b with
          | true =>
           replace h:=zAm hb.symm h;cases h;exact (Le.rename [(0,0)] _ _ _ ⟨rfl,rfl,rfl,rfl,rfl,rfl,rfl,trivial⟩ ⟨rfl,⟨_,rfl,rfl⟩,trivial⟩ rfl rfl rfl rfl rfl)
          | false =>
           replace h:=zAl hb.symm h;obtain ⟨⟨e43_kind,e43_text,e43_cols,e43_kids⟩,he43,h⟩:=zAc h;refine And.intro (zAz Nd.encs_eq he43).1 ?_;intro r44 hr44;obtain rfl : [.int .i64 e43_kind,.str e43_text,.int .i64 e43_cols,.sl 4 (Nd.encs e43_kids)] = r44:=(hr44.trans (zAz Nd.encs_eq he43).2.1).symm;obtain ⟨y45,hy45,h⟩:=zAc h;refine ⟨_,⟨_,_,_,hy45,rfl,rfl⟩,?_⟩
           obtain ⟨⟨e46_kind,e46_text,e46_cols,e46_kids⟩,he46,h⟩:=zAc h;refine And.intro (zAz Nd.encs_eq he46).1 ?_;intro r47 hr47;obtain rfl : [.int .i64 e46_kind,.str e46_text,.int .i64 e46_cols,.sl 4 (Nd.encs e46_kids)] = r47:=(hr47.trans (zAz Nd.encs_eq he46).2.1).symm;obtain ⟨y48,hy48,h⟩:=zAc h;refine ⟨_,⟨_,_,_,hy48,rfl,rfl⟩,?_⟩
           cases h;exact (Le.rename [(0,0)] _ _ _ ⟨rfl,rfl,rfl,rfl,rfl,rfl,rfl,trivial⟩ ⟨rfl,⟨_,rfl,rfl⟩,trivial⟩ rfl rfl rfl rfl rfl)
         | false =>
          replace h:=zAl hb.symm h;cases h;exact (Le.rename [(0,0)] _ _ _ ⟨rfl,rfl,rfl,rfl,rfl,rfl,rfl,trivial⟩ ⟨rfl,⟨_,rfl,rfl⟩,trivial⟩ rfl rfl rfl rfl rfl)
        ·show Tri _ _ _ _;refine zAk hle ?_;refine zAd rfl (fun hb => ?_) (fun hb => ?_)
         ·replace h:=zAm hb h;refine zAb [] [] rfl ?_;refine ⟨(k,IntKind.i64.wrap (x5 + 1),x6,l7),h,(Le.rename [(0,0)] _ _ _ ⟨rfl,rfl,rfl,rfl,rfl,rfl,trivial⟩ ⟨rfl,⟨_,rfl,rfl⟩,trivial⟩ rfl rfl rfl rfl rfl),Nat.lt_succ_self k⟩
         ·replace h:=zAl hb h;refine zAb [] [] rfl ?_;refine ⟨(k,x5,IntKind.i64.wrap (x6 + 1),l7),h,(Le.rename [(0,0)] _ _ _ ⟨rfl,rfl,rfl,rfl,rfl,rfl,trivial⟩ ⟨rfl,⟨_,rfl,rfl⟩,trivial⟩ rfl rfl rfl rfl rfl),Nat.lt_succ_self k⟩
     ·replace h:=zAl hb h;refine zAI ?_;cases h;exact (Le.rename [(0,0)] _ _ _ ⟨rfl,trivial⟩ ⟨rfl,⟨_,rfl,rfl⟩,trivial⟩ rfl rfl rfl rfl rfl)
 ·show Tri _ _ _ _;refine zAk hle ?_;refine zAa ?_;refine zAb [] [] rfl ?_;show Tri _ _ _ _;refine zAh ?_;have hy:=Option.some.inj h;subst hy;unfold zAy;exact ⟨_,Le.refl _ _,0,rfl,rfl⟩
end Go.Proofs.YtjdhkpdjecegnaaGreatDoor
namespace Go.Proofs.YtjdhkpdjecegnaaGreatDoor
open Go.Abs
def zAr (p : (Int × List Int × Int × Int × List Nd × Int × List UInt8 × List UInt8)) : List S:=[.int .i64 p.1,.sl 1 ((List.map (irow .i64)) p.2.1),.int .i64 p.2.2.1,.int .i64 p.2.2.2.1,.sl 4 (Nd.encs p.2.2.2.2.1),.int .i64 p.2.2.2.2.2.1,.str p.2.2.2.2.2.2.1,.str p.2.2.2.2.2.2.2]
def zNf (n : Nat) (xs : List AV) (r : Ret) : Prop:=∃ (a0 : List (Int × List Int × Int × Int × List Nd × Int × List UInt8 × List UInt8)) (y0 : Int) (y1 : Int),zD6 n a0 = some (y0,y1) ∧ xs = [.s (.sl 8 ((List.map zAr) a0))] ∧ r = .val (.tup [.s (.int .i64 y0),.s (.int .i64 y1)])
def zIH : zAt:=zAC fun xs r => ∃ n,zNf n xs r
theorem zMg : PSound Tryz.prog 13 zIH:=by
 have gok : ∀ f s,look? f [(36,zGY)] = some s → PSound Tryz.prog f s:=zAu (by
  simp only [List.forall_mem_cons]
  exact ⟨zI9,by simp⟩)
 refine zAJ tokW Tryz.call13 Tryz.func13 rfl (fun xs r h => by obtain ⟨n,_,_,_,_,rfl,_⟩:=h; show 1 ≤ 38; decide) 38 rfl ?_;rintro xs r w0 G0 ⟨n,ops1,y0,y1,h,rfl,rfl⟩ _;rw [zD6] at h;refine zAa ?_;refine zAb [] [] rfl ?_;show Tri _ _ _ _;refine zAa ?_;refine zAb [] [] rfl ?_;show Tri _ _ _ _;refine zAa ?_;refine zAa ?_;refine zAb [] [10] rfl ?_;intro n2 hn2;obtain rfl : (ops1.length : Int) = n2:=(hn2.trans (congrArg (fun m : Nat => (m : Int)) (rlen (fun _ => rfl) ops1))).symm;show Tri _ _ _ _;obtain ⟨fl,hl,ho1⟩:=zAc h
 refine zDF (fl:=fl) (fun z => match z with | cost5 => ⟨ofL [(4,.s (.int .i64 cost5))],fun _ => none,0⟩) ?_ (fun cost5 σ' hz hle => ?_)
 ·refine zAi (zAG (X:=Nat × Int × Int) (fun y => match y with | (k,x3,cost4) => ⟨ofL [(4,.s (.int .i64 cost4)),(9,.s (.sl 8 ((List.map zAr) ops1))),(10,.s (.int .i64 (ops1.length : Int))),(11,.s (.int .i64 x3))],fun _ => none,0⟩) (fun y => zBM n ops1 y.1 y.2.1 y.2.2 = some fl) (fun y => y.1) (n,0,0) hl ?_ ?_)
  ·exact (Le.forget _ ⟨rfl,rfl,rfl,rfl,trivial⟩)
  ·rintro ⟨k,x3,cost4⟩ h;cases k with
   | zero => cases h
   | succ k =>
    replace h : zBM n ops1 (k+1) x3 cost4 = some fl:=h;rw [zBM] at h;refine zAa ?_;refine zAb [] [] rfl ?_;show Tri _ _ _ _;refine zAa ?_;refine zAd rfl (fun hb => ?_) (fun hb => ?_)
    ·replace h:=zAm hb h;refine zAg ?_;show Tri _ _ _ _;refine zAa ?_;obtain ⟨fl,hj,ho2⟩:=zAc h;refine zDF (fl:=fl) (fun z => match z with | cost6 => ⟨ofL [(4,.s (.int .i64 cost6)),(9,.s (.sl 8 ((List.map zAr) ops1))),(10,.s (.int .i64 (ops1.length : Int))),(11,.s (.int .i64 x3))],fun _ => none,0⟩) ?_ (fun cost6 σ' hz hle => ?_)
     ·replace h:=hj;refine zAi ?_;refine zAa ?_;refine zAb [6] [13] rfl ?_;obtain ⟨⟨e7_kind,e7_row,e7_at,e7_n,e7_nodes,e7_slot,e7_old,e7_text⟩,he7,h⟩:=zAc h;refine And.intro (zAz (fun _ => rfl) he7).1 ?_;intro r8 hr8;obtain rfl : [.int .i64 e7_kind,.sl 1 ((List.map (irow .i64)) e7_row),.int .i64 e7_at,.int .i64 e7_n,.sl 4 (Nd.encs e7_nodes),.int .i64 e7_slot,.str e7_old,.str e7_text] = r8:=(hr8.trans (zAz (fun _ => rfl) he7).2.1).symm;show Tri _ _ _ _
      refine zAk (Le.giveBox 0 [.int .i64 e7_kind,.sl 1 ((List.map (irow .i64)) e7_row),.int .i64 e7_at,.int .i64 e7_n,.sl 4 (Nd.encs e7_nodes),.int .i64 e7_slot,.str e7_old,.str e7_text] rfl rfl) ?_;refine zAa ?_;refine zAb [] [] rfl ?_;show Tri _ _ _ _;refine zAi ?_;refine zAa ?_;refine zAa ?_;refine zAb [] [] rfl ?_;show Tri _ _ _ _;obtain ⟨x9,hj,h⟩:=zAc h
      refine zAp ⟨ofL [(4,.s (.int .i64 cost4)),(6,.s (.pt [.int .i64 e7_kind,.sl 1 ((List.map (irow .i64)) e7_row),.int .i64 e7_at,.int .i64 e7_n,.sl 4 (Nd.encs e7_nodes),.int .i64 e7_slot,.str e7_old,.str e7_text])),(9,.s (.sl 8 ((List.map zAr) ops1))),(10,.s (.int .i64 (ops1.length : Int))),(11,.s (.int .i64 x3)),(16,.s (.int .i64 e7_kind)),(17,.s (.bool x9))],fun _ => none,0⟩ ?_ (fun σ' hle => ?_)
      ·replace h:=hj;refine zAd rfl (fun hb => ?_) (fun hb => ?_)
       ·replace h:=zAm hb h;refine zAg ?_;cases h;exact (Le.rename [] _ [] 0 ⟨rfl,rfl,rfl,rfl,rfl,rfl,rfl,trivial⟩ trivial rfl rfl rfl rfl rfl)
       ·replace h:=zAl hb h;refine zAb [] [] rfl ?_;cases h;exact (Le.rename [] _ [] 0 ⟨rfl,rfl,rfl,rfl,rfl,rfl,rfl,trivial⟩ trivial rfl rfl rfl rfl rfl)
      ·show Tri _ _ _ _;refine zAk hle ?_;refine zAd rfl (fun hb => ?_) (fun hb => ?_)
       ·replace h:=zAm hb h;refine zAa ?_;refine zAb [] [22] rfl ?_;intro n10 hn10;obtain rfl : (e7_nodes.length : Int) = n10:=(hn10.trans (congrArg (fun m : Nat => (m : Int)) (rlen Nd.encs_eq e7_nodes))).symm;show Tri _ _ _ _;obtain ⟨cost13,hl,h⟩:=zAc h;refine zAp ⟨ofL [(4,.s (.int .i64 cost13)),(9,.s (.sl 8 ((List.map zAr) ops1))),(10,.s (.int .i64 (ops1.length : Int))),(11,.s (.int .i64 x3))],fun _ => none,0⟩ ?_ (fun σ' hle => ?_)
        ·refine zAi (zAG (X:=Nat × Int × Int) (fun y => match y with | (k,x11,cost12) => ⟨ofL [(4,.s (.int .i64 cost12)),(9,.s (.sl 8 ((List.map zAr) ops1))),(10,.s (.int .i64 (ops1.length : Int))),(11,.s (.int .i64 x3)),(21,.s (.sl 4 (Nd.encs e7_nodes))),(22,.s (.int .i64 (e7_nodes.length : Int))),(23,.s (.int .i64 x11))],fun _ => none,0⟩) (fun y => zBN n e7_nodes y.1 y.2.1 y.2.2 = some cost13) (fun y => y.1) (n,0,cost4) hl ?_ ?_)
         ·exact (Le.forget _ ⟨rfl,rfl,rfl,rfl,rfl,rfl,rfl,trivial⟩)
         ·rintro ⟨k,x11,cost12⟩ h;cases k with
          | zero => cases h
          | succ k =>
           replace h : zBN n e7_nodes (k+1) x11 cost12 = some cost13:=h;rw [zBN] at h;refine zAa ?_;refine zAb [] [] rfl ?_;show Tri _ _ _ _;refine zAa ?_;refine zAd rfl (fun hb => ?_) (fun hb => ?_)
           ·replace h:=zAm hb h;refine zAg ?_;show Tri _ _ _ _;refine zAa ?_;refine zAi ?_;refine zAa ?_;refine zAb [8] [25] rfl ?_;obtain ⟨⟨e14_kind,e14_text,e14_cols,e14_kids⟩,he14,h⟩:=zAc h;refine And.intro (zAz Nd.encs_eq he14).1 ?_;intro r15 hr15;obtain rfl : [.int .i64 e14_kind,.str e14_text,.int .i64 e14_cols,.sl 4 (Nd.encs e14_kids)] = r15:=(hr15.trans (zAz Nd.encs_eq he14).2.1).symm;show Tri _ _ _ _;refine zAk (Le.giveBox 0 [.int .i64 e14_kind,.str e14_text,.int .i64 e14_cols,.sl 4 (Nd.encs e14_kids)] rfl rfl) ?_;refine zAb [] [] rfl ?_;obtain ⟨y16,hy16,h⟩:=zAc h;refine ⟨_,⟨_,_,_,hy16,rfl,rfl⟩,?_⟩
            show Tri _ _ _ _;refine zAb [] [] rfl ?_;refine ⟨(k,IntKind.i64.wrap (x11 + 1),IntKind.i64.wrap (cost12 + y16)),h,(Le.rename [] _ [] 0 ⟨rfl,rfl,rfl,rfl,rfl,rfl,rfl,trivial⟩ trivial rfl rfl rfl rfl rfl),Nat.lt_succ_self k⟩
           ·replace h:=zAl hb h;refine zAI ?_;cases h;exact (Le.forget _ ⟨rfl,rfl,rfl,rfl,trivial⟩)
        ·cases h;exact ⟨_,rfl,(Le.trans hle (Le.forget _ ⟨rfl,rfl,rfl,rfl,trivial⟩))⟩
       ·replace h:=zAl hb h;refine zAa ?_;refine zAb [] [] rfl ?_;show Tri _ _ _ _;refine zAd rfl (fun hb => ?_) (fun hb => ?_)
        ·replace h:=zAm hb h;refine zAb [] [] rfl ?_;cases h;exact ⟨_,rfl,(Le.forget _ ⟨rfl,rfl,rfl,rfl,trivial⟩)⟩
        ·replace h:=zAl hb h;refine zAa ?_;refine zAb [] [] rfl ?_;show Tri _ _ _ _;refine zAh ?_;cases h;replace h : some _ = some _:=ho2;cases h;replace h : some _ = some _:=ho1;obtain ⟨hj1,hk1⟩:=Prod.mk.inj (Option.some.inj h)
         subst hj1;subst hk1;unfold zAy;exact ⟨_,Le.refl _ _,rfl,rfl⟩
     ·subst hz;replace h:=ho2;show Tri _ _ _ _;refine zAk hle ?_;refine zAb [] [] rfl ?_;refine ⟨(k,IntKind.i64.wrap (x3 + 1),cost6),h,(Le.forget _ ⟨rfl,rfl,rfl,rfl,trivial⟩),Nat.lt_succ_self k⟩
    ·replace h:=zAl hb h;refine zAI ?_;cases h;exact ⟨_,rfl,(Le.forget _ ⟨rfl,trivial⟩)⟩
 ·subst hz;replace h:=ho1;show Tri _ _ _ _;refine zAk hle ?_;refine zAa ?_;refine zAb [] [] rfl ?_;show Tri _ _ _ _;refine zAh ?_;obtain ⟨hj1,hk1⟩:=Prod.mk.inj (Option.some.inj h)
  subst hj1;subst hk1;unfold zAy;exact ⟨_,Le.refl _ _,rfl,rfl⟩
def zOp (n : Nat) (xs : List AV) (r : Ret) : Prop:=∃ (a0 : Nd) (a1 : Nd) (y0 : Bool),zDW n a0 a1 = some y0 ∧ xs = [.agg ((Nd.enc a0).map .s),.agg ((Nd.enc a1).map .s)] ∧ r = .val (.s (.bool y0))
def zGW : zAt:=zAC fun xs r => ∃ n,zOp n xs r
theorem zI6 : PSound Tryz.prog 22 zGW:=by
 have gok : ∀ f s,look? f [(33,zC6)] = some s → PSound Tryz.prog f s:=zAu (by
  simp only [List.forall_mem_cons]
  exact ⟨zDp,by simp⟩)
 refine zAJ tokW Tryz.call22 Tryz.func22 rfl (fun xs r h => by obtain ⟨n,_,_,_,_,rfl,_⟩:=h; show 2 ≤ 11; decide) 11 rfl ?_;rintro xs r w0 G0 ⟨n,⟨a1_kind,a1_text,a1_cols,a1_kids⟩,⟨b2_kind,b2_text,b2_cols,b2_kids⟩,y0,h,rfl,rfl⟩ _;rw [zDW] at h;refine zAa ?_;refine zAb [] [] rfl ?_;show Tri _ _ _ _;refine zAa ?_;obtain ⟨x3,hj,h⟩:=zAc h;refine zAp ⟨ofL [(4,.s (.bool x3))],fun _ => none,0⟩ ?_ (fun σ' hle => ?_)
 ·replace h:=hj;refine zAb [] [7] rfl ?_;obtain ⟨y4,hy4,h⟩:=zAc h;refine ⟨_,⟨_,_,_,hy4,rfl,rfl⟩,?_⟩
  intro b hb;cases b with
  | true =>
   replace h:=zAm hb.symm h;obtain ⟨y5,hy5,h⟩:=zAc h;refine ⟨_,⟨_,_,_,hy5,rfl,rfl⟩,?_⟩
   cases h;exact (Le.forget _ ⟨rfl,trivial⟩)
  | false =>
   replace h:=zAl hb.symm h;cases h;exact (Le.forget _ ⟨rfl,trivial⟩)
 ·show Tri _ _ _ _;refine zAk hle ?_;refine zAh ?_;have hy:=Option.some.inj h;subst hy;unfold zAy;exact ⟨_,Le.refl _ _,rfl,rfl⟩
def zQa (n : Nat) (xs : List AV) (r : Ret) : Prop:=∃ (a0 : Nd) (a1 : Nd) (y0 : Int) (y1 : Int),zEl n a0 a1 = some (y0,y1) ∧ xs = [.agg ((Nd.enc a0).map .s),.agg ((Nd.enc a1).map .s)] ∧ r = .val (.tup [.s (.int .i64 y0),.s (.int .i64 y1)])
def zIb : zAt:=zAC fun xs r => ∃ n,zQa n xs r
theorem zJ7 : PSound Tryz.prog 14 zIb:=by
 have gok : ∀ f s,look? f [(22,zGW),(37,zIc)] = some s → PSound Tryz.prog f s:=zAu (by
  simp only [List.forall_mem_cons]
  exact ⟨zI6,zJ8,by simp⟩)
 refine zAJ tokW Tryz.call14 Tryz.func14 rfl (fun xs r h => by obtain ⟨n,_,_,_,_,_,rfl,_⟩:=h; show 2 ≤ 20; decide) 20 rfl ?_;rintro xs r w0 G0 ⟨n,⟨a1_kind,a1_text,a1_cols,a1_kids⟩,⟨b2_kind,b2_text,b2_cols,b2_kids⟩,y0,y1,h,rfl,rfl⟩ _;rw [zEl] at h;refine zAa ?_;refine zAb [] [] rfl ?_;show Tri _ _ _ _;refine zAa ?_;refine zAa ?_;refine zAb [] [] rfl ?_;obtain ⟨y3,hy3,h⟩:=zAc h;refine ⟨_,⟨_,_,_,_,hy3,rfl,rfl⟩,?_⟩
 show Tri _ _ _ _;refine zAd rfl (fun hb => ?_) (fun hb => ?_)
 ·replace h:=zAm hb h;refine zAa ?_;refine zAb [] [] rfl ?_;show Tri _ _ _ _;refine zAh ?_;obtain ⟨hj1,hk1⟩:=Prod.mk.inj (Option.some.inj h)
  subst hj1;subst hk1;unfold zAy;exact ⟨_,Le.refl _ _,rfl,rfl⟩
 ·replace h:=zAl hb h;refine zAg ?_;show Tri _ _ _ _;refine zAa ?_;refine zAb [] [16,18] rfl ?_;obtain ⟨⟨y4_least,y4_pair,y4_first,y4_other⟩,hy4,h⟩:=zAc h;refine ⟨_,⟨_,_,_,_,hy4,rfl,rfl⟩,?_⟩
  obtain ⟨e5,he5,h⟩:=zAc h;refine And.intro (zAz (fun _ => rfl) he5).1 ?_;intro r6 hr6;obtain rfl : [.sl 1 ((List.map (irow .i64)) e5)] = r6:=(hr6.trans (zAz (fun _ => rfl) he5).2.1).symm;obtain ⟨e7,he7,h⟩:=zAc h;refine And.intro (zAz (fun _ => rfl) he7).1 ?_;intro r8 hr8;obtain rfl : [.int .i64 e7] = r8:=(hr8.trans (zAz (fun _ => rfl) he7).2.1).symm;show Tri _ _ _ _;refine zAh ?_;obtain ⟨hj1,hk1⟩:=Prod.mk.inj (Option.some.inj h)
  subst hj1;subst hk1;unfold zAy;exact ⟨_,Le.refl _ _,rfl,rfl⟩
def zE8 (n : Nat) (xs : List AV) (r : Ret) : Prop:=∃ (a0 : Nd) (y0 : Int),zCE n a0 = some y0 ∧ xs = [.agg ((Nd.enc a0).map .s)] ∧ r = .val (.s (.int .i64 y0))
theorem zMt (n : Nat) (ih : PSound Tryz.prog 28 (zAC (zE8 n))) : PSound Tryz.prog 28 (zAC (zE8 (n + 1))):=by
 have gok : ∀ f s,look? f [(28,zAC (zE8 n))] = some s → PSound Tryz.prog f s:=zAu (by
  simp only [List.forall_mem_cons]
  exact ⟨ih,by simp⟩)
 refine zAJ tokW Tryz.call28 Tryz.func28 rfl (fun xs r h => by obtain ⟨_,_,_,rfl,_⟩:=h; show 1 ≤ 21; decide) 21 rfl ?_;rintro xs r w0 G0 ⟨⟨n1_kind,n1_text,n1_cols,n1_kids⟩,y0,h,rfl,rfl⟩ _;rw [zCE] at h;refine zAa ?_;refine zAb [] [] rfl ?_;show Tri _ _ _ _;refine zAa ?_;refine zAb [] [] rfl ?_;show Tri _ _ _ _;refine zAa ?_;refine zAa ?_;refine zAb [] [] rfl ?_;show Tri _ _ _ _;obtain ⟨out4,hl,h⟩:=zAc h;refine zAp ⟨ofL [(3,.s (.int .i64 out4))],fun _ => none,0⟩ ?_ (fun σ' hle => ?_)
 ·refine zAi (zAG (X:=Nat × Int × Int) (fun y => match y with | (k,out2,i3) => ⟨ofL [(1,.s (.pt [.int .i64 n1_kind,.str n1_text,.int .i64 n1_cols,.sl 4 (Nd.encs n1_kids)])),(3,.s (.int .i64 out2)),(4,.s (.int .i64 i3))],fun _ => none,0⟩) (fun y => zCh (zCE n) n1_kids y.1 y.2.1 y.2.2 = some out4) (fun y => y.1) (n,1,0) hl ?_ ?_)
  ·exact (Le.forget _ ⟨rfl,rfl,rfl,trivial⟩)
  ·rintro ⟨k,out2,i3⟩ h;cases k with
   | zero => cases h
   | succ k =>
    replace h : zCh (zCE n) n1_kids (k+1) out2 i3 = some out4:=h;rw [zCh] at h;refine zAa ?_;refine zAa ?_;refine zAb [] [8] rfl ?_;intro n5 hn5;obtain rfl : (n1_kids.length : Int) = n5:=(hn5.trans (congrArg (fun m : Nat => (m : Int)) (rlen Nd.encs_eq n1_kids))).symm;show Tri _ _ _ _;refine zAd rfl (fun hb => ?_) (fun hb => ?_)
    ·replace h:=zAm hb h;refine zAg ?_;show Tri _ _ _ _;refine zAa ?_;refine zAi ?_;refine zAb [] [16] rfl ?_;obtain ⟨⟨e6_kind,e6_text,e6_cols,e6_kids⟩,he6,h⟩:=zAc h;refine And.intro (zAz Nd.encs_eq he6).1 ?_;intro r7 hr7;obtain rfl : [.int .i64 e6_kind,.str e6_text,.int .i64 e6_cols,.sl 4 (Nd.encs e6_kids)] = r7:=(hr7.trans (zAz Nd.encs_eq he6).2.1).symm;obtain ⟨y8,hy8,h⟩:=zAc h;refine ⟨_,⟨_,_,hy8,rfl,rfl⟩,?_⟩
     show Tri _ _ _ _;refine zAb [] [] rfl ?_;refine ⟨(k,IntKind.i64.wrap (out2 + y8),IntKind.i64.wrap (i3 + 1)),h,(Le.forget _ ⟨rfl,rfl,rfl,trivial⟩),Nat.lt_succ_self k⟩
    ·replace h:=zAl hb h;refine zAI ?_;cases h;exact (Le.forget _ ⟨rfl,trivial⟩)
 ·show Tri _ _ _ _;refine zAk hle ?_;refine zAa ?_;refine zAb [] [] rfl ?_;show Tri _ _ _ _;refine zAh ?_;have hy:=Option.some.inj h;subst hy;unfold zAy;exact ⟨_,Le.refl _ _,rfl,rfl⟩
theorem zNr : ∀ n,PSound Tryz.prog 28 (zAC (zE8 n)):=by
 intro n
 induction n with
 | zero => exact zCk Tryz.call28 (fun xs r h => by obtain ⟨_,_,h,_⟩:=h; cases h)
 | succ n ih => exact zMt n ih
def zKY : zAt:=zAC fun xs r => ∃ n,zE8 n xs r
theorem zPz : PSound Tryz.prog 28 zKY:=zD0 zNr
def zOy (xs : List AV) (r : Ret) : Prop:=∃ (a0 : Int) (y0 : Bool),zDZ a0 = some y0 ∧ xs = [.s (.int .u8 a0)] ∧ r = .val (.s (.bool y0))
def zG1 : zAt:=zAC fun xs r => zOy xs r
theorem zJb : PSound Tryz.prog 101 zG1:=by
 have gok : ∀ (f : Nat) (s : zAt),(fun _ => none : Nat → Option zAt) f = some s → PSound Tryz.prog f s:=fun _ _ h => by cases h
 refine zAJ tokW Tryz.call101 Tryz.func101 rfl (fun xs r h => by obtain ⟨_,_,_,rfl,_⟩:=h; show 1 ≤ 17; decide) 17 rfl ?_;rintro xs r w0 G0 ⟨c1,y0,h,rfl,rfl⟩ _;rw [zDZ] at h;refine zAa ?_;refine zAb [] [] rfl ?_;show Tri _ _ _ _;refine zAa ?_;obtain ⟨x2,hj,h⟩:=zAc h;refine zAp ⟨ofL [(2,.s (.bool x2))],fun _ => none,0⟩ ?_ (fun σ' hle => ?_)
 ·replace h:=hj;refine zAb [] [5,9,12] rfl ?_;intro b hb;cases b with
  | true =>
   replace h:=zAm hb.symm h;intro b hb;cases b with
   | true =>
    replace h:=zAm hb.symm h;cases h;exact (Le.forget _ ⟨rfl,trivial⟩)
   | false =>
    replace h:=zAl hb.symm h;intro b hb;cases b with
    | true =>
     replace h:=zAm hb.symm h;cases h;exact (Le.forget _ ⟨rfl,trivial⟩)
    | false =>
     replace h:=zAl hb.symm h;cases h;exact (Le.forget _ ⟨rfl,trivial⟩)
  | false =>
   replace h:=zAl hb.symm h;intro b hb;subst hb;intro b hb;cases b with
   | true =>
    replace h:=zAm hb.symm h;cases h;exact (Le.forget _ ⟨rfl,trivial⟩)
   | false =>
    replace h:=zAl hb.symm h;cases h;exact (Le.forget _ ⟨rfl,trivial⟩)
 ·show Tri _ _ _ _;refine zAk hle ?_;refine zAh ?_;have hy:=Option.some.inj h;subst hy;unfold zAy;exact ⟨_,Le.refl _ _,rfl,rfl⟩
def zSp (n : Nat) (xs : List AV) (r : Ret) : Prop:=∃ (a0 : List UInt8) (a1 : Int) (y0 : Bool),zDc n a0 a1 = some y0 ∧ xs = [.s (.str a0),.s (.int .u8 a1)] ∧ r = .val (.s (.bool y0))
def zK3 : zAt:=zAC fun xs r => ∃ n,zSp n xs r
theorem zMZ : PSound Tryz.prog 75 zK3:=by
 have gok : ∀ (f : Nat) (s : zAt),(fun _ => none : Nat → Option zAt) f = some s → PSound Tryz.prog f s:=fun _ _ h => by cases h
 refine zAJ tokW Tryz.call75 Tryz.func75 rfl (fun xs r h => by obtain ⟨n,_,_,_,_,rfl,_⟩:=h; show 2 ≤ 17; decide) 17 rfl ?_;rintro xs r w0 G0 ⟨n,s1,c2,y0,h,rfl,rfl⟩ _;rw [zDc] at h;refine zAa ?_;refine zAb [] [] rfl ?_;show Tri _ _ _ _;refine zAa ?_;refine zAa ?_;refine zAb [] [] rfl ?_;show Tri _ _ _ _;obtain ⟨fl,hl,ho1⟩:=zAc h;refine zDF (fl:=fl) (fun z => match z with | _ => ⟨ofL [],fun _ => none,0⟩) ?_ (fun z σ' hz hle => ?_)
 ·refine zAi (zAG (X:=Nat × Int) (fun y => match y with | (k,i3) => ⟨ofL [(0,.s (.str s1)),(1,.s (.int .u8 c2)),(5,.s (.int .i64 i3))],fun _ => none,0⟩) (fun y => zCz s1 c2 y.1 y.2 = some fl) (fun y => y.1) (n,0) hl ?_ ?_)
  ·exact (Le.forget _ ⟨rfl,rfl,rfl,trivial⟩)
  ·rintro ⟨k,i3⟩ h;cases k with
   | zero => cases h
   | succ k =>
    replace h : zCz s1 c2 (k+1) i3 = some fl:=h;rw [zCz] at h;refine zAa ?_;refine zAa ?_;refine zAb [] [] rfl ?_;show Tri _ _ _ _;refine zAd rfl (fun hb => ?_) (fun hb => ?_)
    ·replace h:=zAm hb h;refine zAg ?_;show Tri _ _ _ _;refine zAa ?_;refine zAi ?_;refine zAa ?_;refine zAb [] [14] rfl ?_;obtain ⟨c4,hc4,h⟩:=zAc h;refine And.intro (zBe hc4).1 ?_;intro v5 hv5;obtain rfl : (c4.toNat : Int) = v5:=(hv5.trans (zBe hc4).2).symm;show Tri _ _ _ _;refine zAd rfl (fun hb => ?_) (fun hb => ?_)
     ·replace h:=zAm hb h;refine zAa ?_;refine zAb [] [] rfl ?_;show Tri _ _ _ _;refine zAh ?_;cases h;replace h : some _ = some _:=ho1;have hy:=Option.some.inj h;subst hy;unfold zAy;exact ⟨_,Le.refl _ _,rfl,rfl⟩
     ·replace h:=zAl hb h;refine zAg ?_;show Tri _ _ _ _;refine zAb [] [] rfl ?_;refine ⟨(k,IntKind.i64.wrap (i3 + 1)),h,(Le.forget _ ⟨rfl,rfl,rfl,trivial⟩),Nat.lt_succ_self k⟩
    ·replace h:=zAl hb h;refine zAI ?_;cases h;exact ⟨_,rfl,(Le.forget _ trivial)⟩
 ·subst hz;obtain _:=z;replace h:=ho1;show Tri _ _ _ _;refine zAk hle ?_;refine zAa ?_;refine zAb [] [] rfl ?_;show Tri _ _ _ _;refine zAh ?_;have hy:=Option.some.inj h;subst hy;unfold zAy;exact ⟨_,Le.refl _ _,rfl,rfl⟩
def zKQ (n : Nat) (xs : List AV) (r : Ret) : Prop:=∃ (a0 : Int) (y0 : Bool),zD9 n a0 = some y0 ∧ xs = [.s (.int .u8 a0)] ∧ r = .val (.s (.bool y0))
def zG0 : zAt:=zAC fun xs r => ∃ n,zKQ n xs r
theorem zKp : PSound Tryz.prog 100 zG0:=by
 have gok : ∀ f s,look? f [(101,zG1),(75,zK3)] = some s → PSound Tryz.prog f s:=zAu (by
  simp only [List.forall_mem_cons]
  exact ⟨zJb,zMZ,by simp⟩)
 refine zAJ tokW Tryz.call100 Tryz.func100 rfl (fun xs r h => by obtain ⟨n,_,_,_,rfl,_⟩:=h; show 1 ≤ 9; decide) 9 rfl ?_;rintro xs r w0 G0 ⟨n,c1,y0,h,rfl,rfl⟩ _;rw [zD9] at h;refine zAa ?_;refine zAb [] [] rfl ?_;show Tri _ _ _ _;refine zAa ?_;obtain ⟨x2,hj,h⟩:=zAc h;refine zAp ⟨ofL [(2,.s (.bool x2))],fun _ => none,0⟩ ?_ (fun σ' hle => ?_)
 ·replace h:=hj;refine zAb [] [5] rfl ?_;obtain ⟨y3,hy3,h⟩:=zAc h;refine ⟨_,⟨_,_,hy3,rfl,rfl⟩,?_⟩
  intro b hb;cases b with
  | true =>
   replace h:=zAm hb.symm h;cases h;exact (Le.forget _ ⟨rfl,trivial⟩)
  | false =>
   replace h:=zAl hb.symm h;obtain ⟨y4,hy4,h⟩:=zAc h;refine ⟨_,⟨_,_,_,_,hy4,rfl,rfl⟩,?_⟩
   cases h;exact (Le.forget _ ⟨rfl,trivial⟩)
 ·show Tri _ _ _ _;refine zAk hle ?_;refine zAh ?_;have hy:=Option.some.inj h;subst hy;unfold zAy;exact ⟨_,Le.refl _ _,rfl,rfl⟩
def zAW (p : List UInt8) : List S:=[.str p]
def zL7 (xs : List AV) (r : Ret) : Prop:=∃ (y0 : List (List UInt8)),zEx = some y0 ∧ xs = [] ∧ r = .val (.s (.sl 1 ((List.map zAW) y0)))
def zHV : zAt:=zAC fun xs r => zL7 xs r
theorem zLA : PSound Tryz.prog 102 zHV:=by
 have gok : ∀ (f : Nat) (s : zAt),(fun _ => none : Nat → Option zAt) f = some s → PSound Tryz.prog f s:=fun _ _ h => by cases h
 refine zAJ tokW Tryz.call102 Tryz.func102 rfl (fun xs r h => by obtain ⟨_,_,rfl,_⟩:=h; show 0 ≤ 2; decide) 2 rfl ?_;rintro xs r w0 G0 ⟨y0,h,rfl,rfl⟩ _;rw [zEx] at h;refine zAa ?_;refine zAb [] [] rfl ?_;show Tri _ _ _ _;refine zAa ?_;refine zAb [] [1] rfl ?_;intro r1 hr1
 obtain rfl : (List.map zAW) [[102,114,97,99],[114,111,111,116],[109,97,116,114,105,120],[102,101,110,99,101]] = r1:=(hr1.trans (by simp [List.map_append,List.map_take,List.map_drop,irow,brow,zAT,List.map_cons,List.map_nil,zAK,Nd.encs_eq,Nd.enc,zAq,zAn,zAo,zAw,zAv,zAs,zAx,zAr,zAW])).symm;show Tri _ _ _ _;refine zAh ?_;have hy:=Option.some.inj h;subst hy;unfold zAy;exact ⟨_,Le.refl _ _,rfl,rfl⟩
def zTQ (n : Nat) (xs : List AV) (r : Ret) : Prop:=∃ (a0 : List (List UInt8)) (a1 : List UInt8) (y0 : Bool),zEw n a0 a1 = some y0 ∧ xs = [.s (.sl 1 ((List.map zAW) a0)),.s (.str a1)] ∧ r = .val (.s (.bool y0))
def zNo : zAt:=zAC fun xs r => ∃ n,zTQ n xs r
theorem zPD : PSound Tryz.prog 73 zNo:=by
 have gok : ∀ (f : Nat) (s : zAt),(fun _ => none : Nat → Option zAt) f = some s → PSound Tryz.prog f s:=fun _ _ h => by cases h
 refine zAJ tokW Tryz.call73 Tryz.func73 rfl (fun xs r h => by obtain ⟨n,_,_,_,_,rfl,_⟩:=h; show 2 ≤ 18; decide) 18 rfl ?_;rintro xs r w0 G0 ⟨n,l1,s2,y0,h,rfl,rfl⟩ _;rw [zEw] at h;refine zAa ?_;refine zAb [] [] rfl ?_;show Tri _ _ _ _;refine zAa ?_;refine zAa ?_;refine zAb [] [] rfl ?_;show Tri _ _ _ _;obtain ⟨fl,hl,ho1⟩:=zAc h;refine zDF (fl:=fl) (fun z => match z with | _ => ⟨ofL [],fun _ => none,0⟩) ?_ (fun z σ' hz hle => ?_)
 ·refine zAi (zAG (X:=Nat × Int) (fun y => match y with | (k,i3) => ⟨ofL [(0,.s (.sl 1 ((List.map zAW) l1))),(1,.s (.str s2)),(5,.s (.int .i64 i3))],fun _ => none,0⟩) (fun y => zDa l1 s2 y.1 y.2 = some fl) (fun y => y.1) (n,0) hl ?_ ?_)
  ·exact (Le.forget _ ⟨rfl,rfl,rfl,trivial⟩)
  ·rintro ⟨k,i3⟩ h;cases k with
   | zero => cases h
   | succ k =>
    replace h : zDa l1 s2 (k+1) i3 = some fl:=h;rw [zDa] at h;refine zAa ?_;refine zAa ?_;refine zAb [] [8] rfl ?_;intro n4 hn4;obtain rfl : (l1.length : Int) = n4:=(hn4.trans (congrArg (fun m : Nat => (m : Int)) (rlen (fun _ => rfl) l1))).symm;show Tri _ _ _ _;refine zAd rfl (fun hb => ?_) (fun hb => ?_)
    ·replace h:=zAm hb h;refine zAg ?_;show Tri _ _ _ _;refine zAa ?_;refine zAi ?_;refine zAa ?_;refine zAb [] [14] rfl ?_;obtain ⟨e5,he5,h⟩:=zAc h;refine And.intro (zAz (fun _ => rfl) he5).1 ?_;intro r6 hr6;obtain rfl : [.str e5] = r6:=(hr6.trans (zAz (fun _ => rfl) he5).2.1).symm;show Tri _ _ _ _;refine zAd rfl (fun hb => ?_) (fun hb => ?_)
     ·replace h:=zAm hb h;refine zAa ?_;refine zAb [] [] rfl ?_;show Tri _ _ _ _;refine zAh ?_;cases h;replace h : some _ = some _:=ho1;have hy:=Option.some.inj h;subst hy;unfold zAy;exact ⟨_,Le.refl _ _,rfl,rfl⟩
     ·replace h:=zAl hb h;refine zAg ?_;show Tri _ _ _ _;refine zAb [] [] rfl ?_;refine ⟨(k,IntKind.i64.wrap (i3 + 1)),h,(Le.forget _ ⟨rfl,rfl,rfl,trivial⟩),Nat.lt_succ_self k⟩
    ·replace h:=zAl hb h;refine zAI ?_;cases h;exact ⟨_,rfl,(Le.forget _ trivial)⟩
 ·subst hz;obtain _:=z;replace h:=ho1;show Tri _ _ _ _;refine zAk hle ?_;refine zAa ?_;refine zAb [] [] rfl ?_;show Tri _ _ _ _;refine zAh ?_;have hy:=Option.some.inj h;subst hy;unfold zAy;exact ⟨_,Le.refl _ _,rfl,rfl⟩
def zNm (xs : List AV) (r : Ret) : Prop:=∃ (y0 : List (List UInt8)),zDm = some y0 ∧ xs = [] ∧ r = .val (.s (.sl 1 ((List.map zAW) y0)))
def zGr : zAt:=zAC fun xs r => zNm xs r
theorem zH1 : PSound Tryz.prog 74 zGr:=by
 have gok : ∀ (f : Nat) (s : zAt),(fun _ => none : Nat → Option zAt) f = some s → PSound Tryz.prog f s:=fun _ _ h => by cases h
 refine zAJ tokW Tryz.call74 Tryz.func74 rfl (fun xs r h => by obtain ⟨_,_,rfl,_⟩:=h; show 0 ≤ 2; decide) 2 rfl ?_;rintro xs r w0 G0 ⟨y0,h,rfl,rfl⟩ _;rw [zDm] at h;refine zAa ?_;refine zAb [] [] rfl ?_;show Tri _ _ _ _;refine zAa ?_;refine zAb [] [1] rfl ?_;intro r1 hr1
 obtain rfl : (List.map zAW) [[104,97,116],[98,97,114],[118,101,99],[100,111,116],[116,105,108,100,101],[99,104,101,99,107]] = r1:=(hr1.trans (by simp [List.map_append,List.map_take,List.map_drop,irow,brow,zAT,List.map_cons,List.map_nil,zAK,Nd.encs_eq,Nd.enc,zAq,zAn,zAo,zAw,zAv,zAs,zAx,zAr,zAW])).symm;show Tri _ _ _ _;refine zAh ?_;have hy:=Option.some.inj h;subst hy;unfold zAy;exact ⟨_,Le.refl _ _,rfl,rfl⟩
end Go.Proofs.YtjdhkpdjecegnaaGreatDoor
