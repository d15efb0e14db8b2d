/-
  Joined out of: MaVD, MaVE, PTypO, PTypE, PCnt, PByte, PText, PVal, PDist, PDump, PFill, PMet.
-/
import Derived.Lib.ItoaLen
import Derived.Test.YtgfneloodabafaaGreatDoorZf
set_option linter.unusedVariables false
set_option linter.unusedSimpArgs false
set_option maxHeartbeats 2000000
set_option maxRecDepth 100000
namespace Go.Proofs.YtgfneloodabafaaGreatDoor
open Go.Abs
def zSO (n : Nat) (xs : List AV) (r : Ret) : Prop := ∃ (a0 : List (List UInt8)) (a1 : List UInt8) (y0 : Bool), zD4 n a0 a1 = some y0 ∧ xs = [.s (.sl 1 ((List.map zBx) a0)), .s (.str a1)] ∧ r = .val (.s (.bool y0))
def zMp : zAy := zAI fun xs r => ∃ n, zSO n xs r
theorem zOy : PSound Tryz.prog 75 zMp := by
 have gok : ∀ (f : Nat) (s : zAy), (fun _ => none : Nat → Option zAy) f = some s → PSound Tryz.prog f s := fun _ _ h => by cases h
 refine zAM tokW Tryz.call75 Tryz.func75 rfl (fun xs r h => by obtain ⟨n, _, _, _, _, rfl, _⟩ := h; show 2 ≤ 18; decide) 18 rfl ?_
 rintro xs r w0 G0 ⟨n, l1, s2, y0, h, rfl, rfl⟩ _
 rw [zD4] at h
 refine zAb ?_
 refine zAa (by exact tokW) (by exact gok) [] [] rfl ?_
 show Tri _ _ _ _
 refine zAb ?_
 refine zAb ?_
 refine zAa (by exact tokW) (by exact gok) [] [] rfl ?_
 show Tri _ _ _ _
 obtain ⟨fl, hl, ho1⟩ := zAc h
 refine zCY (fl := fl) (fun z => match z with | _ => ⟨ofL [], fun _ => none, 0⟩) ?_ (fun z σ' hz hle => ?_)
 ·refine zAp (zAJ (X := Nat × Int) (fun y => match y with | (k, i3) => ⟨ofL [(0, .s (.sl 1 ((List.map zBx) l1))), (1, .s (.str s2)), (5, .s (.int .i64 i3))], fun _ => none, 0⟩) (fun y => zCU l1 s2 y.1 y.2 = some fl) (fun y => y.1) (n, 0) hl ?_ ?_)
  ·exact (Le.forget _ ⟨rfl, rfl, rfl, trivial⟩)
  ·rintro ⟨k, i3⟩ h
   cases k with
   | zero => cases h
   | succ k =>
    replace h : zCU l1 s2 (k+1) i3 = some fl := h
    rw [zCU] at h
    refine zAb ?_
    refine zAb ?_
    refine zAa (by exact tokW) (by exact gok) [] [8] rfl ?_
    intro n4 hn4
    obtain rfl : (l1.length : Int) = n4 := (hn4.trans (congrArg (fun m : Nat => (m : Int)) (rlen (fun _ => rfl) l1))).symm
    show Tri _ _ _ _
    refine zAe rfl (fun hb => ?_) (fun hb => ?_)
    ·replace h := zAk hb h
     refine zAg ?_
     show Tri _ _ _ _
     refine zAb ?_
     refine zAp ?_
     refine zAb ?_
     refine zAa (by exact tokW) (by exact gok) [] [14] rfl ?_
     obtain ⟨e5, he5, h⟩ := zAc h
     refine And.intro (zAw (fun _ => rfl) he5).1 ?_
     intro r6 hr6
     obtain rfl : [.str e5] = r6 := (hr6.trans (zAw (fun _ => rfl) he5).2.1).symm
     show Tri _ _ _ _
     refine zAe rfl (fun hb => ?_) (fun hb => ?_)
     ·replace h := zAk hb h
      refine zAb ?_
      refine zAa (by exact tokW) (by exact gok) [] [] rfl ?_
      show Tri _ _ _ _
      refine zAi ?_
      cases h
      replace h : some _ = some _ := ho1
      have hy := Option.some.inj h
      subst hy
      unfold zAG
      exact ⟨_, Le.refl _ _, rfl, rfl⟩
     ·replace h := zAj hb h
      refine zAg ?_
      show Tri _ _ _ _
      refine zAa (by exact tokW) (by exact gok) [] [] rfl ?_
      refine ⟨(k, IntKind.i64.wrap (i3 + 1)), h, (Le.forget _ ⟨rfl, rfl, rfl, trivial⟩), Nat.lt_succ_self k⟩
    ·replace h := zAj hb h
     refine zAL ?_
     cases h
     exact ⟨_, rfl, (Le.forget _ trivial)⟩
 ·subst hz
  obtain _ := z
  replace h := ho1
  show Tri _ _ _ _
  refine zAm hle ?_
  refine zAb ?_
  refine zAa (by exact tokW) (by exact gok) [] [] rfl ?_
  show Tri _ _ _ _
  refine zAi ?_
  have hy := Option.some.inj h
  subst hy
  unfold zAG
  exact ⟨_, Le.refl _ _, rfl, rfl⟩
def zMn (xs : List AV) (r : Ret) : Prop := ∃ (y0 : List (List UInt8)), zDa = some y0 ∧ xs = [] ∧ r = .val (.s (.sl 1 ((List.map zBx) y0)))
def zFV : zAy := zAI fun xs r => zMn xs r
theorem zHe : PSound Tryz.prog 76 zFV := by
 have gok : ∀ (f : Nat) (s : zAy), (fun _ => none : Nat → Option zAy) f = some s → PSound Tryz.prog f s := fun _ _ h => by cases h
 refine zAM tokW Tryz.call76 Tryz.func76 rfl (fun xs r h => by obtain ⟨_, _, rfl, _⟩ := h; show 0 ≤ 2; decide) 2 rfl ?_
 rintro xs r w0 G0 ⟨y0, h, rfl, rfl⟩ _
 rw [zDa] at h
 refine zAb ?_
 refine zAa (by exact tokW) (by exact gok) [] [] rfl ?_
 show Tri _ _ _ _
 refine zAb ?_
 refine zAa (by exact tokW) (by exact gok) [] [1] rfl ?_
 intro r1 hr1
 obtain rfl : (List.map zBx) [[104, 97, 116], [98, 97, 114], [118, 101, 99], [100, 111, 116], [116, 105, 108, 100, 101], [99, 104, 101, 99, 107]] = r1 := (hr1.trans (by simp [List.map_append, List.map_take, List.map_drop, irow, brow, zAK, List.map_cons, List.map_nil, zAD, Nd.encs_eq, Nd.enc, zAn, zAh, zAl, zAu, zAv, zAr, zAB, zAd, zAz, zAt, zAQ, zAx, zBx])).symm
 show Tri _ _ _ _
 refine zAi ?_
 have hy := Option.some.inj h
 subst hy
 unfold zAG
 exact ⟨_, Le.refl _ _, rfl, rfl⟩
def zND (n : Nat) (xs : List AV) (r : Ret) : Prop := ∃ (a0 : List UInt8) (y0 : Bool), zEf n a0 = some y0 ∧ xs = [.s (.str a0)] ∧ r = .val (.s (.bool y0))
def zIV : zAy := zAI fun xs r => ∃ n, zND n xs r
theorem zMY : PSound Tryz.prog 72 zIV := by
 have gok : ∀ f s, look? f [(93, zGk), (94, zGl), (95, zG5), (75, zMp), (76, zFV)] = some s → PSound Tryz.prog f s := zAA (by
  simp only [List.forall_mem_cons]
  exact ⟨zJr, zIb, zKx, zOy, zHe, by simp⟩)
 refine zAM tokW Tryz.call72 Tryz.func72 rfl (fun xs r h => by obtain ⟨n, _, _, _, rfl, _⟩ := h; show 1 ≤ 41; decide) 41 rfl ?_
 rintro xs r w0 G0 ⟨n, s1, y0, h, rfl, rfl⟩ _
 rw [zEf] at h
 refine zAb ?_
 refine zAa (by exact tokW) (by exact gok) [] [] rfl ?_
 show Tri _ _ _ _
 refine zAb ?_
 refine zAb ?_
 refine zAa (by exact tokW) (by exact gok) [] [] rfl ?_
 show Tri _ _ _ _
 refine zAe rfl (fun hb => ?_) (fun hb => ?_)
 ·replace h := zAk hb h
  refine zAb ?_
  refine zAa (by exact tokW) (by exact gok) [] [8] rfl ?_
  obtain ⟨c2, hc2, h⟩ := zAc h
  refine And.intro (zBg hc2).1 ?_
  intro v3 hv3
  obtain rfl : (c2.toNat : Int) = v3 := (hv3.trans (zBg hc2).2).symm
  obtain ⟨y4, hy4, h⟩ := zAc h
  refine ⟨_, ⟨_, _, _, hy4, rfl, rfl⟩, ?_⟩
  show Tri _ _ _ _
  refine zAi ?_
  have hy := Option.some.inj h
  subst hy
  unfold zAG
  exact ⟨_, Le.refl _ _, rfl, rfl⟩
 ·replace h := zAj hb h
  refine zAg ?_
  show Tri _ _ _ _
  refine zAb ?_
  refine zAb ?_
  refine zAa (by exact tokW) (by exact gok) [] [] rfl ?_
  show Tri _ _ _ _
  obtain ⟨fl, hl, ho1⟩ := zAc h
  refine zCY (fl := fl) (fun z => match z with | _ => ⟨ofL [(0, .s (.str s1))], fun _ => none, 0⟩) ?_ (fun z σ' hz hle => ?_)
  ·refine zAp (zAJ (X := Nat × Int) (fun y => match y with | (k, i5) => ⟨ofL [(0, .s (.str s1)), (3, .s (.int .i64 i5))], fun _ => none, 0⟩) (fun y => zBv s1 y.1 y.2 = some fl) (fun y => y.1) (n, 0) hl ?_ ?_)
   ·exact (Le.forget _ ⟨rfl, rfl, trivial⟩)
   ·rintro ⟨k, i5⟩ h
    cases k with
    | zero => cases h
    | succ k =>
     replace h : zBv s1 (k+1) i5 = some fl := h
     rw [zBv] at h
     refine zAb ?_
     refine zAb ?_
     refine zAa (by exact tokW) (by exact gok) [] [] rfl ?_
     show Tri _ _ _ _
     refine zAe rfl (fun hb => ?_) (fun hb => ?_)
     ·replace h := zAk hb h
      refine zAg ?_
      show Tri _ _ _ _
      refine zAb ?_
      refine zAp ?_
      refine zAb ?_
      refine zAa (by exact tokW) (by exact gok) [] [18] rfl ?_
      obtain ⟨c6, hc6, h⟩ := zAc h
      refine And.intro (zBg hc6).1 ?_
      intro v7 hv7
      obtain rfl : (c6.toNat : Int) = v7 := (hv7.trans (zBg hc6).2).symm
      obtain ⟨y8, hy8, h⟩ := zAc h
      refine ⟨_, ⟨_, _, hy8, rfl, rfl⟩, ?_⟩
      show Tri _ _ _ _
      refine zAe rfl (fun hb => ?_) (fun hb => ?_)
      ·replace h := zAk hb h
       refine zAb ?_
       refine zAa (by exact tokW) (by exact gok) [] [] rfl ?_
       show Tri _ _ _ _
       refine zAi ?_
       cases h
       replace h : some _ = some _ := ho1
       have hy := Option.some.inj h
       subst hy
       unfold zAG
       exact ⟨_, Le.refl _ _, rfl, rfl⟩
      ·replace h := zAj hb h
       refine zAg ?_
       show Tri _ _ _ _
       refine zAa (by exact tokW) (by exact gok) [] [] rfl ?_
       refine ⟨(k, IntKind.i64.wrap (i5 + 1)), h, (Le.forget _ ⟨rfl, rfl, trivial⟩), Nat.lt_succ_self k⟩
     ·replace h := zAj hb h
      refine zAL ?_
      cases h
      exact ⟨_, rfl, (Le.forget _ ⟨rfl, trivial⟩)⟩
  ·subst hz
   obtain _ := z
   replace h := ho1
   show Tri _ _ _ _
   refine zAm hle ?_
   refine zAb ?_
   obtain ⟨x9, hj, h⟩ := zAc h
   refine zAq ⟨ofL [(2, .s (.bool x9))], fun _ => none, 0⟩ ?_ (fun σ' hle => ?_)
   ·replace h := hj
    refine zAa (by exact tokW) (by exact gok) [] [24, 29, 35] rfl ?_
    intro b hb
    cases b with
    | true =>
     replace h := zAk hb.symm h
     intro b hb
     cases b with
     | true =>
      replace h := zAk hb.symm h
      obtain ⟨y10, hy10, h⟩ := zAc h
      refine ⟨_, ⟨_, hy10, rfl, rfl⟩, ?_⟩
      obtain ⟨y11, hy11, h⟩ := zAc h
      refine ⟨_, ⟨_, _, _, _, hy11, rfl, rfl⟩, ?_⟩
      intro b hb
      cases b with
      | true =>
       replace h := zAk hb.symm h
       obtain ⟨y12, hy12, h⟩ := zAc h
       refine ⟨_, ⟨_, hy12, rfl, rfl⟩, ?_⟩
       obtain ⟨y13, hy13, h⟩ := zAc h
       refine ⟨_, ⟨_, _, _, _, hy13, rfl, rfl⟩, ?_⟩
       cases h
       exact (Le.forget _ ⟨rfl, trivial⟩)
      | false =>
       replace h := zAj hb.symm h
       cases h
       exact (Le.forget _ ⟨rfl, trivial⟩)
     | false =>
      replace h := zAj hb.symm h
      intro b hb
      subst hb
      cases h
      exact (Le.forget _ ⟨rfl, trivial⟩)
    | false =>
     replace h := zAj hb.symm h
     intro b hb
     subst hb
     intro b hb
     subst hb
     cases h
     exact (Le.forget _ ⟨rfl, trivial⟩)
   ·show Tri _ _ _ _
    refine zAm hle ?_
    refine zAi ?_
    have hy := Option.some.inj h
    subst hy
    unfold zAG
    exact ⟨_, Le.refl _ _, rfl, rfl⟩
def zPg (xs : List AV) (r : Ret) : Prop := ∃ (a0 : Int) (y0 : Bool), zEW a0 = some y0 ∧ xs = [.s (.int .u8 a0)] ∧ r = .val (.s (.bool y0))
def zJU : zAy := zAI fun xs r => zPg xs r
theorem zOx : PSound Tryz.prog 96 zJU := by
 have gok : ∀ (f : Nat) (s : zAy), (fun _ => none : Nat → Option zAy) f = some s → PSound Tryz.prog f s := fun _ _ h => by cases h
 refine zAM tokW Tryz.call96 Tryz.func96 rfl (fun xs r h => by obtain ⟨_, _, _, rfl, _⟩ := h; show 1 ≤ 9; decide) 9 rfl ?_
 rintro xs r w0 G0 ⟨c1, y0, h, rfl, rfl⟩ _
 rw [zEW] at h
 refine zAb ?_
 refine zAa (by exact tokW) (by exact gok) [] [] rfl ?_
 show Tri _ _ _ _
 refine zAb ?_
 obtain ⟨x2, hj, h⟩ := zAc h
 refine zAq ⟨ofL [(2, .s (.bool x2))], fun _ => none, 0⟩ ?_ (fun σ' hle => ?_)
 ·replace h := hj
  refine zAa (by exact tokW) (by exact gok) [] [5] rfl ?_
  intro b hb
  cases b with
  | true =>
   replace h := zAk hb.symm h
   cases h
   exact (Le.forget _ ⟨rfl, trivial⟩)
  | false =>
   replace h := zAj hb.symm h
   cases h
   exact (Le.forget _ ⟨rfl, trivial⟩)
 ·show Tri _ _ _ _
  refine zAm hle ?_
  refine zAi ?_
  have hy := Option.some.inj h
  subst hy
  unfold zAG
  exact ⟨_, Le.refl _ _, rfl, rfl⟩
def zNC (n : Nat) (xs : List AV) (r : Ret) : Prop := ∃ (a0 : List UInt8) (y0 : Bool), zEe n a0 = some y0 ∧ xs = [.s (.str a0)] ∧ r = .val (.s (.bool y0))
def zIU : zAy := zAI fun xs r => ∃ n, zNC n xs r
theorem zMX : PSound Tryz.prog 73 zIU := by
 have gok : ∀ f s, look? f [(96, zJU)] = some s → PSound Tryz.prog f s := zAA (by
  simp only [List.forall_mem_cons]
  exact ⟨zOx, by simp⟩)
 refine zAM tokW Tryz.call73 Tryz.func73 rfl (fun xs r h => by obtain ⟨n, _, _, _, rfl, _⟩ := h; show 1 ≤ 45; decide) 45 rfl ?_
 rintro xs r w0 G0 ⟨n, s1, y0, h, rfl, rfl⟩ _
 rw [zEe] at h
 refine zAb ?_
 refine zAa (by exact tokW) (by exact gok) [] [] rfl ?_
 show Tri _ _ _ _
 refine zAb ?_
 refine zAa (by exact tokW) (by exact gok) [] [] rfl ?_
 show Tri _ _ _ _
 refine zAb ?_
 refine zAb ?_
 refine zAa (by exact tokW) (by exact gok) [] [] rfl ?_
 show Tri _ _ _ _
 obtain ⟨fl, hl, ho1⟩ := zAc h
 refine zCY (fl := fl) (fun z => match z with | points4 => ⟨ofL [(0, .s (.str s1)), (3, .s (.int .i64 points4))], fun _ => none, 0⟩) ?_ (fun points4 σ' hz hle => ?_)
 ·refine zAp (zAJ (X := Nat × Int × Int) (fun y => match y with | (k, points2, i3) => ⟨ofL [(0, .s (.str s1)), (3, .s (.int .i64 points2)), (4, .s (.int .i64 i3))], fun _ => none, 0⟩) (fun y => zB2 s1 y.1 y.2.1 y.2.2 = some fl) (fun y => y.1) (n, 0, 0) hl ?_ ?_)
  ·exact (Le.forget _ ⟨rfl, rfl, rfl, trivial⟩)
  ·rintro ⟨k, points2, i3⟩ h
   cases k with
   | zero => cases h
   | succ k =>
    replace h : zB2 s1 (k+1) points2 i3 = some fl := h
    rw [zB2] at h
    refine zAb ?_
    refine zAb ?_
    refine zAa (by exact tokW) (by exact gok) [] [] rfl ?_
    show Tri _ _ _ _
    refine zAe rfl (fun hb => ?_) (fun hb => ?_)
    ·replace h := zAk hb h
     refine zAg ?_
     show Tri _ _ _ _
     refine zAb ?_
     obtain ⟨fl, hj, ho2⟩ := zAc h
     refine zCY (fl := fl) (fun z => match z with | points5 => ⟨ofL [(0, .s (.str s1)), (3, .s (.int .i64 points5)), (4, .s (.int .i64 i3))], fun _ => none, 0⟩) ?_ (fun points5 σ' hz hle => ?_)
     ·replace h := hj
      refine zAp ?_
      refine zAb ?_
      obtain ⟨x6, hj, h⟩ := zAc h
      refine zAq ⟨ofL [(0, .s (.str s1)), (3, .s (.int .i64 points2)), (4, .s (.int .i64 i3)), (25, .s (.bool x6))], fun _ => none, 0⟩ ?_ (fun σ' hle => ?_)
      ·replace h := hj
       refine zAa (by exact tokW) (by exact gok) [] [13, 15, 19] rfl ?_
       obtain ⟨c7, hc7, h⟩ := zAc h
       refine And.intro (zBg hc7).1 ?_
       intro v8 hv8
       obtain rfl : (c7.toNat : Int) = v8 := (hv8.trans (zBg hc7).2).symm
       intro b hb
       cases b with
       | true =>
        replace h := zAk hb.symm h
        intro b hb
        cases b with
        | true =>
         replace h := zAk hb.symm h
         cases h
         exact (Le.forget _ ⟨rfl, rfl, rfl, rfl, trivial⟩)
        | false =>
         replace h := zAj hb.symm h
         cases h
         exact (Le.forget _ ⟨rfl, rfl, rfl, rfl, trivial⟩)
       | false =>
        replace h := zAj hb.symm h
        intro b hb
        subst hb
        cases h
        exact (Le.forget _ ⟨rfl, rfl, rfl, rfl, trivial⟩)
      ·show Tri _ _ _ _
       refine zAm hle ?_
       refine zAe rfl (fun hb => ?_) (fun hb => ?_)
       ·replace h := zAk hb h
        refine zAa (by exact tokW) (by exact gok) [] [] rfl ?_
        cases h
        exact ⟨_, rfl, (Le.forget _ ⟨rfl, rfl, rfl, trivial⟩)⟩
       ·replace h := zAj hb h
        refine zAb ?_
        refine zAa (by exact tokW) (by exact gok) [] [30] rfl ?_
        obtain ⟨c9, hc9, h⟩ := zAc h
        refine And.intro (zBg hc9).1 ?_
        intro v10 hv10
        obtain rfl : (c9.toNat : Int) = v10 := (hv10.trans (zBg hc9).2).symm
        obtain ⟨y11, hy11, h⟩ := zAc h
        refine ⟨_, ⟨_, _, hy11, rfl, rfl⟩, ?_⟩
        show Tri _ _ _ _
        refine zAe rfl (fun hb => ?_) (fun hb => ?_)
        ·replace h := zAk hb h
         refine zAb ?_
         refine zAa (by exact tokW) (by exact gok) [] [] rfl ?_
         show Tri _ _ _ _
         refine zAi ?_
         cases h
         replace h : some _ = some _ := ho2
         cases h
         replace h : some _ = some _ := ho1
         have hy := Option.some.inj h
         subst hy
         unfold zAG
         exact ⟨_, Le.refl _ _, rfl, rfl⟩
        ·replace h := zAj hb h
         refine zAg ?_
         cases h
         exact ⟨_, rfl, (Le.forget _ ⟨rfl, rfl, rfl, trivial⟩)⟩
     ·subst hz
      replace h := ho2
      show Tri _ _ _ _
      refine zAm hle ?_
      refine zAa (by exact tokW) (by exact gok) [] [] rfl ?_
      refine ⟨(k, points5, IntKind.i64.wrap (i3 + 1)), h, (Le.forget _ ⟨rfl, rfl, rfl, trivial⟩), Nat.lt_succ_self k⟩
    ·replace h := zAj hb h
     refine zAL ?_
     cases h
     exact ⟨_, rfl, (Le.forget _ ⟨rfl, rfl, trivial⟩)⟩
 ·subst hz
  replace h := ho1
  show Tri _ _ _ _
  refine zAm hle ?_
  refine zAb ?_
  obtain ⟨x12, hj, h⟩ := zAc h
  refine zAq ⟨ofL [(2, .s (.bool x12))], fun _ => none, 0⟩ ?_ (fun σ' hle => ?_)
  ·replace h := hj
   refine zAa (by exact tokW) (by exact gok) [] [36, 41] rfl ?_
   intro b hb
   cases b with
   | true =>
    replace h := zAk hb.symm h
    intro b hb
    cases b with
    | true =>
     replace h := zAk hb.symm h
     cases h
     exact (Le.forget _ ⟨rfl, trivial⟩)
    | false =>
     replace h := zAj hb.symm h
     cases h
     exact (Le.forget _ ⟨rfl, trivial⟩)
   | false =>
    replace h := zAj hb.symm h
    intro b hb
    subst hb
    cases h
    exact (Le.forget _ ⟨rfl, trivial⟩)
  ·show Tri _ _ _ _
   refine zAm hle ?_
   refine zAi ?_
   have hy := Option.some.inj h
   subst hy
   unfold zAG
   exact ⟨_, Le.refl _ _, rfl, rfl⟩
def zJL (n : Nat) (xs : List AV) (r : Ret) : Prop := ∃ (a0 : List UInt8) (y0 : Bool), zCV n a0 = some y0 ∧ xs = [.s (.str a0)] ∧ r = .val (.s (.bool y0))
def zGm : zAy := zAI fun xs r => ∃ n, zJL n xs r
theorem zJs : PSound Tryz.prog 74 zGm := by
 have gok : ∀ (f : Nat) (s : zAy), (fun _ => none : Nat → Option zAy) f = some s → PSound Tryz.prog f s := fun _ _ h => by cases h
 refine zAM tokW Tryz.call74 Tryz.func74 rfl (fun xs r h => by obtain ⟨n, _, _, _, rfl, _⟩ := h; show 1 ≤ 20; decide) 20 rfl ?_
 rintro xs r w0 G0 ⟨n, s1, y0, h, rfl, rfl⟩ _
 rw [zCV] at h
 refine zAb ?_
 refine zAa (by exact tokW) (by exact gok) [] [] rfl ?_
 show Tri _ _ _ _
 refine zAb ?_
 refine zAb ?_
 refine zAa (by exact tokW) (by exact gok) [] [] rfl ?_
 show Tri _ _ _ _
 obtain ⟨fl, hl, ho1⟩ := zAc h
 refine zCY (fl := fl) (fun z => match z with | _ => ⟨ofL [], fun _ => none, 0⟩) ?_ (fun z σ' hz hle => ?_)
 ·refine zAp (zAJ (X := Nat × Int) (fun y => match y with | (k, i2) => ⟨ofL [(0, .s (.str s1)), (3, .s (.int .i64 i2))], fun _ => none, 0⟩) (fun y => zBk s1 y.1 y.2 = some fl) (fun y => y.1) (n, 0) hl ?_ ?_)
  ·exact (Le.forget _ ⟨rfl, rfl, trivial⟩)
  ·rintro ⟨k, i2⟩ h
   cases k with
   | zero => cases h
   | succ k =>
    replace h : zBk s1 (k+1) i2 = some fl := h
    rw [zBk] at h
    refine zAb ?_
    refine zAb ?_
    refine zAa (by exact tokW) (by exact gok) [] [] rfl ?_
    show Tri _ _ _ _
    refine zAe rfl (fun hb => ?_) (fun hb => ?_)
    ·replace h := zAk hb h
     refine zAg ?_
     show Tri _ _ _ _
     refine zAb ?_
     refine zAp ?_
     refine zAb ?_
     obtain ⟨x3, hj, h⟩ := zAc h
     refine zAq ⟨ofL [(0, .s (.str s1)), (3, .s (.int .i64 i2)), (19, .s (.bool x3))], fun _ => none, 0⟩ ?_ (fun σ' hle => ?_)
     ·replace h := hj
      refine zAa (by exact tokW) (by exact gok) [] [12, 14, 17] rfl ?_
      obtain ⟨c4, hc4, h⟩ := zAc h
      refine And.intro (zBg hc4).1 ?_
      intro v5 hv5
      obtain rfl : (c4.toNat : Int) = v5 := (hv5.trans (zBg hc4).2).symm
      intro b hb
      cases b with
      | true =>
       replace h := zAk hb.symm h
       cases h
       exact (Le.forget _ ⟨rfl, rfl, rfl, trivial⟩)
      | false =>
       replace h := zAj hb.symm h
       obtain ⟨c6, hc6, h⟩ := zAc h
       refine And.intro (zBg hc6).1 ?_
       intro v7 hv7
       obtain rfl : (c6.toNat : Int) = v7 := (hv7.trans (zBg hc6).2).symm
       cases h
       exact (Le.forget _ ⟨rfl, rfl, rfl, trivial⟩)
     ·show Tri _ _ _ _
      refine zAm hle ?_
      refine zAe rfl (fun hb => ?_) (fun hb => ?_)
      ·replace h := zAk hb h
       refine zAb ?_
       refine zAa (by exact tokW) (by exact gok) [] [] rfl ?_
       show Tri _ _ _ _
       refine zAi ?_
       cases h
       replace h : some _ = some _ := ho1
       have hy := Option.some.inj h
       subst hy
       unfold zAG
       exact ⟨_, Le.refl _ _, rfl, rfl⟩
      ·replace h := zAj hb h
       refine zAg ?_
       show Tri _ _ _ _
       refine zAa (by exact tokW) (by exact gok) [] [] rfl ?_
       refine ⟨(k, IntKind.i64.wrap (i2 + 1)), h, (Le.forget _ ⟨rfl, rfl, trivial⟩), Nat.lt_succ_self k⟩
    ·replace h := zAj hb h
     refine zAL ?_
     cases h
     exact ⟨_, rfl, (Le.forget _ trivial)⟩
 ·subst hz
  obtain _ := z
  replace h := ho1
  show Tri _ _ _ _
  refine zAm hle ?_
  refine zAb ?_
  refine zAa (by exact tokW) (by exact gok) [] [] rfl ?_
  show Tri _ _ _ _
  refine zAi ?_
  have hy := Option.some.inj h
  subst hy
  unfold zAG
  exact ⟨_, Le.refl _ _, rfl, rfl⟩
def zQD (n : Nat) (xs : List AV) (r : Ret) : Prop := ∃ (a0 : Nd) (y0 : Bool), zFN n a0 = some y0 ∧ xs = [.agg ((Nd.enc a0).map .s)] ∧ r = .val (.s (.bool y0))
def zLz : zAy := zAI fun xs r => ∃ n, zQD n xs r
theorem zPH : PSound Tryz.prog 47 zLz := by
 have gok : ∀ f s, look? f [(72, zIV), (73, zIU), (74, zGm), (76, zFV), (75, zMp), (77, zJV)] = some s → PSound Tryz.prog f s := zAA (by
  simp only [List.forall_mem_cons]
  exact ⟨zMY, zMX, zJs, zHe, zOy, zLX, by simp⟩)
 refine zAM tokW Tryz.call47 Tryz.func47 rfl (fun xs r h => by obtain ⟨n, _, _, _, rfl, _⟩ := h; show 1 ≤ 53; decide) 53 rfl ?_
 rintro xs r w0 G0 ⟨n, ⟨n1_kind, n1_text, n1_cols, n1_kids⟩, y0, h, rfl, rfl⟩ _
 rw [zFN] at h
 refine zAb ?_
 refine zAa (by exact tokW) (by exact gok) [] [] rfl ?_
 show Tri _ _ _ _
 refine zAb ?_
 refine zAb ?_
 refine zAa (by exact tokW) (by exact gok) [] [] rfl ?_
 show Tri _ _ _ _
 refine zAp ?_
 refine zAb ?_
 refine zAa (by exact tokW) (by exact gok) [] [] rfl ?_
 show Tri _ _ _ _
 refine zAe rfl (fun hb => ?_) (fun hb => ?_)
 ·replace h := zAk hb h
  refine zAb ?_
  refine zAa (by exact tokW) (by exact gok) [] [] rfl ?_
  obtain ⟨y2, hy2, h⟩ := zAc h
  refine ⟨_, ⟨_, _, _, hy2, rfl, rfl⟩, ?_⟩
  show Tri _ _ _ _
  refine zAi ?_
  have hy := Option.some.inj h
  subst hy
  unfold zAG
  exact ⟨_, Le.refl _ _, rfl, rfl⟩
 ·replace h := zAj hb h
  refine zAb ?_
  refine zAa (by exact tokW) (by exact gok) [] [] rfl ?_
  show Tri _ _ _ _
  refine zAe rfl (fun hb => ?_) (fun hb => ?_)
  ·replace h := zAk hb h
   refine zAb ?_
   refine zAa (by exact tokW) (by exact gok) [] [] rfl ?_
   obtain ⟨y3, hy3, h⟩ := zAc h
   refine ⟨_, ⟨_, _, _, hy3, rfl, rfl⟩, ?_⟩
   show Tri _ _ _ _
   refine zAi ?_
   have hy := Option.some.inj h
   subst hy
   unfold zAG
   exact ⟨_, Le.refl _ _, rfl, rfl⟩
  ·replace h := zAj hb h
   refine zAb ?_
   refine zAa (by exact tokW) (by exact gok) [] [] rfl ?_
   show Tri _ _ _ _
   refine zAe rfl (fun hb => ?_) (fun hb => ?_)
   ·replace h := zAk hb h
    refine zAb ?_
    obtain ⟨x4, hj, h⟩ := zAc h
    refine zAq ⟨ofL [(2, .s (.bool x4))], fun _ => none, 0⟩ ?_ (fun σ' hle => ?_)
    ·replace h := hj
     refine zAa (by exact tokW) (by exact gok) [] [21] rfl ?_
     intro b hb
     cases b with
     | true =>
      replace h := zAk hb.symm h
      obtain ⟨y5, hy5, h⟩ := zAc h
      refine ⟨_, ⟨_, _, _, hy5, rfl, rfl⟩, ?_⟩
      cases h
      exact (Le.forget _ ⟨rfl, trivial⟩)
     | false =>
      replace h := zAj hb.symm h
      cases h
      exact (Le.forget _ ⟨rfl, trivial⟩)
    ·show Tri _ _ _ _
     refine zAm hle ?_
     refine zAi ?_
     have hy := Option.some.inj h
     subst hy
     unfold zAG
     exact ⟨_, Le.refl _ _, rfl, rfl⟩
   ·replace h := zAj hb h
    refine zAb ?_
    refine zAa (by exact tokW) (by exact gok) [] [] rfl ?_
    show Tri _ _ _ _
    refine zAe rfl (fun hb => ?_) (fun hb => ?_)
    ·replace h := zAk hb h
     refine zAb ?_
     refine zAC (by exact tokW) (by exact gok) (by exact mixed) [] [] [] rfl (by decide +kernel) ?_
     obtain ⟨y6, hy6, h⟩ := zAc h
     refine ⟨_, ⟨_, hy6, rfl, rfl⟩, ?_⟩
     obtain ⟨y7, hy7, h⟩ := zAc h
     refine ⟨_, ⟨_, _, _, _, hy7, rfl, rfl⟩, ?_⟩
     show Tri _ _ _ _
     refine zAi ?_
     have hy := Option.some.inj h
     subst hy
     unfold zAG
     exact ⟨_, Le.refl _ _, rfl, rfl⟩
    ·replace h := zAj hb h
     refine zAb ?_
     refine zAa (by exact tokW) (by exact gok) [] [] rfl ?_
     show Tri _ _ _ _
     refine zAe rfl (fun hb => ?_) (fun hb => ?_)
     ·replace h := zAk hb h
      refine zAb ?_
      obtain ⟨x8, hj, h⟩ := zAc h
      refine zAq ⟨ofL [(2, .s (.bool x8))], fun _ => none, 0⟩ ?_ (fun σ' hle => ?_)
      ·replace h := hj
       refine zAa (by exact tokW) (by exact gok) [] [38, 41, 44, 47] rfl ?_
       intro b hb
       cases b with
       | true =>
        replace h := zAk hb.symm h
        obtain ⟨c9, hc9, h⟩ := zAc h
        refine And.intro (zBg hc9).1 ?_
        intro v10 hv10
        obtain rfl : (c9.toNat : Int) = v10 := (hv10.trans (zBg hc9).2).symm
        obtain ⟨y11, hy11, h⟩ := zAc h
        refine ⟨_, ⟨_, _, _, _, hy11, rfl, rfl⟩, ?_⟩
        intro b hb
        cases b with
        | true =>
         replace h := zAk hb.symm h
         obtain ⟨c12, hc12, h⟩ := zAc h
         refine And.intro (zBg hc12).1 ?_
         intro v13 hv13
         obtain rfl : (c12.toNat : Int) = v13 := (hv13.trans (zBg hc12).2).symm
         obtain ⟨y14, hy14, h⟩ := zAc h
         refine ⟨_, ⟨_, _, _, _, hy14, rfl, rfl⟩, ?_⟩
         cases h
         exact (Le.forget _ ⟨rfl, trivial⟩)
        | false =>
         replace h := zAj hb.symm h
         cases h
         exact (Le.forget _ ⟨rfl, trivial⟩)
       | false =>
        replace h := zAj hb.symm h
        intro b hb
        subst hb
        cases h
        exact (Le.forget _ ⟨rfl, trivial⟩)
      ·show Tri _ _ _ _
       refine zAm hle ?_
       refine zAi ?_
       have hy := Option.some.inj h
       subst hy
       unfold zAG
       exact ⟨_, Le.refl _ _, rfl, rfl⟩
     ·replace h := zAj hb h
      refine zAg ?_
      show Tri _ _ _ _
      refine zAb ?_
      refine zAa (by exact tokW) (by exact gok) [] [] rfl ?_
      show Tri _ _ _ _
      refine zAi ?_
      have hy := Option.some.inj h
      subst hy
      unfold zAG
      exact ⟨_, Le.refl _ _, rfl, rfl⟩
def zQC (xs : List AV) (r : Ret) : Prop := ∃ (a0 : Nd) (y0 : Bool), zFM a0 = some y0 ∧ xs = [.agg ((Nd.enc a0).map .s)] ∧ r = .val (.s (.bool y0))
def zLx : zAy := zAI fun xs r => zQC xs r
theorem zPF : PSound Tryz.prog 48 zLx := by
 have gok : ∀ (f : Nat) (s : zAy), (fun _ => none : Nat → Option zAy) f = some s → PSound Tryz.prog f s := fun _ _ h => by cases h
 refine zAM tokW Tryz.call48 Tryz.func48 rfl (fun xs r h => by obtain ⟨_, _, _, rfl, _⟩ := h; show 1 ≤ 64; decide) 64 rfl ?_
 rintro xs r w0 G0 ⟨⟨n1_kind, n1_text, n1_cols, n1_kids⟩, y0, h, rfl, rfl⟩ _
 rw [zFM] at h
 refine zAb ?_
 refine zAa (by exact tokW) (by exact gok) [] [] rfl ?_
 show Tri _ _ _ _
 refine zAb ?_
 refine zAa (by exact tokW) (by exact gok) [] [6] rfl ?_
 intro n2 hn2
 obtain rfl : (n1_kids.length : Int) = n2 := (hn2.trans (congrArg (fun m : Nat => (m : Int)) (rlen Nd.encs_eq n1_kids))).symm
 show Tri _ _ _ _
 refine zAb ?_
 refine zAb ?_
 refine zAa (by exact tokW) (by exact gok) [] [] rfl ?_
 show Tri _ _ _ _
 refine zAe rfl (fun hb => ?_) (fun hb => ?_)
 ·replace h := zAk hb h
  refine zAb ?_
  obtain ⟨x3, hj, h⟩ := zAc h
  refine zAq ⟨ofL [(2, .s (.bool x3))], fun _ => none, 0⟩ ?_ (fun σ' hle => ?_)
  ·replace h := hj
   refine zAa (by exact tokW) (by exact gok) [] [13, 18, 22, 26] rfl ?_
   intro b hb
   cases b with
   | true =>
    replace h := zAk hb.symm h
    intro b hb
    cases b with
    | true =>
     replace h := zAk hb.symm h
     intro b hb
     cases b with
     | true =>
      replace h := zAk hb.symm h
      intro b hb
      cases b with
      | true =>
       replace h := zAk hb.symm h
       obtain ⟨hq, h⟩ := zAN h
       refine And.intro hq ?_
       cases h
       exact (Le.forget _ ⟨rfl, trivial⟩)
      | false =>
       replace h := zAj hb.symm h
       cases h
       exact (Le.forget _ ⟨rfl, trivial⟩)
     | false =>
      replace h := zAj hb.symm h
      intro b hb
      subst hb
      cases h
      exact (Le.forget _ ⟨rfl, trivial⟩)
    | false =>
     replace h := zAj hb.symm h
     intro b hb
     subst hb
     intro b hb
     subst hb
     cases h
     exact (Le.forget _ ⟨rfl, trivial⟩)
   | false =>
    replace h := zAj hb.symm h
    intro b hb
    subst hb
    intro b hb
    subst hb
    intro b hb
    subst hb
    cases h
    exact (Le.forget _ ⟨rfl, trivial⟩)
  ·show Tri _ _ _ _
   refine zAm hle ?_
   refine zAi ?_
   have hy := Option.some.inj h
   subst hy
   unfold zAG
   exact ⟨_, Le.refl _ _, rfl, rfl⟩
 ·replace h := zAj hb h
  refine zAg ?_
  show Tri _ _ _ _
  refine zAb ?_
  refine zAb ?_
  refine zAa (by exact tokW) (by exact gok) [] [] rfl ?_
  show Tri _ _ _ _
  refine zAe rfl (fun hb => ?_) (fun hb => ?_)
  ·replace h := zAk hb h
   refine zAb ?_
   refine zAa (by exact tokW) (by exact gok) [] [] rfl ?_
   show Tri _ _ _ _
   refine zAi ?_
   have hy := Option.some.inj h
   subst hy
   unfold zAG
   exact ⟨_, Le.refl _ _, rfl, rfl⟩
  ·replace h := zAj hb h
   refine zAg ?_
   show Tri _ _ _ _
   refine zAb ?_
   refine zAb ?_
   refine zAa (by exact tokW) (by exact gok) [] [] rfl ?_
   show Tri _ _ _ _
   obtain ⟨fl, hj, ho1⟩ := zAc h
   refine zCY (fl := fl) (fun z => match z with | _ => ⟨ofL [], fun _ => none, 0⟩) ?_ (fun z σ' hz hle => ?_)
   ·replace h := hj
    refine zAp ?_
    refine zAb ?_
    refine zAa (by exact tokW) (by exact gok) [] [] rfl ?_
    show Tri _ _ _ _
    refine zAe rfl (fun hb => ?_) (fun hb => ?_)
    ·replace h := zAk hb h
     refine zAb ?_
     refine zAa (by exact tokW) (by exact gok) [] [] rfl ?_
     show Tri _ _ _ _
     refine zAi ?_
     cases h
     replace h : some _ = some _ := ho1
     have hy := Option.some.inj h
     subst hy
     unfold zAG
     exact ⟨_, Le.refl _ _, rfl, rfl⟩
    ·replace h := zAj hb h
     refine zAb ?_
     refine zAb ?_
     refine zAa (by exact tokW) (by exact gok) [] [] rfl ?_
     show Tri _ _ _ _
     obtain ⟨x4, hj, h⟩ := zAc h
     refine zAq ⟨ofL [(3, .s (.int .i64 (n1_kids.length : Int))), (37, .s (.int .i64 n1_kind)), (42, .s (.bool x4))], fun _ => none, 0⟩ ?_ (fun σ' hle => ?_)
     ·replace h := hj
      refine zAe rfl (fun hb => ?_) (fun hb => ?_)
      ·replace h := zAk hb h
       refine zAg ?_
       cases h
       exact (Le.forget _ ⟨rfl, rfl, rfl, trivial⟩)
      ·replace h := zAj hb h
       refine zAb ?_
       refine zAa (by exact tokW) (by exact gok) [] [] rfl ?_
       show Tri _ _ _ _
       refine zAe rfl (fun hb => ?_) (fun hb => ?_)
       ·replace h := zAk hb h
        refine zAg ?_
        cases h
        exact (Le.forget _ ⟨rfl, rfl, rfl, trivial⟩)
       ·replace h := zAj hb h
        refine zAa (by exact tokW) (by exact gok) [] [] rfl ?_
        cases h
        exact (Le.forget _ ⟨rfl, rfl, rfl, trivial⟩)
     ·show Tri _ _ _ _
      refine zAm hle ?_
      refine zAe rfl (fun hb => ?_) (fun hb => ?_)
      ·replace h := zAk hb h
       refine zAb ?_
       refine zAa (by exact tokW) (by exact gok) [] [] rfl ?_
       show Tri _ _ _ _
       refine zAi ?_
       cases h
       replace h : some _ = some _ := ho1
       have hy := Option.some.inj h
       subst hy
       unfold zAG
       exact ⟨_, Le.refl _ _, rfl, rfl⟩
      ·replace h := zAj hb h
       refine zAb ?_
       refine zAb ?_
       refine zAa (by exact tokW) (by exact gok) [] [] rfl ?_
       show Tri _ _ _ _
       obtain ⟨x5, hj, h⟩ := zAc h
       refine zAq ⟨ofL [(3, .s (.int .i64 (n1_kids.length : Int))), (37, .s (.int .i64 n1_kind)), (48, .s (.bool x5))], fun _ => none, 0⟩ ?_ (fun σ' hle => ?_)
       ·replace h := hj
        refine zAe rfl (fun hb => ?_) (fun hb => ?_)
        ·replace h := zAk hb h
         refine zAg ?_
         cases h
         exact (Le.forget _ ⟨rfl, rfl, rfl, trivial⟩)
        ·replace h := zAj hb h
         refine zAb ?_
         refine zAa (by exact tokW) (by exact gok) [] [] rfl ?_
         show Tri _ _ _ _
         refine zAe rfl (fun hb => ?_) (fun hb => ?_)
         ·replace h := zAk hb h
          refine zAg ?_
          cases h
          exact (Le.forget _ ⟨rfl, rfl, rfl, trivial⟩)
         ·replace h := zAj hb h
          refine zAb ?_
          refine zAa (by exact tokW) (by exact gok) [] [] rfl ?_
          show Tri _ _ _ _
          refine zAe rfl (fun hb => ?_) (fun hb => ?_)
          ·replace h := zAk hb h
           refine zAg ?_
           cases h
           exact (Le.forget _ ⟨rfl, rfl, rfl, trivial⟩)
          ·replace h := zAj hb h
           refine zAa (by exact tokW) (by exact gok) [] [] rfl ?_
           cases h
           exact (Le.forget _ ⟨rfl, rfl, rfl, trivial⟩)
       ·show Tri _ _ _ _
        refine zAm hle ?_
        refine zAe rfl (fun hb => ?_) (fun hb => ?_)
        ·replace h := zAk hb h
         refine zAb ?_
         refine zAa (by exact tokW) (by exact gok) [] [] rfl ?_
         show Tri _ _ _ _
         refine zAi ?_
         cases h
         replace h : some _ = some _ := ho1
         have hy := Option.some.inj h
         subst hy
         unfold zAG
         exact ⟨_, Le.refl _ _, rfl, rfl⟩
        ·replace h := zAj hb h
         refine zAb ?_
         refine zAa (by exact tokW) (by exact gok) [] [] rfl ?_
         show Tri _ _ _ _
         refine zAe rfl (fun hb => ?_) (fun hb => ?_)
         ·replace h := zAk hb h
          refine zAb ?_
          refine zAa (by exact tokW) (by exact gok) [] [] rfl ?_
          show Tri _ _ _ _
          refine zAi ?_
          cases h
          replace h : some _ = some _ := ho1
          have hy := Option.some.inj h
          subst hy
          unfold zAG
          exact ⟨_, Le.refl _ _, rfl, rfl⟩
         ·replace h := zAj hb h
          refine zAb ?_
          refine zAb ?_
          refine zAa (by exact tokW) (by exact gok) [] [] rfl ?_
          show Tri _ _ _ _
          obtain ⟨x6, hj, h⟩ := zAc h
          refine zAq ⟨ofL [(3, .s (.int .i64 (n1_kids.length : Int))), (59, .s (.bool x6))], fun _ => none, 0⟩ ?_ (fun σ' hle => ?_)
          ·replace h := hj
           refine zAe rfl (fun hb => ?_) (fun hb => ?_)
           ·replace h := zAk hb h
            refine zAg ?_
            cases h
            exact (Le.forget _ ⟨rfl, rfl, trivial⟩)
           ·replace h := zAj hb h
            refine zAa (by exact tokW) (by exact gok) [] [] rfl ?_
            cases h
            exact (Le.forget _ ⟨rfl, rfl, trivial⟩)
          ·show Tri _ _ _ _
           refine zAm hle ?_
           refine zAe rfl (fun hb => ?_) (fun hb => ?_)
           ·replace h := zAk hb h
            refine zAb ?_
            refine zAa (by exact tokW) (by exact gok) [] [] rfl ?_
            show Tri _ _ _ _
            refine zAi ?_
            cases h
            replace h : some _ = some _ := ho1
            have hy := Option.some.inj h
            subst hy
            unfold zAG
            exact ⟨_, Le.refl _ _, rfl, rfl⟩
           ·replace h := zAj hb h
            refine zAg ?_
            cases h
            exact ⟨_, rfl, (Le.forget _ trivial)⟩
   ·subst hz
    obtain _ := z
    replace h := ho1
    show Tri _ _ _ _
    refine zAm hle ?_
    refine zAb ?_
    refine zAa (by exact tokW) (by exact gok) [] [] rfl ?_
    show Tri _ _ _ _
    refine zAi ?_
    have hy := Option.some.inj h
    subst hy
    unfold zAG
    exact ⟨_, Le.refl _ _, rfl, rfl⟩
def zFy (n : Nat) (xs : List AV) (r : Ret) : Prop := ∃ (a0 : Nd) (y0 : Bool), zDb n a0 = some y0 ∧ xs = [.agg ((Nd.enc a0).map .s)] ∧ r = .val (.s (.bool y0))
theorem zNf (n : Nat) (ih : PSound Tryz.prog 31 (zAI (zFy n))) : PSound Tryz.prog 31 (zAI (zFy (n + 1))) := by
 have gok : ∀ f s, look? f [(47, zLz), (48, zLx), (31, zAI (zFy n))] = some s → PSound Tryz.prog f s := zAA (by
  simp only [List.forall_mem_cons]
  exact ⟨zPH, zPF, ih, by simp⟩)
 refine zAM tokW Tryz.call31 Tryz.func31 rfl (fun xs r h => by obtain ⟨_, _, _, rfl, _⟩ := h; show 1 ≤ 39; decide) 39 rfl ?_
 rintro xs r w0 G0 ⟨⟨n1_kind, n1_text, n1_cols, n1_kids⟩, y0, h, rfl, rfl⟩ _
 rw [zDb] at h
 refine zAb ?_
 refine zAa (by exact tokW) (by exact gok) [] [] rfl ?_
 show Tri _ _ _ _
 refine zAb ?_
 refine zAb ?_
 obtain ⟨x2, hj, h⟩ := zAc h
 refine zAq ⟨ofL [(1, .s (.pt [.int .i64 n1_kind, .str n1_text, .int .i64 n1_cols, .sl 4 (Nd.encs n1_kids)])), (11, .s (.bool x2))], fun _ => none, 0⟩ ?_ (fun σ' hle => ?_)
 ·replace h := hj
  refine zAa (by exact tokW) (by exact gok) [] [7] rfl ?_
  obtain ⟨y3, hy3, h⟩ := zAc h
  refine ⟨_, ⟨_, _, _, hy3, rfl, rfl⟩, ?_⟩
  intro b hb
  cases b with
  | true =>
   replace h := zAk hb.symm h
   cases h
   exact (Le.forget _ ⟨rfl, rfl, trivial⟩)
  | false =>
   replace h := zAj hb.symm h
   obtain ⟨y4, hy4, h⟩ := zAc h
   refine ⟨_, ⟨_, _, hy4, rfl, rfl⟩, ?_⟩
   cases h
   exact (Le.forget _ ⟨rfl, rfl, trivial⟩)
 ·show Tri _ _ _ _
  refine zAm hle ?_
  refine zAe rfl (fun hb => ?_) (fun hb => ?_)
  ·replace h := zAk hb h
   refine zAb ?_
   refine zAa (by exact tokW) (by exact gok) [] [] rfl ?_
   show Tri _ _ _ _
   refine zAi ?_
   have hy := Option.some.inj h
   subst hy
   unfold zAG
   exact ⟨_, Le.refl _ _, rfl, rfl⟩
  ·replace h := zAj hb h
   refine zAg ?_
   show Tri _ _ _ _
   refine zAb ?_
   refine zAb ?_
   refine zAa (by exact tokW) (by exact gok) [] [] rfl ?_
   show Tri _ _ _ _
   obtain ⟨fl, hl, ho1⟩ := zAc h
   refine zCY (fl := fl) (fun z => match z with | _ => ⟨ofL [], fun _ => none, 0⟩) ?_ (fun z σ' hz hle => ?_)
   ·refine zAp (zAJ (X := Nat × Int) (fun y => match y with | (k, i5) => ⟨ofL [(1, .s (.pt [.int .i64 n1_kind, .str n1_text, .int .i64 n1_cols, .sl 4 (Nd.encs n1_kids)])), (3, .s (.int .i64 i5))], fun _ => none, 0⟩) (fun y => zCA (zDb n) n1_kind n1_kids y.1 y.2 = some fl) (fun y => y.1) (n, 0) hl ?_ ?_)
    ·exact (Le.forget _ ⟨rfl, rfl, trivial⟩)
    ·rintro ⟨k, i5⟩ h
     cases k with
     | zero => cases h
     | succ k =>
      replace h : zCA (zDb n) n1_kind n1_kids (k+1) i5 = some fl := h
      rw [zCA] at h
      refine zAb ?_
      refine zAb ?_
      refine zAa (by exact tokW) (by exact gok) [] [15] rfl ?_
      intro n6 hn6
      obtain rfl : (n1_kids.length : Int) = n6 := (hn6.trans (congrArg (fun m : Nat => (m : Int)) (rlen Nd.encs_eq n1_kids))).symm
      show Tri _ _ _ _
      refine zAe rfl (fun hb => ?_) (fun hb => ?_)
      ·replace h := zAk hb h
       refine zAg ?_
       show Tri _ _ _ _
       refine zAb ?_
       refine zAp ?_
       refine zAb ?_
       obtain ⟨x7, hj, h⟩ := zAc h
       refine zAq ⟨ofL [(1, .s (.pt [.int .i64 n1_kind, .str n1_text, .int .i64 n1_cols, .sl 4 (Nd.encs n1_kids)])), (3, .s (.int .i64 i5)), (38, .s (.bool x7))], fun _ => none, 0⟩ ?_ (fun σ' hle => ?_)
       ·replace h := hj
        refine zAC (by exact tokW) (by exact gok) (by exact mixed) [] [22, 30, 34] [] rfl (by decide +kernel) ?_
        obtain ⟨⟨e8_kind, e8_text, e8_cols, e8_kids⟩, he8, h⟩ := zAc h
        refine And.intro (zAw Nd.encs_eq he8).1 ?_
        intro r9 hr9
        obtain rfl : [.int .i64 e8_kind, .str e8_text, .int .i64 e8_cols, .sl 4 (Nd.encs e8_kids)] = r9 := (hr9.trans (zAw Nd.encs_eq he8).2.1).symm
        intro b hb
        cases b with
        | true =>
         replace h := zAk hb.symm h
         cases h
         exact (Le.forget _ ⟨rfl, rfl, rfl, trivial⟩)
        | false =>
         replace h := zAj hb.symm h
         obtain ⟨⟨e10_kind, e10_text, e10_cols, e10_kids⟩, he10, h⟩ := zAc h
         refine And.intro (zAw Nd.encs_eq he10).1 ?_
         intro r11 hr11
         obtain rfl : [.int .i64 e10_kind, .str e10_text, .int .i64 e10_cols, .sl 4 (Nd.encs e10_kids)] = r11 := (hr11.trans (zAw Nd.encs_eq he10).2.1).symm
         obtain ⟨y12, hy12, h⟩ := zAc h
         refine ⟨_, ⟨_, _, hy12, rfl, rfl⟩, ?_⟩
         cases h
         exact (Le.forget _ ⟨rfl, rfl, rfl, trivial⟩)
       ·show Tri _ _ _ _
        refine zAm hle ?_
        refine zAe rfl (fun hb => ?_) (fun hb => ?_)
        ·replace h := zAk hb h
         refine zAb ?_
         refine zAa (by exact tokW) (by exact gok) [] [] rfl ?_
         show Tri _ _ _ _
         refine zAi ?_
         cases h
         replace h : some _ = some _ := ho1
         have hy := Option.some.inj h
         subst hy
         unfold zAG
         exact ⟨_, Le.refl _ _, rfl, rfl⟩
        ·replace h := zAj hb h
         refine zAg ?_
         show Tri _ _ _ _
         refine zAa (by exact tokW) (by exact gok) [] [] rfl ?_
         refine ⟨(k, IntKind.i64.wrap (i5 + 1)), h, (Le.forget _ ⟨rfl, rfl, trivial⟩), Nat.lt_succ_self k⟩
      ·replace h := zAj hb h
       refine zAL ?_
       cases h
       exact ⟨_, rfl, (Le.forget _ trivial)⟩
   ·subst hz
    obtain _ := z
    replace h := ho1
    show Tri _ _ _ _
    refine zAm hle ?_
    refine zAb ?_
    refine zAa (by exact tokW) (by exact gok) [] [] rfl ?_
    show Tri _ _ _ _
    refine zAi ?_
    have hy := Option.some.inj h
    subst hy
    unfold zAG
    exact ⟨_, Le.refl _ _, rfl, rfl⟩
theorem zNO : ∀ n, PSound Tryz.prog 31 (zAI (zFy n)) := by
 intro n
 induction n with
 | zero => exact zB5 Tryz.call31 (fun xs r h => by obtain ⟨_, _, h, _⟩ := h; cases h)
 | succ n ih => exact zNf n ih
def zLw : zAy := zAI fun xs r => ∃ n, zFy n xs r
theorem zPE : PSound Tryz.prog 31 zLw := zDe zNO
def zEE (n : Nat) (xs : List AV) (r : Ret) : Prop := ∃ (a0 : Nd) (y0 : Int), zCx n a0 = some y0 ∧ xs = [.agg ((Nd.enc a0).map .s)] ∧ r = .val (.s (.int .i64 y0))
theorem zLp (n : Nat) (ih : PSound Tryz.prog 32 (zAI (zEE n))) : PSound Tryz.prog 32 (zAI (zEE (n + 1))) := by
 have gok : ∀ f s, look? f [(32, zAI (zEE n))] = some s → PSound Tryz.prog f s := zAA (by
  simp only [List.forall_mem_cons]
  exact ⟨ih, by simp⟩)
 refine zAM tokW Tryz.call32 Tryz.func32 rfl (fun xs r h => by obtain ⟨_, _, _, rfl, _⟩ := h; show 1 ≤ 21; decide) 21 rfl ?_
 rintro xs r w0 G0 ⟨⟨n1_kind, n1_text, n1_cols, n1_kids⟩, y0, h, rfl, rfl⟩ _
 rw [zCx] at h
 refine zAb ?_
 refine zAa (by exact tokW) (by exact gok) [] [] rfl ?_
 show Tri _ _ _ _
 refine zAb ?_
 refine zAa (by exact tokW) (by exact gok) [] [] rfl ?_
 show Tri _ _ _ _
 refine zAb ?_
 refine zAb ?_
 refine zAa (by exact tokW) (by exact gok) [] [] rfl ?_
 show Tri _ _ _ _
 obtain ⟨out4, hl, h⟩ := zAc h
 refine zAq ⟨ofL [(3, .s (.int .i64 out4))], fun _ => none, 0⟩ ?_ (fun σ' hle => ?_)
 ·refine zAp (zAJ (X := Nat × Int × Int) (fun y => match y with | (k, out2, i3) => ⟨ofL [(1, .s (.pt [.int .i64 n1_kind, .str n1_text, .int .i64 n1_cols, .sl 4 (Nd.encs n1_kids)])), (3, .s (.int .i64 out2)), (4, .s (.int .i64 i3))], fun _ => none, 0⟩) (fun y => zCj (zCx n) n1_kids y.1 y.2.1 y.2.2 = some out4) (fun y => y.1) (n, 1, 0) hl ?_ ?_)
  ·exact (Le.forget _ ⟨rfl, rfl, rfl, trivial⟩)
  ·rintro ⟨k, out2, i3⟩ h
   cases k with
   | zero => cases h
   | succ k =>
    replace h : zCj (zCx n) n1_kids (k+1) out2 i3 = some out4 := h
    rw [zCj] at h
    refine zAb ?_
    refine zAb ?_
    refine zAa (by exact tokW) (by exact gok) [] [8] rfl ?_
    intro n5 hn5
    obtain rfl : (n1_kids.length : Int) = n5 := (hn5.trans (congrArg (fun m : Nat => (m : Int)) (rlen Nd.encs_eq n1_kids))).symm
    show Tri _ _ _ _
    refine zAe rfl (fun hb => ?_) (fun hb => ?_)
    ·replace h := zAk hb h
     refine zAg ?_
     show Tri _ _ _ _
     refine zAb ?_
     refine zAp ?_
     refine zAa (by exact tokW) (by exact gok) [] [16] rfl ?_
     obtain ⟨⟨e6_kind, e6_text, e6_cols, e6_kids⟩, he6, h⟩ := zAc h
     refine And.intro (zAw Nd.encs_eq he6).1 ?_
     intro r7 hr7
     obtain rfl : [.int .i64 e6_kind, .str e6_text, .int .i64 e6_cols, .sl 4 (Nd.encs e6_kids)] = r7 := (hr7.trans (zAw Nd.encs_eq he6).2.1).symm
     obtain ⟨y8, hy8, h⟩ := zAc h
     refine ⟨_, ⟨_, _, hy8, rfl, rfl⟩, ?_⟩
     show Tri _ _ _ _
     refine zAa (by exact tokW) (by exact gok) [] [] rfl ?_
     refine ⟨(k, IntKind.i64.wrap (out2 + y8), IntKind.i64.wrap (i3 + 1)), h, (Le.forget _ ⟨rfl, rfl, rfl, trivial⟩), Nat.lt_succ_self k⟩
    ·replace h := zAj hb h
     refine zAL ?_
     cases h
     exact (Le.forget _ ⟨rfl, trivial⟩)
 ·show Tri _ _ _ _
  refine zAm hle ?_
  refine zAb ?_
  refine zAa (by exact tokW) (by exact gok) [] [] rfl ?_
  show Tri _ _ _ _
  refine zAi ?_
  have hy := Option.some.inj h
  subst hy
  unfold zAG
  exact ⟨_, Le.refl _ _, rfl, rfl⟩
theorem zMs : ∀ n, PSound Tryz.prog 32 (zAI (zEE n)) := by
 intro n
 induction n with
 | zero => exact zB5 Tryz.call32 (fun xs r h => by obtain ⟨_, _, h, _⟩ := h; cases h)
 | succ n ih => exact zLp n ih
def zJS : zAy := zAI fun xs r => ∃ n, zEE n xs r
theorem zOv : PSound Tryz.prog 32 zJS := zDe zMs
def zEF (n : Nat) (xs : List AV) (r : Ret) : Prop := ∃ (a0 : Nd) (y0 : Int), zCy n a0 = some y0 ∧ xs = [.agg ((Nd.enc a0).map .s)] ∧ r = .val (.s (.int .i64 y0))
theorem zLq (n : Nat) (ih : PSound Tryz.prog 33 (zAI (zEF n))) : PSound Tryz.prog 33 (zAI (zEF (n + 1))) := by
 have gok : ∀ f s, look? f [(33, zAI (zEF n))] = some s → PSound Tryz.prog f s := zAA (by
  simp only [List.forall_mem_cons]
  exact ⟨ih, by simp⟩)
 refine zAM tokW Tryz.call33 Tryz.func33 rfl (fun xs r h => by obtain ⟨_, _, _, rfl, _⟩ := h; show 1 ≤ 22; decide) 22 rfl ?_
 rintro xs r w0 G0 ⟨⟨n1_kind, n1_text, n1_cols, n1_kids⟩, y0, h, rfl, rfl⟩ _
 rw [zCy] at h
 refine zAb ?_
 refine zAa (by exact tokW) (by exact gok) [] [] rfl ?_
 show Tri _ _ _ _
 refine zAb ?_
 refine zAa (by exact tokW) (by exact gok) [] [] rfl ?_
 show Tri _ _ _ _
 refine zAb ?_
 refine zAb ?_
 refine zAa (by exact tokW) (by exact gok) [] [] rfl ?_
 show Tri _ _ _ _
 obtain ⟨out4, hl, h⟩ := zAc h
 refine zAq ⟨ofL [(3, .s (.int .i64 out4))], fun _ => none, 0⟩ ?_ (fun σ' hle => ?_)
 ·refine zAp (zAJ (X := Nat × Int × Int) (fun y => match y with | (k, out2, i3) => ⟨ofL [(1, .s (.pt [.int .i64 n1_kind, .str n1_text, .int .i64 n1_cols, .sl 4 (Nd.encs n1_kids)])), (3, .s (.int .i64 out2)), (4, .s (.int .i64 i3))], fun _ => none, 0⟩) (fun y => zCk (zCy n) n1_kids y.1 y.2.1 y.2.2 = some out4) (fun y => y.1) (n, 0, 0) hl ?_ ?_)
  ·exact (Le.forget _ ⟨rfl, rfl, rfl, trivial⟩)
  ·rintro ⟨k, out2, i3⟩ h
   cases k with
   | zero => cases h
   | succ k =>
    replace h : zCk (zCy n) n1_kids (k+1) out2 i3 = some out4 := h
    rw [zCk] at h
    refine zAb ?_
    refine zAb ?_
    refine zAa (by exact tokW) (by exact gok) [] [8] rfl ?_
    intro n5 hn5
    obtain rfl : (n1_kids.length : Int) = n5 := (hn5.trans (congrArg (fun m : Nat => (m : Int)) (rlen Nd.encs_eq n1_kids))).symm
    show Tri _ _ _ _
    refine zAe rfl (fun hb => ?_) (fun hb => ?_)
    ·replace h := zAk hb h
     refine zAg ?_
     show Tri _ _ _ _
     refine zAb ?_
     refine zAp ?_
     refine zAa (by exact tokW) (by exact gok) [] [16] rfl ?_
     obtain ⟨⟨e6_kind, e6_text, e6_cols, e6_kids⟩, he6, h⟩ := zAc h
     refine And.intro (zAw Nd.encs_eq he6).1 ?_
     intro r7 hr7
     obtain rfl : [.int .i64 e6_kind, .str e6_text, .int .i64 e6_cols, .sl 4 (Nd.encs e6_kids)] = r7 := (hr7.trans (zAw Nd.encs_eq he6).2.1).symm
     obtain ⟨y8, hy8, h⟩ := zAc h
     refine ⟨_, ⟨_, _, hy8, rfl, rfl⟩, ?_⟩
     show Tri _ _ _ _
     refine zAa (by exact tokW) (by exact gok) [] [] rfl ?_
     refine ⟨(k, (if out2 < y8 then y8 else out2), IntKind.i64.wrap (i3 + 1)), h, (Le.forget _ ⟨rfl, rfl, rfl, trivial⟩), Nat.lt_succ_self k⟩
    ·replace h := zAj hb h
     refine zAL ?_
     cases h
     exact (Le.forget _ ⟨rfl, trivial⟩)
 ·show Tri _ _ _ _
  refine zAm hle ?_
  refine zAb ?_
  refine zAa (by exact tokW) (by exact gok) [] [] rfl ?_
  show Tri _ _ _ _
  refine zAi ?_
  have hy := Option.some.inj h
  subst hy
  unfold zAG
  exact ⟨_, Le.refl _ _, rfl, rfl⟩
theorem zMt : ∀ n, PSound Tryz.prog 33 (zAI (zEF n)) := by
 intro n
 induction n with
 | zero => exact zB5 Tryz.call33 (fun xs r h => by obtain ⟨_, _, h, _⟩ := h; cases h)
 | succ n ih => exact zLq n ih
def zJT : zAy := zAI fun xs r => ∃ n, zEF n xs r
theorem zOw : PSound Tryz.prog 33 zJT := zDe zMt
def zPi (n : Nat) (xs : List AV) (r : Ret) : Prop := ∃ (a0 : Nd) (y0 : Bool), zB4 n a0 = some y0 ∧ xs = [.agg ((Nd.enc a0).map .s)] ∧ r = .val (.s (.bool y0))
def zEM : zAy := zAI fun xs r => ∃ n, zPi n xs r
theorem zFi : PSound Tryz.prog 25 zEM := by
 have gok : ∀ f s, look? f [(31, zLw), (32, zJS), (33, zJT)] = some s → PSound Tryz.prog f s := zAA (by
  simp only [List.forall_mem_cons]
  exact ⟨zPE, zOv, zOw, by simp⟩)
 refine zAM tokW Tryz.call25 Tryz.func25 rfl (fun xs r h => by obtain ⟨n, _, _, _, rfl, _⟩ := h; show 1 ≤ 20; decide) 20 rfl ?_
 rintro xs r w0 G0 ⟨n, ⟨n1_kind, n1_text, n1_cols, n1_kids⟩, y0, h, rfl, rfl⟩ _
 rw [zB4] at h
 refine zAb ?_
 refine zAa (by exact tokW) (by exact gok) [] [] rfl ?_
 show Tri _ _ _ _
 refine zAb ?_
 obtain ⟨x2, hj, h⟩ := zAc h
 refine zAq ⟨ofL [(2, .s (.bool x2))], fun _ => none, 0⟩ ?_ (fun σ' hle => ?_)
 ·replace h := hj
  refine zAa (by exact tokW) (by exact gok) [] [6, 10, 15] rfl ?_
  intro b hb
  cases b with
  | true =>
   replace h := zAk hb.symm h
   obtain ⟨y3, hy3, h⟩ := zAc h
   refine ⟨_, ⟨_, _, _, hy3, rfl, rfl⟩, ?_⟩
   intro b hb
   cases b with
   | true =>
    replace h := zAk hb.symm h
    obtain ⟨y4, hy4, h⟩ := zAc h
    refine ⟨_, ⟨_, _, _, hy4, rfl, rfl⟩, ?_⟩
    intro b hb
    cases b with
    | true =>
     replace h := zAk hb.symm h
     obtain ⟨y5, hy5, h⟩ := zAc h
     refine ⟨_, ⟨_, _, _, hy5, rfl, rfl⟩, ?_⟩
     cases h
     exact (Le.forget _ ⟨rfl, trivial⟩)
    | false =>
     replace h := zAj hb.symm h
     cases h
     exact (Le.forget _ ⟨rfl, trivial⟩)
   | false =>
    replace h := zAj hb.symm h
    intro b hb
    subst hb
    cases h
    exact (Le.forget _ ⟨rfl, trivial⟩)
  | false =>
   replace h := zAj hb.symm h
   intro b hb
   subst hb
   intro b hb
   subst hb
   cases h
   exact (Le.forget _ ⟨rfl, trivial⟩)
 ·show Tri _ _ _ _
  refine zAm hle ?_
  refine zAi ?_
  have hy := Option.some.inj h
  subst hy
  unfold zAG
  exact ⟨_, Le.refl _ _, rfl, rfl⟩
def zJm (n : Nat) (xs : List AV) (r : Ret) : Prop := ∃ (a0 : List Nd) (y0 : Bool), zB9 n a0 = some y0 ∧ xs = [.s (.sl 4 (Nd.encs a0))] ∧ r = .val (.s (.bool y0))
def zEl : zAy := zAI fun xs r => ∃ n, zJm n xs r
theorem zFP : PSound Tryz.prog 49 zEl := by
 have gok : ∀ f s, look? f [(29, zEL), (25, zEM)] = some s → PSound Tryz.prog f s := zAA (by
  simp only [List.forall_mem_cons]
  exact ⟨zFh, zFi, by simp⟩)
 refine zAM tokW Tryz.call49 Tryz.func49 rfl (fun xs r h => by obtain ⟨n, _, _, _, rfl, _⟩ := h; show 1 ≤ 6; decide) 6 rfl ?_
 rintro xs r w0 G0 ⟨n, l1, y0, h, rfl, rfl⟩ _
 rw [zB9] at h
 refine zAb ?_
 refine zAa (by exact tokW) (by exact gok) [] [] rfl ?_
 show Tri _ _ _ _
 refine zAb ?_
 refine zAa (by exact tokW) (by exact gok) [] [] rfl ?_
 obtain ⟨⟨y2_kind, y2_text, y2_cols, y2_kids⟩, hy2, h⟩ := zAc h
 refine ⟨_, ⟨_, _, hy2, rfl, rfl⟩, ?_⟩
 obtain ⟨y3, hy3, h⟩ := zAc h
 refine ⟨_, ⟨_, _, _, hy3, rfl, rfl⟩, ?_⟩
 show Tri _ _ _ _
 refine zAi ?_
 have hy := Option.some.inj h
 subst hy
 unfold zAG
 exact ⟨_, Le.refl _ _, rfl, rfl⟩
def zK6 (n : Nat) (xs : List AV) (r : Ret) : Prop := ∃ (a0 : List Nd) (a1 : Int) (y0 : Bool), zDo n a0 a1 = some y0 ∧ xs = [.s (.sl 4 (Nd.encs a0)), .s (.int .i64 a1)] ∧ r = .val (.s (.bool y0))
def zG7 : zAy := zAI fun xs r => ∃ n, zK6 n xs r
theorem zKz : PSound Tryz.prog 50 zG7 := by
 have gok : ∀ f s, look? f [(49, zEl)] = some s → PSound Tryz.prog f s := zAA (by
  simp only [List.forall_mem_cons]
  exact ⟨zFP, by simp⟩)
 refine zAM tokW Tryz.call50 Tryz.func50 rfl (fun xs r h => by obtain ⟨n, _, _, _, _, rfl, _⟩ := h; show 2 ≤ 37; decide) 37 rfl ?_
 rintro xs r w0 G0 ⟨n, l1, slot2, y0, h, rfl, rfl⟩ _
 rw [zDo] at h
 refine zAb ?_
 refine zAa (by exact tokW) (by exact gok) [] [] rfl ?_
 show Tri _ _ _ _
 refine zAb ?_
 obtain ⟨x3, hj, h⟩ := zAc h
 refine zAq ⟨ofL [(4, .s (.bool x3))], fun _ => none, 0⟩ ?_ (fun σ' hle => ?_)
 ·replace h := hj
  refine zAa (by exact tokW) (by exact gok) [] [6, 8, 12, 16, 19, 22, 25, 27, 31, 34] rfl ?_
  intro n4 hn4
  obtain rfl : (l1.length : Int) = n4 := (hn4.trans (congrArg (fun m : Nat => (m : Int)) (rlen Nd.encs_eq l1))).symm
  intro b hb
  cases b with
  | true =>
   replace h := zAk hb.symm h
   obtain ⟨y5, hy5, h⟩ := zAc h
   refine ⟨_, ⟨_, _, _, hy5, rfl, rfl⟩, ?_⟩
   intro b hb
   cases b with
   | true =>
    replace h := zAk hb.symm h
    intro b hb
    cases b with
    | true =>
     replace h := zAk hb.symm h
     obtain ⟨⟨e6_kind, e6_text, e6_cols, e6_kids⟩, he6, h⟩ := zAc h
     refine And.intro (zAw Nd.encs_eq he6).1 ?_
     intro r7 hr7
     obtain rfl : [.int .i64 e6_kind, .str e6_text, .int .i64 e6_cols, .sl 4 (Nd.encs e6_kids)] = r7 := (hr7.trans (zAw Nd.encs_eq he6).2.1).symm
     intro n8 hn8
     obtain rfl : (e6_kids.length : Int) = n8 := (hn8.trans (congrArg (fun m : Nat => (m : Int)) (rlen Nd.encs_eq e6_kids))).symm
     intro b hb
     cases b with
     | true =>
      replace h := zAk hb.symm h
      obtain ⟨⟨e9_kind, e9_text, e9_cols, e9_kids⟩, he9, h⟩ := zAc h
      refine And.intro (zAw Nd.encs_eq he9).1 ?_
      intro r10 hr10
      obtain rfl : [.int .i64 e9_kind, .str e9_text, .int .i64 e9_cols, .sl 4 (Nd.encs e9_kids)] = r10 := (hr10.trans (zAw Nd.encs_eq he9).2.1).symm
      obtain ⟨⟨e11_kind, e11_text, e11_cols, e11_kids⟩, he11, h⟩ := zAc h
      refine And.intro (zAw Nd.encs_eq he11).1 ?_
      intro r12 hr12
      obtain rfl : [.int .i64 e11_kind, .str e11_text, .int .i64 e11_cols, .sl 4 (Nd.encs e11_kids)] = r12 := (hr12.trans (zAw Nd.encs_eq he11).2.1).symm
      intro n13 hn13
      obtain rfl : (e11_kids.length : Int) = n13 := (hn13.trans (congrArg (fun m : Nat => (m : Int)) (rlen Nd.encs_eq e11_kids))).symm
      cases h
      exact (Le.forget _ ⟨rfl, trivial⟩)
     | false =>
      replace h := zAj hb.symm h
      cases h
      exact (Le.forget _ ⟨rfl, trivial⟩)
    | false =>
     replace h := zAj hb.symm h
     intro b hb
     subst hb
     cases h
     exact (Le.forget _ ⟨rfl, trivial⟩)
   | false =>
    replace h := zAj hb.symm h
    intro b hb
    subst hb
    intro b hb
    subst hb
    cases h
    exact (Le.forget _ ⟨rfl, trivial⟩)
  | false =>
   replace h := zAj hb.symm h
   intro b hb
   subst hb
   intro b hb
   subst hb
   intro b hb
   subst hb
   cases h
   exact (Le.forget _ ⟨rfl, trivial⟩)
 ·show Tri _ _ _ _
  refine zAm hle ?_
  refine zAi ?_
  have hy := Option.some.inj h
  subst hy
  unfold zAG
  exact ⟨_, Le.refl _ _, rfl, rfl⟩
def zNE (n : Nat) (xs : List AV) (r : Ret) : Prop := ∃ (a0 : (Int × List Int × Int × Int × List Nd × Int × List UInt8 × List UInt8)) (y0 : Bool), zEg n a0 = some y0 ∧ xs = [.agg ((zAQ a0).map .s)] ∧ r = .val (.s (.bool y0))
def zIW : zAy := zAI fun xs r => ∃ n, zNE n xs r
theorem zMZ : PSound Tryz.prog 34 zIW := by
 have gok : ∀ f s, look? f [(49, zEl), (50, zG7)] = some s → PSound Tryz.prog f s := zAA (by
  simp only [List.forall_mem_cons]
  exact ⟨zFP, zKz, by simp⟩)
 refine zAM tokW Tryz.call34 Tryz.func34 rfl (fun xs r h => by obtain ⟨n, _, _, _, rfl, _⟩ := h; show 1 ≤ 83; decide) 83 rfl ?_
 rintro xs r w0 G0 ⟨n, ⟨a1_kind, a1_row, a1_at, a1_n, a1_nodes, a1_slot, a1_old, a1_text⟩, y0, h, rfl, rfl⟩ _
 rw [zEg] at h
 refine zAb ?_
 refine zAa (by exact tokW) (by exact gok) [] [] rfl ?_
 show Tri _ _ _ _
 refine zAb ?_
 refine zAb ?_
 refine zAa (by exact tokW) (by exact gok) [] [] rfl ?_
 show Tri _ _ _ _
 obtain ⟨fl, hj, ho1⟩ := zAc h
 refine zCY (fl := fl) (fun z => match z with | _ => ⟨ofL [], fun _ => none, 0⟩) ?_ (fun z σ' hz hle => ?_)
 ·replace h := hj
  refine zAp ?_
  refine zAb ?_
  refine zAb ?_
  refine zAa (by exact tokW) (by exact gok) [] [] rfl ?_
  show Tri _ _ _ _
  obtain ⟨x2, hj, h⟩ := zAc h
  refine zAq ⟨ofL [(1, .s (.pt [.int .i64 a1_kind, .sl 1 ((List.map (irow .i64)) a1_row), .int .i64 a1_at, .int .i64 a1_n, .sl 4 (Nd.encs a1_nodes), .int .i64 a1_slot, .str a1_old, .str a1_text])), (4, .s (.int .i64 a1_kind)), (5, .s (.bool x2))], fun _ => none, 0⟩ ?_ (fun σ' hle => ?_)
  ·replace h := hj
   refine zAe rfl (fun hb => ?_) (fun hb => ?_)
   ·replace h := zAk hb h
    refine zAg ?_
    cases h
    exact (Le.forget _ ⟨rfl, rfl, rfl, trivial⟩)
   ·replace h := zAj hb h
    refine zAa (by exact tokW) (by exact gok) [] [] rfl ?_
    cases h
    exact (Le.forget _ ⟨rfl, rfl, rfl, trivial⟩)
  ·show Tri _ _ _ _
   refine zAm hle ?_
   refine zAe rfl (fun hb => ?_) (fun hb => ?_)
   ·replace h := zAk hb h
    refine zAb ?_
    obtain ⟨x3, hj, h⟩ := zAc h
    refine zAq ⟨ofL [(2, .s (.bool x3))], fun _ => none, 0⟩ ?_ (fun σ' hle => ?_)
    ·replace h := hj
     refine zAa (by exact tokW) (by exact gok) [] [10, 12, 17, 22, 27, 32] rfl ?_
     intro n4 hn4
     obtain rfl : (a1_nodes.length : Int) = n4 := (hn4.trans (congrArg (fun m : Nat => (m : Int)) (rlen Nd.encs_eq a1_nodes))).symm
     intro b hb
     cases b with
     | true =>
      replace h := zAk hb.symm h
      obtain ⟨y5, hy5, h⟩ := zAc h
      refine ⟨_, ⟨_, _, _, hy5, rfl, rfl⟩, ?_⟩
      intro b hb
      cases b with
      | true =>
       replace h := zAk hb.symm h
       intro b hb
       cases b with
       | true =>
        replace h := zAk hb.symm h
        intro b hb
        cases b with
        | true =>
         replace h := zAk hb.symm h
         intro b hb
         cases b with
         | true =>
          replace h := zAk hb.symm h
          cases h
          exact (Le.forget _ ⟨rfl, trivial⟩)
         | false =>
          replace h := zAj hb.symm h
          cases h
          exact (Le.forget _ ⟨rfl, trivial⟩)
        | false =>
         replace h := zAj hb.symm h
         intro b hb
         subst hb
         cases h
         exact (Le.forget _ ⟨rfl, trivial⟩)
       | false =>
        replace h := zAj hb.symm h
        intro b hb
        subst hb
        intro b hb
        subst hb
        cases h
        exact (Le.forget _ ⟨rfl, trivial⟩)
      | false =>
       replace h := zAj hb.symm h
       intro b hb
       subst hb
       intro b hb
       subst hb
       intro b hb
       subst hb
       cases h
       exact (Le.forget _ ⟨rfl, trivial⟩)
     | false =>
      replace h := zAj hb.symm h
      intro b hb
      subst hb
      intro b hb
      subst hb
      intro b hb
      subst hb
      intro b hb
      subst hb
      cases h
      exact (Le.forget _ ⟨rfl, trivial⟩)
    ·show Tri _ _ _ _
     refine zAm hle ?_
     refine zAi ?_
     cases h
     replace h : some _ = some _ := ho1
     have hy := Option.some.inj h
     subst hy
     unfold zAG
     exact ⟨_, Le.refl _ _, rfl, rfl⟩
   ·replace h := zAj hb h
    refine zAb ?_
    refine zAb ?_
    refine zAa (by exact tokW) (by exact gok) [] [] rfl ?_
    show Tri _ _ _ _
    obtain ⟨x6, hj, h⟩ := zAc h
    refine zAq ⟨ofL [(1, .s (.pt [.int .i64 a1_kind, .sl 1 ((List.map (irow .i64)) a1_row), .int .i64 a1_at, .int .i64 a1_n, .sl 4 (Nd.encs a1_nodes), .int .i64 a1_slot, .str a1_old, .str a1_text])), (4, .s (.int .i64 a1_kind)), (37, .s (.bool x6))], fun _ => none, 0⟩ ?_ (fun σ' hle => ?_)
    ·replace h := hj
     refine zAe rfl (fun hb => ?_) (fun hb => ?_)
     ·replace h := zAk hb h
      refine zAg ?_
      cases h
      exact (Le.forget _ ⟨rfl, rfl, rfl, trivial⟩)
     ·replace h := zAj hb h
      refine zAa (by exact tokW) (by exact gok) [] [] rfl ?_
      cases h
      exact (Le.forget _ ⟨rfl, rfl, rfl, trivial⟩)
    ·show Tri _ _ _ _
     refine zAm hle ?_
     refine zAe rfl (fun hb => ?_) (fun hb => ?_)
     ·replace h := zAk hb h
      refine zAb ?_
      obtain ⟨x7, hj, h⟩ := zAc h
      refine zAq ⟨ofL [(2, .s (.bool x7))], fun _ => none, 0⟩ ?_ (fun σ' hle => ?_)
      ·replace h := hj
       refine zAa (by exact tokW) (by exact gok) [] [43, 50, 55] rfl ?_
       intro b hb
       cases b with
       | true =>
        replace h := zAk hb.symm h
        obtain ⟨y8, hy8, h⟩ := zAc h
        refine ⟨_, ⟨_, _, _, _, hy8, rfl, rfl⟩, ?_⟩
        intro b hb
        cases b with
        | true =>
         replace h := zAk hb.symm h
         intro b hb
         cases b with
         | true =>
          replace h := zAk hb.symm h
          cases h
          exact (Le.forget _ ⟨rfl, trivial⟩)
         | false =>
          replace h := zAj hb.symm h
          cases h
          exact (Le.forget _ ⟨rfl, trivial⟩)
        | false =>
         replace h := zAj hb.symm h
         intro b hb
         subst hb
         cases h
         exact (Le.forget _ ⟨rfl, trivial⟩)
       | false =>
        replace h := zAj hb.symm h
        intro b hb
        subst hb
        intro b hb
        subst hb
        cases h
        exact (Le.forget _ ⟨rfl, trivial⟩)
      ·show Tri _ _ _ _
       refine zAm hle ?_
       refine zAi ?_
       cases h
       replace h : some _ = some _ := ho1
       have hy := Option.some.inj h
       subst hy
       unfold zAG
       exact ⟨_, Le.refl _ _, rfl, rfl⟩
     ·replace h := zAj hb h
      refine zAb ?_
      refine zAa (by exact tokW) (by exact gok) [] [] rfl ?_
      show Tri _ _ _ _
      refine zAe rfl (fun hb => ?_) (fun hb => ?_)
      ·replace h := zAk hb h
       refine zAb ?_
       obtain ⟨x9, hj, h⟩ := zAc h
       refine zAq ⟨ofL [(2, .s (.bool x9))], fun _ => none, 0⟩ ?_ (fun σ' hle => ?_)
       ·replace h := hj
        refine zAa (by exact tokW) (by exact gok) [] [67, 70, 73, 78] rfl ?_
        intro b hb
        cases b with
        | true =>
         replace h := zAk hb.symm h
         intro n10 hn10
         obtain rfl : (a1_nodes.length : Int) = n10 := (hn10.trans (congrArg (fun m : Nat => (m : Int)) (rlen Nd.encs_eq a1_nodes))).symm
         intro b hb
         cases b with
         | true =>
          replace h := zAk hb.symm h
          intro b hb
          cases b with
          | true =>
           replace h := zAk hb.symm h
           cases h
           exact (Le.forget _ ⟨rfl, trivial⟩)
          | false =>
           replace h := zAj hb.symm h
           cases h
           exact (Le.forget _ ⟨rfl, trivial⟩)
         | false =>
          replace h := zAj hb.symm h
          intro b hb
          subst hb
          cases h
          exact (Le.forget _ ⟨rfl, trivial⟩)
        | false =>
         replace h := zAj hb.symm h
         intro b hb
         subst hb
         intro b hb
         subst hb
         cases h
         exact (Le.forget _ ⟨rfl, trivial⟩)
       ·show Tri _ _ _ _
        refine zAm hle ?_
        refine zAi ?_
        cases h
        replace h : some _ = some _ := ho1
        have hy := Option.some.inj h
        subst hy
        unfold zAG
        exact ⟨_, Le.refl _ _, rfl, rfl⟩
      ·replace h := zAj hb h
       refine zAg ?_
       cases h
       exact ⟨_, rfl, (Le.forget _ trivial)⟩
 ·subst hz
  obtain _ := z
  replace h := ho1
  show Tri _ _ _ _
  refine zAm hle ?_
  refine zAb ?_
  refine zAa (by exact tokW) (by exact gok) [] [] rfl ?_
  show Tri _ _ _ _
  refine zAi ?_
  have hy := Option.some.inj h
  subst hy
  unfold zAG
  exact ⟨_, Le.refl _ _, rfl, rfl⟩
def zQB (n : Nat) (xs : List AV) (r : Ret) : Prop := ∃ (a0 : Nd) (a1 : List Int) (y0 : Nd) (y1 : Bool), zFL n a0 a1 = some (y0, y1) ∧ xs = [.agg ((Nd.enc a0).map .s), .s (.sl 1 ((List.map (irow .i64)) a1))] ∧ r = .val (.tup [.agg ((Nd.enc y0).map .s), .s (.bool y1)])
def zLv : zAy := zAI fun xs r => ∃ n, zQB n xs r
theorem zPD : PSound Tryz.prog 51 zLv := by
 have gok : ∀ (f : Nat) (s : zAy), (fun _ => none : Nat → Option zAy) f = some s → PSound Tryz.prog f s := fun _ _ h => by cases h
 refine zAM tokW Tryz.call51 Tryz.func51 rfl (fun xs r h => by obtain ⟨n, _, _, _, _, _, rfl, _⟩ := h; show 2 ≤ 57; decide) 57 rfl ?_
 rintro xs r w0 G0 ⟨n, ⟨n1_kind, n1_text, n1_cols, n1_kids⟩, path2, y0, y1, h, rfl, rfl⟩ _
 rw [zFL] at h
 refine zAb ?_
 refine zAa (by exact tokW) (by exact gok) [2, 4] [] rfl ?_
 show Tri _ _ _ _
 refine zAb ?_
 obtain ⟨fl, hl, ho1⟩ := zAc h
 refine zCY (fl := fl) (fun z => match z with | ⟨path9, x10, x11, x12, x13⟩ => ⟨ofL [(1, .s (.sl 1 ((List.map (irow .i64)) path9))), (2, .op 0 0), (4, .op 1 0)], ofH [(0, .box 24 [.s (.int .i64 x10), .s (.str x11), .s (.int .i64 x12), .s (.sl 4 (Nd.encs x13))]), (1, .box 24 [.s (.int .i64 0), .s (.str []), .s (.int .i64 0), .nl 4])], 2⟩) ?_ (fun z σ' hz hle => ?_)
 ·refine zAp (zAJ (X := Nat × Int × (List UInt8) × Int × (List Nd) × (List Int)) (fun y => match y with | (k, x3, x4, x5, x6, path8) => ⟨ofL [(1, .s (.sl 1 ((List.map (irow .i64)) path8))), (2, .op 0 0), (4, .op 1 0)], ofH [(0, .box 24 [.s (.int .i64 x3), .s (.str x4), .s (.int .i64 x5), .s (.sl 4 (Nd.encs x6))]), (1, .box 24 [.s (.int .i64 0), .s (.str []), .s (.int .i64 0), .nl 4])], 2⟩) (fun y => zBO  y.1 y.2.1 y.2.2.1 y.2.2.2.1 y.2.2.2.2.1 y.2.2.2.2.2 = some fl) (fun y => y.1) (n, n1_kind, n1_text, n1_cols, n1_kids, path2) hl ?_ ?_)
  ·exact (Le.rename [(0, 0), (1, 1)] _ _ _ ⟨rfl, rfl, rfl, trivial⟩ ⟨rfl, ⟨_, rfl, rfl⟩, rfl, ⟨_, rfl, rfl⟩, trivial⟩ rfl rfl rfl rfl rfl)
  ·rintro ⟨k, x3, x4, x5, x6, path8⟩ h
   cases k with
   | zero => cases h
   | succ k =>
    replace h : zBO  (k+1) x3 x4 x5 x6 path8 = some fl := h
    rw [zBO] at h
    refine zAb ?_
    refine zAb ?_
    refine zAa (by exact tokW) (by exact gok) [] [7] rfl ?_
    intro n14 hn14
    obtain rfl : (path8.length : Int) = n14 := (hn14.trans (congrArg (fun m : Nat => (m : Int)) (rlen (fun _ => rfl) path8))).symm
    show Tri _ _ _ _
    refine zAe rfl (fun hb => ?_) (fun hb => ?_)
    ·replace h := zAk hb h
     refine zAg ?_
     show Tri _ _ _ _
     refine zAp ?_
     refine zAb ?_
     refine zAb ?_
     obtain ⟨x15, hj, h⟩ := zAc h
     refine zAq ⟨ofL [(1, .s (.sl 1 ((List.map (irow .i64)) path8))), (2, .op 0 0), (4, .op 1 0), (21, .s (.bool x15))], ofH [(0, .box 24 [.s (.int .i64 x3), .s (.str x4), .s (.int .i64 x5), .s (.sl 4 (Nd.encs x6))]), (1, .box 24 [.s (.int .i64 0), .s (.str []), .s (.int .i64 0), .nl 4])], 2⟩ ?_ (fun σ' hle => ?_)
     ·replace h := hj
      refine zAC (by exact tokW) (by exact gok) (by exact mixed) [] [10, 13, 15, 19] [9] rfl (by decide +kernel) ?_
      obtain ⟨e16, he16, h⟩ := zAc h
      refine And.intro (zAw (fun _ => rfl) he16).1 ?_
      intro r17 hr17
      obtain rfl : [.int .i64 e16] = r17 := (hr17.trans (zAw (fun _ => rfl) he16).2.1).symm
      intro b hb
      cases b with
      | true =>
       replace h := zAk hb.symm h
       cases h
       exact (Le.rename [(0, 0), (1, 1)] _ _ _ ⟨rfl, rfl, rfl, rfl, trivial⟩ ⟨rfl, ⟨_, rfl, rfl⟩, rfl, ⟨_, rfl, rfl⟩, trivial⟩ rfl rfl rfl rfl rfl)
      | false =>
       replace h := zAj hb.symm h
       obtain ⟨e18, he18, h⟩ := zAc h
       refine And.intro (zAw (fun _ => rfl) he18).1 ?_
       intro r19 hr19
       obtain rfl : [.int .i64 e18] = r19 := (hr19.trans (zAw (fun _ => rfl) he18).2.1).symm
       intro n20 hn20
       obtain rfl : (x6.length : Int) = n20 := (hn20.trans (congrArg (fun m : Nat => (m : Int)) (rlen Nd.encs_eq x6))).symm
       cases h
       exact (Le.rename [(0, 0), (1, 1)] _ _ _ ⟨rfl, rfl, rfl, rfl, trivial⟩ ⟨rfl, ⟨_, rfl, rfl⟩, rfl, ⟨_, rfl, rfl⟩, trivial⟩ rfl rfl rfl rfl rfl)
     ·show Tri _ _ _ _
      refine zAm hle ?_
      refine zAe rfl (fun hb => ?_) (fun hb => ?_)
      ·replace h := zAk hb h
       refine zAb ?_
       refine zAa (by exact tokW) (by exact gok) [] [] rfl ?_
       show Tri _ _ _ _
       refine zAi ?_
       cases h
       replace h : some _ = some _ := ho1
       obtain ⟨hj1, hk1⟩ := Prod.mk.inj (Option.some.inj h)
       subst hj1
       subst hk1
       unfold zAG
       exact ⟨_, Le.refl _ _, rfl, rfl⟩
      ·replace h := zAj hb h
       refine zAg ?_
       show Tri _ _ _ _
       refine zAb ?_
       refine zAC (by exact tokW) (by exact gok) (by exact mixed) [] [26, 28] [1, 7] rfl (by decide +kernel) ?_
       obtain ⟨e21, he21, h⟩ := zAc h
       refine And.intro (zAw (fun _ => rfl) he21).1 ?_
       intro r22 hr22
       obtain rfl : [.int .i64 e21] = r22 := (hr22.trans (zAw (fun _ => rfl) he21).2.1).symm
       obtain ⟨⟨e23_kind, e23_text, e23_cols, e23_kids⟩, he23, h⟩ := zAc h
       refine And.intro (zAw Nd.encs_eq he23).1 ?_
       intro r24 hr24
       obtain rfl : [.int .i64 e23_kind, .str e23_text, .int .i64 e23_cols, .sl 4 (Nd.encs e23_kids)] = r24 := (hr24.trans (zAw Nd.encs_eq he23).2.1).symm
       show Tri _ _ _ _
       refine zAb ?_
       refine zAb ?_
       obtain ⟨x25, hj, h⟩ := zAc h
       refine zAq ⟨ofL [(1, .s (.sl 1 ((List.map (irow .i64)) path8))), (2, .op 0 0), (4, .op 1 0), (42, .s (.bool x25))], ofH [(0, .box 24 [.s (.int .i64 e23_kind), .s (.str e23_text), .s (.int .i64 e23_cols), .s (.sl 4 (Nd.encs e23_kids))]), (1, .box 24 [.s (.int .i64 0), .s (.str []), .s (.int .i64 0), .nl 4])], 2⟩ ?_ (fun σ' hle => ?_)
       ·replace h := hj
        refine zAC (by exact tokW) (by exact gok) (by exact mixed) [] [31, 34, 36, 40] [9] rfl (by decide +kernel) ?_
        obtain ⟨e26, he26, h⟩ := zAc h
        refine And.intro (zAw (fun _ => rfl) he26).1 ?_
        intro r27 hr27
        obtain rfl : [.int .i64 e26] = r27 := (hr27.trans (zAw (fun _ => rfl) he26).2.1).symm
        intro b hb
        cases b with
        | true =>
         replace h := zAk hb.symm h
         cases h
         exact (Le.rename [(0, 0), (1, 1)] _ _ _ ⟨rfl, rfl, rfl, rfl, trivial⟩ ⟨rfl, ⟨_, rfl, rfl⟩, rfl, ⟨_, rfl, rfl⟩, trivial⟩ rfl rfl rfl rfl rfl)
        | false =>
         replace h := zAj hb.symm h
         obtain ⟨e28, he28, h⟩ := zAc h
         refine And.intro (zAw (fun _ => rfl) he28).1 ?_
         intro r29 hr29
         obtain rfl : [.int .i64 e28] = r29 := (hr29.trans (zAw (fun _ => rfl) he28).2.1).symm
         intro n30 hn30
         obtain rfl : (e23_kids.length : Int) = n30 := (hn30.trans (congrArg (fun m : Nat => (m : Int)) (rlen Nd.encs_eq e23_kids))).symm
         cases h
         exact (Le.rename [(0, 0), (1, 1)] _ _ _ ⟨rfl, rfl, rfl, rfl, trivial⟩ ⟨rfl, ⟨_, rfl, rfl⟩, rfl, ⟨_, rfl, rfl⟩, trivial⟩ rfl rfl rfl rfl rfl)
       ·show Tri _ _ _ _
        refine zAm hle ?_
        refine zAe rfl (fun hb => ?_) (fun hb => ?_)
        ·replace h := zAk hb h
         refine zAb ?_
         refine zAa (by exact tokW) (by exact gok) [] [] rfl ?_
         show Tri _ _ _ _
         refine zAi ?_
         cases h
         replace h : some _ = some _ := ho1
         obtain ⟨hj1, hk1⟩ := Prod.mk.inj (Option.some.inj h)
         subst hj1
         subst hk1
         unfold zAG
         exact ⟨_, Le.refl _ _, rfl, rfl⟩
        ·replace h := zAj hb h
         refine zAg ?_
         show Tri _ _ _ _
         refine zAb ?_
         refine zAC (by exact tokW) (by exact gok) (by exact mixed) [] [47, 49] [1, 7] rfl (by decide +kernel) ?_
         obtain ⟨e31, he31, h⟩ := zAc h
         refine And.intro (zAw (fun _ => rfl) he31).1 ?_
         intro r32 hr32
         obtain rfl : [.int .i64 e31] = r32 := (hr32.trans (zAw (fun _ => rfl) he31).2.1).symm
         obtain ⟨⟨e33_kind, e33_text, e33_cols, e33_kids⟩, he33, h⟩ := zAc h
         refine And.intro (zAw Nd.encs_eq he33).1 ?_
         intro r34 hr34
         obtain rfl : [.int .i64 e33_kind, .str e33_text, .int .i64 e33_cols, .sl 4 (Nd.encs e33_kids)] = r34 := (hr34.trans (zAw Nd.encs_eq he33).2.1).symm
         show Tri _ _ _ _
         refine zAa (by exact tokW) (by exact gok) [] [52] rfl ?_
         obtain ⟨hq, h⟩ := zAN h
         refine And.intro ⟨hq.1, Int.le_trans hq.2.1 (Int.ofNat_le.2 (Nat.le_of_eq (rlen (fun _ => rfl) _).symm)), Int.le_refl _⟩ ?_
         intro r35 hr35
         obtain rfl : (List.map (irow .i64)) ((path8.take (path8.length : Int).toNat).drop (2 : Int).toNat) = r35 := (hr35.trans ((congrArg (fun m : Nat => (((List.map (irow .i64)) path8).take m).drop (2 : Int).toNat) (rlen (fun _ => rfl) _)).trans (rcut (fun _ => rfl) _ _ _))).symm
         refine ⟨(k, e33_kind, e33_text, e33_cols, e33_kids, (path8.take (path8.length : Int).toNat).drop (2 : Int).toNat), h, (Le.rename [(0, 0), (1, 1)] _ _ _ ⟨rfl, rfl, rfl, trivial⟩ ⟨rfl, ⟨_, rfl, rfl⟩, rfl, ⟨_, rfl, rfl⟩, trivial⟩ rfl rfl rfl rfl rfl), Nat.lt_succ_self k⟩
    ·replace h := zAj hb h
     refine zAL ?_
     cases h
     exact ⟨_, rfl, (Le.rename [(0, 0), (1, 1)] _ _ _ ⟨rfl, rfl, rfl, trivial⟩ ⟨rfl, ⟨_, rfl, rfl⟩, rfl, ⟨_, rfl, rfl⟩, trivial⟩ rfl rfl rfl rfl rfl)⟩
 ·subst hz
  obtain ⟨path9, x10, x11, x12, x13⟩ := z
  replace h := ho1
  show Tri _ _ _ _
  refine zAm hle ?_
  refine zAb ?_
  refine zAa (by exact tokW) (by exact gok) [] [55] rfl ?_
  intro n36 hn36
  obtain rfl : (path9.length : Int) = n36 := (hn36.trans (congrArg (fun m : Nat => (m : Int)) (rlen (fun _ => rfl) path9))).symm
  show Tri _ _ _ _
  refine zAi ?_
  obtain ⟨hj1, hk1⟩ := Prod.mk.inj (Option.some.inj h)
  subst hj1
  subst hk1
  unfold zAG
  exact ⟨_, Le.refl _ _, rfl, rfl⟩
def zRk (n : Nat) (xs : List AV) (r : Ret) : Prop := ∃ (a0 : Nd) (a1 : List Int) (y0 : Nd) (y1 : Int), zGu n a0 a1 = some (y0, y1) ∧ xs = [.agg ((Nd.enc a0).map .s), .s (.sl 1 ((List.map (irow .i64)) a1))] ∧ r = .val (.tup [.agg ((Nd.enc y0).map .s), .s (.int .i64 y1)])
def zNK : zAy := zAI fun xs r => ∃ n, zRk n xs r
theorem zQ0 : PSound Tryz.prog 35 zNK := by
 have gok : ∀ f s, look? f [(25, zEM), (51, zLv)] = some s → PSound Tryz.prog f s := zAA (by
  simp only [List.forall_mem_cons]
  exact ⟨zFi, zPD, by simp⟩)
 refine zAM tokW Tryz.call35 Tryz.func35 rfl (fun xs r h => by obtain ⟨n, _, _, _, _, _, rfl, _⟩ := h; show 2 ≤ 22; decide) 22 rfl ?_
 rintro xs r w0 G0 ⟨n, ⟨n1_kind, n1_text, n1_cols, n1_kids⟩, path2, y0, y1, h, rfl, rfl⟩ _
 rw [zGu] at h
 refine zAb ?_
 refine zAa (by exact tokW) (by exact gok) [4] [] rfl ?_
 show Tri _ _ _ _
 refine zAb ?_
 refine zAb ?_
 refine zAa (by exact tokW) (by exact gok) [] [] rfl ?_
 obtain ⟨y3, hy3, h⟩ := zAc h
 refine ⟨_, ⟨_, _, _, hy3, rfl, rfl⟩, ?_⟩
 show Tri _ _ _ _
 refine zAe rfl (fun hb => ?_) (fun hb => ?_)
 ·replace h := zAk hb h
  refine zAb ?_
  refine zAa (by exact tokW) (by exact gok) [] [] rfl ?_
  show Tri _ _ _ _
  refine zAi ?_
  obtain ⟨hj1, hk1⟩ := Prod.mk.inj (Option.some.inj h)
  subst hj1
  subst hk1
  unfold zAG
  exact ⟨_, Le.refl _ _, rfl, rfl⟩
 ·replace h := zAj hb h
  refine zAg ?_
  show Tri _ _ _ _
  refine zAb ?_
  refine zAa (by exact tokW) (by exact gok) [6] [] rfl ?_
  obtain ⟨⟨⟨y4_kind, y4_text, y4_cols, y4_kids⟩, y5⟩, hy4, h⟩ := zAc h
  refine ⟨_, ⟨_, _, _, _, _, hy4, rfl, rfl⟩, ?_⟩
  show Tri _ _ _ _
  refine zAm (Le.giveBox 1 [.int .i64 y4_kind, .str y4_text, .int .i64 y4_cols, .sl 4 (Nd.encs y4_kids)] rfl rfl) ?_
  refine zAb ?_
  refine zAb ?_
  refine zAa (by exact tokW) (by exact gok) [] [] rfl ?_
  show Tri _ _ _ _
  refine zAe rfl (fun hb => ?_) (fun hb => ?_)
  ·replace h := zAk hb h
   refine zAb ?_
   refine zAa (by exact tokW) (by exact gok) [] [] rfl ?_
   show Tri _ _ _ _
   refine zAi ?_
   obtain ⟨hj1, hk1⟩ := Prod.mk.inj (Option.some.inj h)
   subst hj1
   subst hk1
   unfold zAG
   exact ⟨_, Le.refl _ _, rfl, rfl⟩
  ·replace h := zAj hb h
   refine zAg ?_
   show Tri _ _ _ _
   refine zAb ?_
   refine zAa (by exact tokW) (by exact gok) [] [] rfl ?_
   show Tri _ _ _ _
   refine zAi ?_
   obtain ⟨hj1, hk1⟩ := Prod.mk.inj (Option.some.inj h)
   subst hj1
   subst hk1
   unfold zAG
   exact ⟨_, Le.refl _ _, rfl, rfl⟩
def zNH (xs : List AV) (r : Ret) : Prop := ∃ (a0 : List Nd) (a1 : Int) (a2 : Int) (a3 : List Nd) (y0 : List Nd), zBT a0 a1 a2 a3 = some y0 ∧ xs = [.s (.sl 4 (Nd.encs a0)), .s (.int .i64 a1), .s (.int .i64 a2), .s (.sl 4 (Nd.encs a3))] ∧ r = .row 24 4 (Nd.encs y0)
def zIZ : zAy := zAI fun xs r => zNH xs r
theorem zM2 : PSound Tryz.prog 52 zIZ := by
 have gok : ∀ (f : Nat) (s : zAy), (fun _ => none : Nat → Option zAy) f = some s → PSound Tryz.prog f s := fun _ _ h => by cases h
 refine zAM tokW Tryz.call52 Tryz.func52 rfl (fun xs r h => by obtain ⟨_, _, _, _, _, _, rfl, _⟩ := h; show 4 ≤ 23; decide) 23 rfl ?_
 rintro xs r w0 G0 ⟨l1, at2, to3, by4, y0, h, rfl, rfl⟩ _
 rw [zBT] at h
 refine zAb ?_
 refine zAa (by exact tokW) (by exact gok) [8] [] rfl ?_
 show Tri _ _ _ _
 refine zAm (Le.rename [] [(0, .s (.sl 4 (Nd.encs l1))), (1, .s (.int .i64 at2)), (2, .s (.int .i64 to3)), (3, .s (.sl 4 (Nd.encs by4)))] [] 0 ⟨rfl, rfl, rfl, rfl, trivial⟩ trivial rfl rfl rfl rfl rfl) ?_
 refine zAb ?_
 refine zAa (by exact tokW) (by exact gok) [10, 14] [13] rfl ?_
 obtain ⟨hq, h⟩ := zAN h
 refine And.intro ⟨hq.1, hq.2.1, Int.le_trans hq.2.2 (Int.ofNat_le.2 (Nat.le_of_eq (rlen Nd.encs_eq _).symm))⟩ ?_
 intro r5 hr5
 obtain rfl : Nd.encs ((l1.take at2.toNat).drop (0 : Int).toNat) = r5 := (hr5.trans (rcut Nd.encs_eq _ _ _)).symm
 obtain ⟨hq, h⟩ := zAN h
 refine And.intro (show (([] : List (List S)).length + (Nd.encs ((l1.take at2.toNat).drop (0 : Int).toNat)).length) * 56 ≤ 140737488355328 ∧ ([] : List (List S)).length + (Nd.encs ((l1.take at2.toNat).drop (0 : Int).toNat)).length ≤ 9223372036854775807 from by simp only [List.length_append, List.length_cons, List.length_nil, List.length_map, rlen Nd.encs_eq] at hq ⊢; omega) ?_
 show Tri _ _ _ _
 refine zAm (Le.rename [(1, 0)] [(0, .s (.sl 4 (Nd.encs l1))), (2, .s (.int .i64 to3)), (3, .s (.sl 4 (Nd.encs by4))), (9, .orow 0)] [(0, .row 24 4 (Nd.encs ((l1.take at2.toNat).drop (0 : Int).toNat)))] 1 ⟨rfl, rfl, rfl, rfl, trivial⟩ ⟨rfl, ⟨_, rfl, congrArg (Ob.row 24 4) (by simp [List.map_append, List.map_take, List.map_drop, irow, brow, zAK, List.map_cons, List.map_nil, zAD, Nd.encs_eq, Nd.enc, zAn, zAh, zAl, zAu, zAv, zAr, zAB, zAd, zAz, zAt, zAQ, zAx, zBx])⟩, trivial⟩ rfl rfl rfl rfl rfl) ?_
 refine zAb ?_
 refine zAa (by exact tokW) (by exact gok) [17] [] rfl ?_
 obtain ⟨hq, h⟩ := zAN h
 refine And.intro (show ((Nd.encs ((l1.take at2.toNat).drop (0 : Int).toNat)).length + (Nd.encs by4).length) * 56 ≤ 140737488355328 ∧ (Nd.encs ((l1.take at2.toNat).drop (0 : Int).toNat)).length + (Nd.encs by4).length ≤ 9223372036854775807 from by simp only [List.length_append, List.length_cons, List.length_nil, List.length_map, rlen Nd.encs_eq] at hq ⊢; omega) ?_
 show Tri _ _ _ _
 refine zAm (Le.rename [(1, 0)] [(0, .s (.sl 4 (Nd.encs l1))), (2, .s (.int .i64 to3)), (9, .orow 0)] [(0, .row 24 4 (Nd.encs (((l1.take at2.toNat).drop (0 : Int).toNat) ++ by4)))] 1 ⟨rfl, rfl, rfl, trivial⟩ ⟨rfl, ⟨_, rfl, congrArg (Ob.row 24 4) (by simp [List.map_append, List.map_take, List.map_drop, irow, brow, zAK, List.map_cons, List.map_nil, zAD, Nd.encs_eq, Nd.enc, zAn, zAh, zAl, zAu, zAv, zAr, zAB, zAd, zAz, zAt, zAQ, zAx, zBx])⟩, trivial⟩ rfl rfl rfl rfl rfl) ?_
 refine zAb ?_
 refine zAa (by exact tokW) (by exact gok) [22] [21] rfl ?_
 obtain ⟨hq, h⟩ := zAN h
 refine And.intro ⟨hq.1, Int.le_trans hq.2.1 (Int.ofNat_le.2 (Nat.le_of_eq (rlen Nd.encs_eq _).symm)), Int.le_refl _⟩ ?_
 intro r6 hr6
 obtain rfl : Nd.encs ((l1.take (l1.length : Int).toNat).drop to3.toNat) = r6 := (hr6.trans ((congrArg (fun m : Nat => ((Nd.encs l1).take m).drop to3.toNat) (rlen Nd.encs_eq _)).trans (rcut Nd.encs_eq _ _ _))).symm
 obtain ⟨hq, h⟩ := zAN h
 refine And.intro (show ((Nd.encs (((l1.take at2.toNat).drop (0 : Int).toNat) ++ by4)).length + (Nd.encs ((l1.take (l1.length : Int).toNat).drop to3.toNat)).length) * 56 ≤ 140737488355328 ∧ (Nd.encs (((l1.take at2.toNat).drop (0 : Int).toNat) ++ by4)).length + (Nd.encs ((l1.take (l1.length : Int).toNat).drop to3.toNat)).length ≤ 9223372036854775807 from by simp only [List.length_append, List.length_cons, List.length_nil, List.length_map, rlen Nd.encs_eq] at hq ⊢; omega) ?_
 show Tri _ _ _ _
 refine zAm (Le.rename [(1, 0)] [(8, .orow 0)] [(0, .row 24 4 (Nd.encs ((((l1.take at2.toNat).drop (0 : Int).toNat) ++ by4) ++ ((l1.take (l1.length : Int).toNat).drop to3.toNat))))] 1 ⟨rfl, trivial⟩ ⟨rfl, ⟨_, rfl, congrArg (Ob.row 24 4) (by simp [List.map_append, List.map_take, List.map_drop, irow, brow, zAK, List.map_cons, List.map_nil, zAD, Nd.encs_eq, Nd.enc, zAn, zAh, zAl, zAu, zAv, zAr, zAB, zAd, zAz, zAt, zAQ, zAx, zBx])⟩, trivial⟩ rfl rfl rfl rfl rfl) ?_
 refine zAi ?_
 have hy := Option.some.inj h
 subst hy
 unfold zAG
 exact ⟨_, Le.refl _ _, 0, rfl, rfl⟩
def zK4 (xs : List AV) (r : Ret) : Prop := ∃ (a0 : Nd) (a1 : Int) (a2 : Nd) (y0 : Nd), zBC a0 a1 a2 = some y0 ∧ xs = [.agg ((Nd.enc a0).map .s), .s (.int .i64 a1), .agg ((Nd.enc a2).map .s)] ∧ r = .val (.agg ((Nd.enc y0).map .s))
def zFo : zAy := zAI fun xs r => zK4 xs r
theorem zGz : PSound Tryz.prog 54 zFo := by
 have gok : ∀ (f : Nat) (s : zAy), (fun _ => none : Nat → Option zAy) f = some s → PSound Tryz.prog f s := fun _ _ h => by cases h
 refine zAM tokW Tryz.call54 Tryz.func54 rfl (fun xs r h => by obtain ⟨_, _, _, _, _, rfl, _⟩ := h; show 3 ≤ 18; decide) 18 rfl ?_
 rintro xs r w0 G0 ⟨⟨n1_kind, n1_text, n1_cols, n1_kids⟩, i2, ⟨kid3_kind, kid3_text, kid3_cols, kid3_kids⟩, y0, h, rfl, rfl⟩ _
 rw [zBC] at h
 refine zAb ?_
 refine zAa (by exact tokW) (by exact gok) [3, 6] [] rfl ?_
 show Tri _ _ _ _
 refine zAb ?_
 refine zAa (by exact tokW) (by exact gok) [7, 10] [] rfl ?_
 obtain ⟨hq, h⟩ := zAN h
 refine And.intro (show (([] : List (List S)).length + (Nd.encs n1_kids).length) * 56 ≤ 140737488355328 ∧ ([] : List (List S)).length + (Nd.encs n1_kids).length ≤ 9223372036854775807 from by simp only [List.length_append, List.length_cons, List.length_nil, List.length_map, rlen Nd.encs_eq] at hq ⊢; omega) ?_
 show Tri _ _ _ _
 refine zAm (Le.rename [(0, 0), (3, 1), (1, 2)] [(1, .s (.int .i64 i2)), (3, .op 0 0), (5, .s (.pt [.int .i64 kid3_kind, .str kid3_text, .int .i64 kid3_cols, .sl 4 (Nd.encs kid3_kids)])), (6, .op 2 0)] [(0, .box 24 [.s (.int .i64 n1_kind), .s (.str n1_text), .s (.int .i64 n1_cols), .orow 1]), (1, .row 24 4 (Nd.encs n1_kids)), (2, .box 24 [.s (.int .i64 0), .s (.str []), .s (.int .i64 0), .nl 4])] 3 ⟨rfl, rfl, rfl, rfl, trivial⟩ ⟨rfl, ⟨_, rfl, rfl⟩, rfl, ⟨_, rfl, congrArg (Ob.row 24 4) (by simp [List.map_append, List.map_take, List.map_drop, irow, brow, zAK, List.map_cons, List.map_nil, zAD, Nd.encs_eq, Nd.enc, zAn, zAh, zAl, zAu, zAv, zAr, zAB, zAd, zAz, zAt, zAQ, zAx, zBx])⟩, rfl, ⟨_, rfl, rfl⟩, trivial⟩ rfl rfl rfl rfl rfl) ?_
 refine zAb ?_
 refine zAa (by exact tokW) (by exact gok) [] [] rfl ?_
 obtain ⟨⟨e4_kind, e4_text, e4_cols, e4_kids⟩, he4, h⟩ := zAc h
 refine And.intro (zAw Nd.encs_eq he4).1 ?_
 have hset5 := (rset (R := Nd.encs) (f := Nd.enc) Nd.encs_eq he4 (Nd.mk kid3_kind kid3_text kid3_cols kid3_kids) 0 4 [.int .i64 kid3_kind, .str kid3_text, .int .i64 kid3_cols, .sl 4 (Nd.encs kid3_kids)] rfl)
 have hat5 := at_set he4 (Nd.mk kid3_kind kid3_text kid3_cols kid3_kids)
 refine And.intro (zAw Nd.encs_eq he4).2.2 ?_
 show Tri _ _ _ _
 refine zAm (Le.rename [(0, 0), (1, 1), (2, 2)] [(3, .op 0 0), (6, .op 2 0)] [(0, .box 24 [.s (.int .i64 n1_kind), .s (.str n1_text), .s (.int .i64 n1_cols), .orow 1]), (1, .row 24 4 (Nd.encs (n1_kids.set i2.toNat (Nd.mk kid3_kind kid3_text kid3_cols kid3_kids)))), (2, .box 24 [.s (.int .i64 0), .s (.str []), .s (.int .i64 0), .nl 4])] 3 ⟨rfl, rfl, trivial⟩ ⟨rfl, ⟨_, rfl, rfl⟩, rfl, ⟨_, rfl, congrArg (Ob.row 24 4) hset5⟩, rfl, ⟨_, rfl, rfl⟩, trivial⟩ rfl rfl rfl rfl rfl) ?_
 refine zAb ?_
 refine zAa (by exact tokW) (by exact gok) [] [] rfl ?_
 show Tri _ _ _ _
 refine zAi ?_
 have hy := Option.some.inj h
 subst hy
 unfold zAG
 exact ⟨_, (Le.trans (Le.rename [(2, 0), (1, 1)] [(6, .op 0 0)] [(0, .box 24 [.s (.int .i64 n1_kind), .s (.str n1_text), .s (.int .i64 n1_cols), .orow 1]), (1, .row 24 4 (Nd.encs (n1_kids.set i2.toNat (Nd.mk kid3_kind kid3_text kid3_cols kid3_kids))))] 2 ⟨rfl, trivial⟩ ⟨rfl, ⟨_, rfl, rfl⟩, rfl, ⟨_, rfl, rfl⟩, trivial⟩ rfl rfl rfl rfl rfl) (Le.giveRow 1 rfl)), rfl, rfl⟩
def zNG (xs : List AV) (r : Ret) : Prop := ∃ (a0 : Nd) (a1 : Int) (a2 : List Nd) (y0 : Nd), zCX a0 a1 a2 = some y0 ∧ xs = [.agg ((Nd.enc a0).map .s), .s (.int .i64 a1), .s (.sl 4 (Nd.encs a2))] ∧ r = .val (.agg ((Nd.enc y0).map .s))
def zIY : zAy := zAI fun xs r => zNG xs r
theorem zM1 : PSound Tryz.prog 53 zIY := by
 have gok : ∀ f s, look? f [(29, zEL), (54, zFo)] = some s → PSound Tryz.prog f s := zAA (by
  simp only [List.forall_mem_cons]
  exact ⟨zFh, zGz, by simp⟩)
 refine zAM tokW Tryz.call53 Tryz.func53 rfl (fun xs r h => by obtain ⟨_, _, _, _, _, rfl, _⟩ := h; show 3 ≤ 14; decide) 14 rfl ?_
 rintro xs r w0 G0 ⟨⟨n1_kind, n1_text, n1_cols, n1_kids⟩, slot2, l3, y0, h, rfl, rfl⟩ _
 rw [zCX] at h
 refine zAb ?_
 refine zAa (by exact tokW) (by exact gok) [6] [] rfl ?_
 show Tri _ _ _ _
 refine zAb ?_
 refine zD0 (by exact tokW) (by exact gok) (by exact mixed) [9, 11] [] [2, 4, 5, 7] [] rfl (by decide +kernel) ?_
 obtain ⟨hq, h⟩ := zAN h
 refine And.intro (show (([] : List (List S)).length + (Nd.encs l3).length) * 56 ≤ 140737488355328 ∧ ([] : List (List S)).length + (Nd.encs l3).length ≤ 9223372036854775807 from by simp only [List.length_append, List.length_cons, List.length_nil, List.length_map, rlen Nd.encs_eq] at hq ⊢; omega) ?_
 obtain ⟨⟨y4_kind, y4_text, y4_cols, y4_kids⟩, hy4, h⟩ := zAc h
 refine ⟨_, ⟨_, _, hy4, (congrArg (fun r => [AV.s (.sl 4 r)]) (show [] ++ (Nd.encs l3) = Nd.encs l3 from (by simp [List.map_append, List.map_take, List.map_drop, irow, brow, zAK, List.map_cons, List.map_nil, zAD, Nd.encs_eq, Nd.enc, zAn, zAh, zAl, zAu, zAv, zAr, zAB, zAd, zAz, zAt, zAQ, zAx, zBx]))), rfl⟩, ?_⟩
 obtain ⟨⟨y5_kind, y5_text, y5_cols, y5_kids⟩, hy5, h⟩ := zAc h
 refine ⟨_, ⟨_, _, _, _, hy5, rfl, rfl⟩, ?_⟩
 show Tri _ _ _ _
 refine zAi ?_
 have hy := Option.some.inj h
 subst hy
 unfold zAG
 exact ⟨_, Le.refl _ _, rfl, rfl⟩
def zNF (n : Nat) (xs : List AV) (r : Ret) : Prop := ∃ (a0 : List Nd) (a1 : (Int × List Int × Int × Int × List Nd × Int × List UInt8 × List UInt8)) (y0 : List Nd) (y1 : Int), zEh n a0 a1 = some (y0, y1) ∧ xs = [.s (.sl 4 (Nd.encs a0)), .agg ((zAQ a1).map .s)] ∧ r = .val (.tup [.s (.sl 4 (Nd.encs y0)), .s (.int .i64 y1)])
def zIX : zAy := zAI fun xs r => ∃ n, zNF n xs r
theorem zM0 : PSound Tryz.prog 36 zIX := by
 have gok : ∀ f s, look? f [(52, zIZ), (22, zGn), (53, zIY), (10, zFW)] = some s → PSound Tryz.prog f s := zAA (by
  simp only [List.forall_mem_cons]
  exact ⟨zM2, zJt, zM1, zGy, by simp⟩)
 refine zAM tokW Tryz.call36 Tryz.func36 rfl (fun xs r h => by obtain ⟨n, _, _, _, _, _, rfl, _⟩ := h; show 2 ≤ 173; decide) 173 rfl ?_
 rintro xs r w0 G0 ⟨n, a1, ⟨a2_kind, a2_row, a2_at, a2_n, a2_nodes, a2_slot, a2_old, a2_text⟩, y0, y1, h, rfl, rfl⟩ _
 rw [zEh] at h
 refine zAb ?_
 refine zAa (by exact tokW) (by exact gok) [] [] rfl ?_
 show Tri _ _ _ _
 refine zAb ?_
 refine zAa (by exact tokW) (by exact gok) [] [] rfl ?_
 show Tri _ _ _ _
 refine zAb ?_
 refine zAb ?_
 refine zAa (by exact tokW) (by exact gok) [] [] rfl ?_
 show Tri _ _ _ _
 obtain ⟨x3, hj, h⟩ := zAc h
 refine zAq ⟨ofL [(0, .s (.sl 4 (Nd.encs a1))), (3, .s (.pt [.int .i64 a2_kind, .sl 1 ((List.map (irow .i64)) a2_row), .int .i64 a2_at, .int .i64 a2_n, .sl 4 (Nd.encs a2_nodes), .int .i64 a2_slot, .str a2_old, .str a2_text])), (6, .s (.int .i64 x3))], fun _ => none, 0⟩ ?_ (fun σ' hle => ?_)
 ·replace h := hj
  refine zAp ?_
  refine zAb ?_
  refine zAa (by exact tokW) (by exact gok) [] [] rfl ?_
  show Tri _ _ _ _
  refine zAe rfl (fun hb => ?_) (fun hb => ?_)
  ·replace h := zAk hb h
   refine zAa (by exact tokW) (by exact gok) [] [] rfl ?_
   cases h
   exact (Le.forget _ ⟨rfl, rfl, rfl, trivial⟩)
  ·replace h := zAj hb h
   refine zAb ?_
   refine zAa (by exact tokW) (by exact gok) [] [] rfl ?_
   show Tri _ _ _ _
   refine zAe rfl (fun hb => ?_) (fun hb => ?_)
   ·replace h := zAk hb h
    refine zAa (by exact tokW) (by exact gok) [] [17] rfl ?_
    intro n4 hn4
    obtain rfl : (a2_nodes.length : Int) = n4 := (hn4.trans (congrArg (fun m : Nat => (m : Int)) (rlen Nd.encs_eq a2_nodes))).symm
    cases h
    exact (Le.forget _ ⟨rfl, rfl, rfl, trivial⟩)
   ·replace h := zAj hb h
    refine zAb ?_
    refine zAa (by exact tokW) (by exact gok) [] [] rfl ?_
    show Tri _ _ _ _
    refine zAe rfl (fun hb => ?_) (fun hb => ?_)
    ·replace h := zAk hb h
     refine zAa (by exact tokW) (by exact gok) [] [] rfl ?_
     cases h
     exact (Le.forget _ ⟨rfl, rfl, rfl, trivial⟩)
    ·replace h := zAj hb h
     refine zAg ?_
     cases h
     exact (Le.forget _ ⟨rfl, rfl, rfl, trivial⟩)
 ·show Tri _ _ _ _
  refine zAm hle ?_
  refine zAb ?_
  refine zAb ?_
  obtain ⟨x5, hj, h⟩ := zAc h
  refine zAq ⟨ofL [(0, .s (.sl 4 (Nd.encs a1))), (3, .s (.pt [.int .i64 a2_kind, .sl 1 ((List.map (irow .i64)) a2_row), .int .i64 a2_at, .int .i64 a2_n, .sl 4 (Nd.encs a2_nodes), .int .i64 a2_slot, .str a2_old, .str a2_text])), (6, .s (.int .i64 x3)), (40, .s (.bool x5))], fun _ => none, 0⟩ ?_ (fun σ' hle => ?_)
  ·replace h := hj
   refine zAa (by exact tokW) (by exact gok) [] [25, 29, 32, 35] rfl ?_
   intro b hb
   cases b with
   | true =>
    replace h := zAk hb.symm h
    intro b hb
    subst hb
    cases h
    exact (Le.forget _ ⟨rfl, rfl, rfl, rfl, trivial⟩)
   | false =>
    replace h := zAj hb.symm h
    intro n6 hn6
    obtain rfl : (a1.length : Int) = n6 := (hn6.trans (congrArg (fun m : Nat => (m : Int)) (rlen Nd.encs_eq a1))).symm
    intro b hb
    cases b with
    | true =>
     replace h := zAk hb.symm h
     cases h
     exact (Le.forget _ ⟨rfl, rfl, rfl, rfl, trivial⟩)
    | false =>
     replace h := zAj hb.symm h
     intro n7 hn7
     obtain rfl : (a1.length : Int) = n7 := (hn7.trans (congrArg (fun m : Nat => (m : Int)) (rlen Nd.encs_eq a1))).symm
     cases h
     exact (Le.forget _ ⟨rfl, rfl, rfl, rfl, trivial⟩)
  ·show Tri _ _ _ _
   refine zAm hle ?_
   refine zAe rfl (fun hb => ?_) (fun hb => ?_)
   ·replace h := zAk hb h
    refine zAb ?_
    refine zAa (by exact tokW) (by exact gok) [] [] rfl ?_
    show Tri _ _ _ _
    refine zAi ?_
    obtain ⟨hj1, hk1⟩ := Prod.mk.inj (Option.some.inj h)
    subst hj1
    subst hk1
    unfold zAG
    exact ⟨_, Le.refl _ _, rfl, rfl⟩
   ·replace h := zAj hb h
    refine zAg ?_
    show Tri _ _ _ _
    refine zAb ?_
    refine zAa (by exact tokW) (by exact gok) [] [] rfl ?_
    show Tri _ _ _ _
    refine zAb ?_
    refine zAb ?_
    refine zAa (by exact tokW) (by exact gok) [] [] rfl ?_
    show Tri _ _ _ _
    refine zAp ?_
    refine zAb ?_
    refine zAa (by exact tokW) (by exact gok) [] [] rfl ?_
    show Tri _ _ _ _
    refine zAe rfl (fun hb => ?_) (fun hb => ?_)
    ·replace h := zAk hb h
     refine zAb ?_
     refine zAa (by exact tokW) (by exact gok) [] [] rfl ?_
     obtain ⟨y8, hy8, h⟩ := zAc h
     refine ⟨_, ⟨_, _, _, _, _, hy8, rfl, rfl⟩, ?_⟩
     show Tri _ _ _ _
     refine zAi ?_
     obtain ⟨hj1, hk1⟩ := Prod.mk.inj (Option.some.inj h)
     subst hj1
     subst hk1
     unfold zAG
     exact ⟨_, Le.refl _ _, rfl, rfl⟩
    ·replace h := zAj hb h
     refine zAb ?_
     refine zAa (by exact tokW) (by exact gok) [] [] rfl ?_
     show Tri _ _ _ _
     refine zAe rfl (fun hb => ?_) (fun hb => ?_)
     ·replace h := zAk hb h
      refine zAb ?_
      refine zAb ?_
      refine zAC (by exact tokW) (by exact gok) (by exact mixed) [] [62] [] rfl (by decide +kernel) ?_
      obtain ⟨hq, h⟩ := zAN h
      refine And.intro ⟨hq.1, hq.2.1, Int.le_trans hq.2.2 (Int.ofNat_le.2 (Nat.le_of_eq (rlen Nd.encs_eq _).symm))⟩ ?_
      intro r9 hr9
      obtain rfl : Nd.encs ((a1.take (IntKind.i64.wrap (a2_at + x3)).toNat).drop a2_at.toNat) = r9 := (hr9.trans (rcut Nd.encs_eq _ _ _)).symm
      obtain ⟨y10, hy10, h⟩ := zAc h
      refine ⟨_, ⟨_, _, _, _, hy10, rfl, rfl⟩, ?_⟩
      show Tri _ _ _ _
      refine zAe rfl (fun hb => ?_) (fun hb => ?_)
      ·replace h := zAk hb h
       refine zAb ?_
       refine zAa (by exact tokW) (by exact gok) [] [] rfl ?_
       show Tri _ _ _ _
       refine zAi ?_
       obtain ⟨hj1, hk1⟩ := Prod.mk.inj (Option.some.inj h)
       subst hj1
       subst hk1
       unfold zAG
       exact ⟨_, Le.refl _ _, rfl, rfl⟩
      ·replace h := zAj hb h
       refine zAg ?_
       show Tri _ _ _ _
       refine zAb ?_
       refine zAa (by exact tokW) (by exact gok) [] [] rfl ?_
       obtain ⟨y11, hy11, h⟩ := zAc h
       refine ⟨_, ⟨_, _, _, _, _, hy11, rfl, rfl⟩, ?_⟩
       show Tri _ _ _ _
       refine zAi ?_
       obtain ⟨hj1, hk1⟩ := Prod.mk.inj (Option.some.inj h)
       subst hj1
       subst hk1
       unfold zAG
       exact ⟨_, Le.refl _ _, rfl, rfl⟩
     ·replace h := zAj hb h
      refine zAb ?_
      refine zAa (by exact tokW) (by exact gok) [] [] rfl ?_
      show Tri _ _ _ _
      refine zAe rfl (fun hb => ?_) (fun hb => ?_)
      ·replace h := zAk hb h
       refine zAb ?_
       refine zAC (by exact tokW) (by exact gok) (by exact mixed) [] [80, 88, 90] [] rfl (by decide +kernel) ?_
       obtain ⟨⟨e12_kind, e12_text, e12_cols, e12_kids⟩, he12, h⟩ := zAc h
       refine And.intro (zAw Nd.encs_eq he12).1 ?_
       intro r13 hr13
       obtain rfl : [.int .i64 e12_kind, .str e12_text, .int .i64 e12_cols, .sl 4 (Nd.encs e12_kids)] = r13 := (hr13.trans (zAw Nd.encs_eq he12).2.1).symm
       obtain ⟨hq, h⟩ := zAN h
       refine And.intro ⟨hq.1, hq.2.1, Int.le_trans hq.2.2 (Int.ofNat_le.2 (Nat.le_of_eq (rlen Nd.encs_eq _).symm))⟩ ?_
       intro r14 hr14
       obtain rfl : Nd.encs ((a1.take (IntKind.i64.wrap (a2_at + x3)).toNat).drop a2_at.toNat) = r14 := (hr14.trans (rcut Nd.encs_eq _ _ _)).symm
       obtain ⟨⟨y15_kind, y15_text, y15_cols, y15_kids⟩, hy15, h⟩ := zAc h
       refine ⟨_, ⟨_, _, _, _, hy15, rfl, rfl⟩, ?_⟩
       intro r16 hr16
       obtain rfl : Nd.encs [Nd.mk y15_kind y15_text y15_cols y15_kids] = r16 := (hr16.trans (by simp [List.map_append, List.map_take, List.map_drop, irow, brow, zAK, List.map_cons, List.map_nil, zAD, Nd.encs_eq, Nd.enc, zAn, zAh, zAl, zAu, zAv, zAr, zAB, zAd, zAz, zAt, zAQ, zAx, zBx])).symm
       obtain ⟨y17, hy17, h⟩ := zAc h
       refine ⟨_, ⟨_, _, _, _, _, hy17, rfl, rfl⟩, ?_⟩
       show Tri _ _ _ _
       refine zAi ?_
       obtain ⟨hj1, hk1⟩ := Prod.mk.inj (Option.some.inj h)
       subst hj1
       subst hk1
       unfold zAG
       exact ⟨_, Le.refl _ _, rfl, rfl⟩
      ·replace h := zAj hb h
       refine zAg ?_
       show Tri _ _ _ _
       refine zAb ?_
       refine zAa (by exact tokW) (by exact gok) [8] [95] rfl ?_
       obtain ⟨⟨e18_kind, e18_text, e18_cols, e18_kids⟩, he18, h⟩ := zAc h
       refine And.intro (zAw Nd.encs_eq he18).1 ?_
       intro r19 hr19
       obtain rfl : [.int .i64 e18_kind, .str e18_text, .int .i64 e18_cols, .sl 4 (Nd.encs e18_kids)] = r19 := (hr19.trans (zAw Nd.encs_eq he18).2.1).symm
       show Tri _ _ _ _
       refine zAb ?_
       refine zAb ?_
       refine zAa (by exact tokW) (by exact gok) [] [] rfl ?_
       show Tri _ _ _ _
       refine zAe rfl (fun hb => ?_) (fun hb => ?_)
       ·replace h := zAk hb h
        refine zAb ?_
        refine zAb ?_
        obtain ⟨x20, hj, h⟩ := zAc h
        refine zAq ⟨ofL [(0, .s (.sl 4 (Nd.encs a1))), (3, .s (.pt [.int .i64 a2_kind, .sl 1 ((List.map (irow .i64)) a2_row), .int .i64 a2_at, .int .i64 a2_n, .sl 4 (Nd.encs a2_nodes), .int .i64 a2_slot, .str a2_old, .str a2_text])), (7, .s (.int .i64 (IntKind.i64.wrap (a2_at + x3)))), (8, .op 0 0), (137, .s (.bool x20))], ofH [(0, .box 24 [.s (.int .i64 e18_kind), .s (.str e18_text), .s (.int .i64 e18_cols), .s (.sl 4 (Nd.encs e18_kids))])], 1⟩ ?_ (fun σ' hle => ?_)
        ·replace h := hj
         refine zAC (by exact tokW) (by exact gok) (by exact mixed) [] [104, 106, 111, 114, 119, 123, 131] [3, 8, 20, 28] rfl (by decide +kernel) ?_
         intro n21 hn21
         obtain rfl : (e18_kids.length : Int) = n21 := (hn21.trans (congrArg (fun m : Nat => (m : Int)) (rlen Nd.encs_eq e18_kids))).symm
         intro b hb
         cases b with
         | true =>
          replace h := zAk hb.symm h
          intro b hb
          subst hb
          cases h
          exact (Le.rename [(0, 0)] _ _ _ ⟨rfl, rfl, rfl, rfl, rfl, trivial⟩ ⟨rfl, ⟨_, rfl, rfl⟩, trivial⟩ rfl rfl rfl rfl rfl)
         | false =>
          replace h := zAj hb.symm h
          obtain ⟨⟨e22_kind, e22_text, e22_cols, e22_kids⟩, he22, h⟩ := zAc h
          refine And.intro (zAw Nd.encs_eq he22).1 ?_
          intro r23 hr23
          obtain rfl : [.int .i64 e22_kind, .str e22_text, .int .i64 e22_cols, .sl 4 (Nd.encs e22_kids)] = r23 := (hr23.trans (zAw Nd.encs_eq he22).2.1).symm
          intro n24 hn24
          obtain rfl : (e22_kids.length : Int) = n24 := (hn24.trans (congrArg (fun m : Nat => (m : Int)) (rlen Nd.encs_eq e22_kids))).symm
          intro b hb
          cases b with
          | true =>
           replace h := zAk hb.symm h
           cases h
           exact (Le.rename [(0, 0)] _ _ _ ⟨rfl, rfl, rfl, rfl, rfl, trivial⟩ ⟨rfl, ⟨_, rfl, rfl⟩, trivial⟩ rfl rfl rfl rfl rfl)
          | false =>
           replace h := zAj hb.symm h
           obtain ⟨⟨e25_kind, e25_text, e25_cols, e25_kids⟩, he25, h⟩ := zAc h
           refine And.intro (zAw Nd.encs_eq he25).1 ?_
           intro r26 hr26
           obtain rfl : [.int .i64 e25_kind, .str e25_text, .int .i64 e25_cols, .sl 4 (Nd.encs e25_kids)] = r26 := (hr26.trans (zAw Nd.encs_eq he25).2.1).symm
           obtain ⟨⟨e27_kind, e27_text, e27_cols, e27_kids⟩, he27, h⟩ := zAc h
           refine And.intro (zAw Nd.encs_eq he27).1 ?_
           intro r28 hr28
           obtain rfl : [.int .i64 e27_kind, .str e27_text, .int .i64 e27_cols, .sl 4 (Nd.encs e27_kids)] = r28 := (hr28.trans (zAw Nd.encs_eq he27).2.1).symm
           obtain ⟨⟨y29_kind, y29_text, y29_cols, y29_kids⟩, hy29, h⟩ := zAc h
           refine ⟨_, ⟨_, _, _, _, hy29, rfl, rfl⟩, ?_⟩
           obtain ⟨y30, hy30, h⟩ := zAc h
           refine ⟨_, ⟨_, _, _, _, hy30, rfl, rfl⟩, ?_⟩
           cases h
           exact (Le.rename [(0, 0)] _ _ _ ⟨rfl, rfl, rfl, rfl, rfl, trivial⟩ ⟨rfl, ⟨_, rfl, rfl⟩, trivial⟩ rfl rfl rfl rfl rfl)
        ·show Tri _ _ _ _
         refine zAm hle ?_
         refine zAe rfl (fun hb => ?_) (fun hb => ?_)
         ·replace h := zAk hb h
          refine zAb ?_
          refine zAa (by exact tokW) (by exact gok) [] [] rfl ?_
          show Tri _ _ _ _
          refine zAi ?_
          obtain ⟨hj1, hk1⟩ := Prod.mk.inj (Option.some.inj h)
          subst hj1
          subst hk1
          unfold zAG
          exact ⟨_, Le.refl _ _, rfl, rfl⟩
         ·replace h := zAj hb h
          refine zAg ?_
          show Tri _ _ _ _
          refine zAb ?_
          refine zAC (by exact tokW) (by exact gok) (by exact mixed) [] [146] [5] rfl (by decide +kernel) ?_
          obtain ⟨⟨e31_kind, e31_text, e31_cols, e31_kids⟩, he31, h⟩ := zAc h
          refine And.intro (zAw Nd.encs_eq he31).1 ?_
          intro r32 hr32
          obtain rfl : [.int .i64 e31_kind, .str e31_text, .int .i64 e31_cols, .sl 4 (Nd.encs e31_kids)] = r32 := (hr32.trans (zAw Nd.encs_eq he31).2.1).symm
          obtain ⟨y33, hy33, h⟩ := zAc h
          refine ⟨_, ⟨_, _, _, _, _, hy33, rfl, rfl⟩, ?_⟩
          show Tri _ _ _ _
          refine zAi ?_
          obtain ⟨hj1, hk1⟩ := Prod.mk.inj (Option.some.inj h)
          subst hj1
          subst hk1
          unfold zAG
          exact ⟨_, Le.refl _ _, rfl, rfl⟩
       ·replace h := zAj hb h
        refine zAg ?_
        show Tri _ _ _ _
        refine zAb ?_
        refine zAb ?_
        refine zAa (by exact tokW) (by exact gok) [] [] rfl ?_
        show Tri _ _ _ _
        obtain ⟨fl, hj, ho1⟩ := zAc h
        refine zCY (fl := fl) (fun z => match z with | _ => ⟨ofL [], fun _ => none, 0⟩) ?_ (fun z σ' hz hle => ?_)
        ·replace h := hj
         refine zAp ?_
         refine zAb ?_
         refine zAb ?_
         refine zAa (by exact tokW) (by exact gok) [] [] rfl ?_
         show Tri _ _ _ _
         obtain ⟨x34, hj, h⟩ := zAc h
         refine zAq ⟨ofL [(0, .s (.sl 4 (Nd.encs a1))), (3, .s (.pt [.int .i64 a2_kind, .sl 1 ((List.map (irow .i64)) a2_row), .int .i64 a2_at, .int .i64 a2_n, .sl 4 (Nd.encs a2_nodes), .int .i64 a2_slot, .str a2_old, .str a2_text])), (7, .s (.int .i64 (IntKind.i64.wrap (a2_at + x3)))), (8, .op 0 0), (152, .s (.bool x34))], ofH [(0, .box 24 [.s (.int .i64 e18_kind), .s (.str e18_text), .s (.int .i64 e18_cols), .s (.sl 4 (Nd.encs e18_kids))])], 1⟩ ?_ (fun σ' hle => ?_)
         ·replace h := hj
          refine zAe rfl (fun hb => ?_) (fun hb => ?_)
          ·replace h := zAk hb h
           refine zAg ?_
           cases h
           exact (Le.rename [(0, 0)] _ _ _ ⟨rfl, rfl, rfl, rfl, rfl, trivial⟩ ⟨rfl, ⟨_, rfl, rfl⟩, trivial⟩ rfl rfl rfl rfl rfl)
          ·replace h := zAj hb h
           refine zAb ?_
           refine zAa (by exact tokW) (by exact gok) [] [] rfl ?_
           show Tri _ _ _ _
           refine zAe rfl (fun hb => ?_) (fun hb => ?_)
           ·replace h := zAk hb h
            refine zAg ?_
            cases h
            exact (Le.rename [(0, 0)] _ _ _ ⟨rfl, rfl, rfl, rfl, rfl, trivial⟩ ⟨rfl, ⟨_, rfl, rfl⟩, trivial⟩ rfl rfl rfl rfl rfl)
           ·replace h := zAj hb h
            refine zAb ?_
            refine zAa (by exact tokW) (by exact gok) [] [] rfl ?_
            show Tri _ _ _ _
            refine zAe rfl (fun hb => ?_) (fun hb => ?_)
            ·replace h := zAk hb h
             refine zAg ?_
             cases h
             exact (Le.rename [(0, 0)] _ _ _ ⟨rfl, rfl, rfl, rfl, rfl, trivial⟩ ⟨rfl, ⟨_, rfl, rfl⟩, trivial⟩ rfl rfl rfl rfl rfl)
            ·replace h := zAj hb h
             refine zAb ?_
             refine zAa (by exact tokW) (by exact gok) [] [] rfl ?_
             show Tri _ _ _ _
             refine zAe rfl (fun hb => ?_) (fun hb => ?_)
             ·replace h := zAk hb h
              refine zAg ?_
              cases h
              exact (Le.rename [(0, 0)] _ _ _ ⟨rfl, rfl, rfl, rfl, rfl, trivial⟩ ⟨rfl, ⟨_, rfl, rfl⟩, trivial⟩ rfl rfl rfl rfl rfl)
             ·replace h := zAj hb h
              refine zAa (by exact tokW) (by exact gok) [] [] rfl ?_
              cases h
              exact (Le.rename [(0, 0)] _ _ _ ⟨rfl, rfl, rfl, rfl, rfl, trivial⟩ ⟨rfl, ⟨_, rfl, rfl⟩, trivial⟩ rfl rfl rfl rfl rfl)
         ·show Tri _ _ _ _
          refine zAm hle ?_
          refine zAe rfl (fun hb => ?_) (fun hb => ?_)
          ·replace h := zAk hb h
           refine zAb ?_
           refine zAa (by exact tokW) (by exact gok) [] [] rfl ?_
           show Tri _ _ _ _
           refine zAe rfl (fun hb => ?_) (fun hb => ?_)
           ·replace h := zAk hb h
            refine zAb ?_
            refine zAa (by exact tokW) (by exact gok) [] [] rfl ?_
            show Tri _ _ _ _
            refine zAb ?_
            refine zAa (by exact tokW) (by exact gok) [] [171] rfl ?_
            intro r35 hr35
            obtain rfl : Nd.encs [Nd.mk e18_kind a2_text e18_cols e18_kids] = r35 := (hr35.trans (by simp [List.map_append, List.map_take, List.map_drop, irow, brow, zAK, List.map_cons, List.map_nil, zAD, Nd.encs_eq, Nd.enc, zAn, zAh, zAl, zAu, zAv, zAr, zAB, zAd, zAz, zAt, zAQ, zAx, zBx])).symm
            obtain ⟨y36, hy36, h⟩ := zAc h
            refine ⟨_, ⟨_, _, _, _, _, hy36, rfl, rfl⟩, ?_⟩
            show Tri _ _ _ _
            refine zAi ?_
            cases h
            replace h : some _ = some _ := ho1
            obtain ⟨hj1, hk1⟩ := Prod.mk.inj (Option.some.inj h)
            subst hj1
            subst hk1
            unfold zAG
            exact ⟨_, Le.refl _ _, rfl, rfl⟩
           ·replace h := zAj hb h
            refine zAg ?_
            cases h
            exact ⟨_, rfl, (Le.rename [] _ [] 0 trivial trivial rfl rfl rfl rfl rfl)⟩
          ·replace h := zAj hb h
           refine zAg ?_
           cases h
           exact ⟨_, rfl, (Le.rename [] _ [] 0 trivial trivial rfl rfl rfl rfl rfl)⟩
        ·subst hz
         obtain _ := z
         replace h := ho1
         show Tri _ _ _ _
         refine zAm hle ?_
         refine zAb ?_
         refine zAa (by exact tokW) (by exact gok) [] [] rfl ?_
         show Tri _ _ _ _
         refine zAi ?_
         obtain ⟨hj1, hk1⟩ := Prod.mk.inj (Option.some.inj h)
         subst hj1
         subst hk1
         unfold zAG
         exact ⟨_, Le.refl _ _, rfl, rfl⟩
def zGf (n : Nat) (xs : List AV) (r : Ret) : Prop := ∃ (a0 : Nd) (a1 : List Int) (a2 : List Nd) (y0 : Nd), zEi n a0 a1 a2 = some y0 ∧ xs = [.agg ((Nd.enc a0).map .s), .s (.sl 1 ((List.map (irow .i64)) a1)), .s (.sl 4 (Nd.encs a2))] ∧ r = .val (.agg ((Nd.enc y0).map .s))
theorem zO1 (n : Nat) (ih : PSound Tryz.prog 37 (zAI (zGf n))) : PSound Tryz.prog 37 (zAI (zGf (n + 1))) := by
 have gok : ∀ f s, look? f [(29, zEL), (37, zAI (zGf n)), (54, zFo)] = some s → PSound Tryz.prog f s := zAA (by
  simp only [List.forall_mem_cons]
  exact ⟨zFh, ih, zGz, by simp⟩)
 refine zAM tokW Tryz.call37 Tryz.func37 rfl (fun xs r h => by obtain ⟨_, _, _, _, _, rfl, _⟩ := h; show 3 ≤ 41; decide) 41 rfl ?_
 rintro xs r w0 G0 ⟨⟨n1_kind, n1_text, n1_cols, n1_kids⟩, path2, l3, y0, h, rfl, rfl⟩ _
 rw [zEi] at h
 refine zAb ?_
 refine zAa (by exact tokW) (by exact gok) [6] [] rfl ?_
 show Tri _ _ _ _
 refine zAb ?_
 refine zAb ?_
 refine zAa (by exact tokW) (by exact gok) [] [9] rfl ?_
 intro n4 hn4
 obtain rfl : (path2.length : Int) = n4 := (hn4.trans (congrArg (fun m : Nat => (m : Int)) (rlen (fun _ => rfl) path2))).symm
 show Tri _ _ _ _
 refine zAe rfl (fun hb => ?_) (fun hb => ?_)
 ·replace h := zAk hb h
  refine zAb ?_
  refine zAa (by exact tokW) (by exact gok) [] [] rfl ?_
  obtain ⟨⟨y5_kind, y5_text, y5_cols, y5_kids⟩, hy5, h⟩ := zAc h
  refine ⟨_, ⟨_, _, hy5, rfl, rfl⟩, ?_⟩
  show Tri _ _ _ _
  refine zAi ?_
  have hy := Option.some.inj h
  subst hy
  unfold zAG
  exact ⟨_, Le.refl _ _, rfl, rfl⟩
 ·replace h := zAj hb h
  refine zAg ?_
  show Tri _ _ _ _
  refine zAb ?_
  refine zD0 (by exact tokW) (by exact gok) (by exact mixed) [7] [16, 18] [7, 8] [] rfl (by decide +kernel) ?_
  obtain ⟨e6, he6, h⟩ := zAc h
  refine And.intro (zAw (fun _ => rfl) he6).1 ?_
  intro r7 hr7
  obtain rfl : [.int .i64 e6] = r7 := (hr7.trans (zAw (fun _ => rfl) he6).2.1).symm
  obtain ⟨⟨e8_kind, e8_text, e8_cols, e8_kids⟩, he8, h⟩ := zAc h
  refine And.intro (zAw Nd.encs_eq he8).1 ?_
  intro r9 hr9
  obtain rfl : [.int .i64 e8_kind, .str e8_text, .int .i64 e8_cols, .sl 4 (Nd.encs e8_kids)] = r9 := (hr9.trans (zAw Nd.encs_eq he8).2.1).symm
  show Tri _ _ _ _
  refine zAm (Le.giveBox 1 [.int .i64 e8_kind, .str e8_text, .int .i64 e8_cols, .sl 4 (Nd.encs e8_kids)] rfl rfl) ?_
  refine zAb ?_
  refine zAC (by exact tokW) (by exact gok) (by exact mixed) [] [22, 26, 31, 33, 36] [21] rfl (by decide +kernel) ?_
  obtain ⟨e10, he10, h⟩ := zAc h
  refine And.intro (zAw (fun _ => rfl) he10).1 ?_
  intro r11 hr11
  obtain rfl : [.int .i64 e10] = r11 := (hr11.trans (zAw (fun _ => rfl) he10).2.1).symm
  obtain ⟨e12, he12, h⟩ := zAc h
  refine And.intro (zAw (fun _ => rfl) he12).1 ?_
  intro r13 hr13
  obtain rfl : [.int .i64 e12] = r13 := (hr13.trans (zAw (fun _ => rfl) he12).2.1).symm
  obtain ⟨e14, he14, h⟩ := zAc h
  refine And.intro (zAw (fun _ => rfl) he14).1 ?_
  intro r15 hr15
  obtain rfl : [.int .i64 e14] = r15 := (hr15.trans (zAw (fun _ => rfl) he14).2.1).symm
  obtain ⟨⟨e16_kind, e16_text, e16_cols, e16_kids⟩, he16, h⟩ := zAc h
  refine And.intro (zAw Nd.encs_eq he16).1 ?_
  intro r17 hr17
  obtain rfl : [.int .i64 e16_kind, .str e16_text, .int .i64 e16_cols, .sl 4 (Nd.encs e16_kids)] = r17 := (hr17.trans (zAw Nd.encs_eq he16).2.1).symm
  obtain ⟨hq, h⟩ := zAN h
  refine And.intro ⟨hq.1, Int.le_trans hq.2.1 (Int.ofNat_le.2 (Nat.le_of_eq (rlen (fun _ => rfl) _).symm)), Int.le_refl _⟩ ?_
  intro r18 hr18
  obtain rfl : (List.map (irow .i64)) ((path2.take (path2.length : Int).toNat).drop (2 : Int).toNat) = r18 := (hr18.trans ((congrArg (fun m : Nat => (((List.map (irow .i64)) path2).take m).drop (2 : Int).toNat) (rlen (fun _ => rfl) _)).trans (rcut (fun _ => rfl) _ _ _))).symm
  obtain ⟨⟨y19_kind, y19_text, y19_cols, y19_kids⟩, hy19, h⟩ := zAc h
  refine ⟨_, ⟨_, _, _, _, hy19, rfl, rfl⟩, ?_⟩
  obtain ⟨⟨y20_kind, y20_text, y20_cols, y20_kids⟩, hy20, h⟩ := zAc h
  refine ⟨_, ⟨_, _, _, _, hy20, rfl, rfl⟩, ?_⟩
  obtain ⟨⟨y21_kind, y21_text, y21_cols, y21_kids⟩, hy21, h⟩ := zAc h
  refine ⟨_, ⟨_, _, _, _, hy21, rfl, rfl⟩, ?_⟩
  show Tri _ _ _ _
  refine zAi ?_
  have hy := Option.some.inj h
  subst hy
  unfold zAG
  exact ⟨_, Le.refl _ _, rfl, rfl⟩
theorem zPo : ∀ n, PSound Tryz.prog 37 (zAI (zGf n)) := by
 intro n
 induction n with
 | zero => exact zB5 Tryz.call37 (fun xs r h => by obtain ⟨_, _, _, _, h, _⟩ := h; cases h)
 | succ n ih => exact zO1 n ih
def zNM : zAy := zAI fun xs r => ∃ n, zGf n xs r
theorem zQ2 : PSound Tryz.prog 37 zNM := zDe zPo
def zPj (n : Nat) (xs : List AV) (r : Ret) : Prop := ∃ (a0 : Nd) (a1 : (Int × List Int × Int × Int × List Nd × Int × List UInt8 × List UInt8)) (y0 : Nd) (y1 : Int), zEX n a0 a1 = some (y0, y1) ∧ xs = [.agg ((Nd.enc a0).map .s), .agg ((zAQ a1).map .s)] ∧ r = .val (.tup [.agg ((Nd.enc y0).map .s), .s (.int .i64 y1)])
def zJW : zAy := zAI fun xs r => ∃ n, zPj n xs r
theorem zOz : PSound Tryz.prog 26 zJW := by
 have gok : ∀ f s, look? f [(25, zEM), (34, zIW), (35, zNK), (36, zIX), (37, zNM)] = some s → PSound Tryz.prog f s := zAA (by
  simp only [List.forall_mem_cons]
  exact ⟨zFi, zMZ, zQ0, zM0, zQ2, by simp⟩)
 refine zAM tokW Tryz.call26 Tryz.func26 rfl (fun xs r h => by obtain ⟨n, _, _, _, _, _, rfl, _⟩ := h; show 2 ≤ 50; decide) 50 rfl ?_
 rintro xs r w0 G0 ⟨n, ⟨n1_kind, n1_text, n1_cols, n1_kids⟩, ⟨op2_kind, op2_row, op2_at, op2_n, op2_nodes, op2_slot, op2_old, op2_text⟩, y0, y1, h, rfl, rfl⟩ _
 rw [zEX] at h
 refine zAb ?_
 refine zAa (by exact tokW) (by exact gok) [4] [] rfl ?_
 show Tri _ _ _ _
 refine zAb ?_
 refine zAb ?_
 refine zAa (by exact tokW) (by exact gok) [] [] rfl ?_
 obtain ⟨y3, hy3, h⟩ := zAc h
 refine ⟨_, ⟨_, _, _, hy3, rfl, rfl⟩, ?_⟩
 show Tri _ _ _ _
 refine zAe rfl (fun hb => ?_) (fun hb => ?_)
 ·replace h := zAk hb h
  refine zAb ?_
  refine zAa (by exact tokW) (by exact gok) [] [] rfl ?_
  show Tri _ _ _ _
  refine zAi ?_
  obtain ⟨hj1, hk1⟩ := Prod.mk.inj (Option.some.inj h)
  subst hj1
  subst hk1
  unfold zAG
  exact ⟨_, Le.refl _ _, rfl, rfl⟩
 ·replace h := zAj hb h
  refine zAg ?_
  show Tri _ _ _ _
  refine zAb ?_
  refine zAb ?_
  refine zAa (by exact tokW) (by exact gok) [] [] rfl ?_
  obtain ⟨y4, hy4, h⟩ := zAc h
  refine ⟨_, ⟨_, _, _, hy4, rfl, rfl⟩, ?_⟩
  show Tri _ _ _ _
  refine zAe rfl (fun hb => ?_) (fun hb => ?_)
  ·replace h := zAk hb h
   refine zAb ?_
   refine zAa (by exact tokW) (by exact gok) [] [] rfl ?_
   show Tri _ _ _ _
   refine zAi ?_
   obtain ⟨hj1, hk1⟩ := Prod.mk.inj (Option.some.inj h)
   subst hj1
   subst hk1
   unfold zAG
   exact ⟨_, Le.refl _ _, rfl, rfl⟩
  ·replace h := zAj hb h
   refine zAg ?_
   show Tri _ _ _ _
   refine zAb ?_
   refine zAa (by exact tokW) (by exact gok) [6] [] rfl ?_
   obtain ⟨⟨⟨y5_kind, y5_text, y5_cols, y5_kids⟩, y6⟩, hy5, h⟩ := zAc h
   refine ⟨_, ⟨_, _, _, _, _, hy5, rfl, rfl⟩, ?_⟩
   show Tri _ _ _ _
   refine zAm (Le.giveBox 1 [.int .i64 y5_kind, .str y5_text, .int .i64 y5_cols, .sl 4 (Nd.encs y5_kids)] rfl rfl) ?_
   refine zAb ?_
   refine zAb ?_
   refine zAa (by exact tokW) (by exact gok) [] [] rfl ?_
   show Tri _ _ _ _
   refine zAe rfl (fun hb => ?_) (fun hb => ?_)
   ·replace h := zAk hb h
    refine zAb ?_
    refine zAa (by exact tokW) (by exact gok) [] [] rfl ?_
    show Tri _ _ _ _
    refine zAi ?_
    obtain ⟨hj1, hk1⟩ := Prod.mk.inj (Option.some.inj h)
    subst hj1
    subst hk1
    unfold zAG
    exact ⟨_, Le.refl _ _, rfl, rfl⟩
   ·replace h := zAj hb h
    refine zAg ?_
    show Tri _ _ _ _
    refine zAb ?_
    refine zAa (by exact tokW) (by exact gok) [] [] rfl ?_
    obtain ⟨⟨y7, y8⟩, hy7, h⟩ := zAc h
    refine ⟨_, ⟨_, _, _, _, _, hy7, rfl, rfl⟩, ?_⟩
    show Tri _ _ _ _
    refine zAb ?_
    refine zAb ?_
    refine zAa (by exact tokW) (by exact gok) [] [] rfl ?_
    show Tri _ _ _ _
    refine zAe rfl (fun hb => ?_) (fun hb => ?_)
    ·replace h := zAk hb h
     refine zAb ?_
     refine zAa (by exact tokW) (by exact gok) [] [] rfl ?_
     show Tri _ _ _ _
     refine zAi ?_
     obtain ⟨hj1, hk1⟩ := Prod.mk.inj (Option.some.inj h)
     subst hj1
     subst hk1
     unfold zAG
     exact ⟨_, Le.refl _ _, rfl, rfl⟩
    ·replace h := zAj hb h
     refine zAg ?_
     show Tri _ _ _ _
     refine zAb ?_
     refine zAa (by exact tokW) (by exact gok) [9] [] rfl ?_
     obtain ⟨⟨y9_kind, y9_text, y9_cols, y9_kids⟩, hy9, h⟩ := zAc h
     refine ⟨_, ⟨_, _, _, _, _, hy9, rfl, rfl⟩, ?_⟩
     show Tri _ _ _ _
     refine zAm (Le.giveBox 2 [.int .i64 y9_kind, .str y9_text, .int .i64 y9_cols, .sl 4 (Nd.encs y9_kids)] rfl rfl) ?_
     refine zAb ?_
     refine zAb ?_
     refine zAa (by exact tokW) (by exact gok) [] [] rfl ?_
     obtain ⟨y10, hy10, h⟩ := zAc h
     refine ⟨_, ⟨_, _, _, hy10, rfl, rfl⟩, ?_⟩
     show Tri _ _ _ _
     refine zAe rfl (fun hb => ?_) (fun hb => ?_)
     ·replace h := zAk hb h
      refine zAb ?_
      refine zAa (by exact tokW) (by exact gok) [] [] rfl ?_
      show Tri _ _ _ _
      refine zAi ?_
      obtain ⟨hj1, hk1⟩ := Prod.mk.inj (Option.some.inj h)
      subst hj1
      subst hk1
      unfold zAG
      exact ⟨_, Le.refl _ _, rfl, rfl⟩
     ·replace h := zAj hb h
      refine zAg ?_
      show Tri _ _ _ _
      refine zAb ?_
      refine zAa (by exact tokW) (by exact gok) [] [] rfl ?_
      show Tri _ _ _ _
      refine zAi ?_
      obtain ⟨hj1, hk1⟩ := Prod.mk.inj (Option.some.inj h)
      subst hj1
      subst hk1
      unfold zAG
      exact ⟨_, Le.refl _ _, rfl, rfl⟩
def zK5 (n : Nat) (xs : List AV) (r : Ret) : Prop := ∃ (a0 : Nd) (a1 : List (Int × List Int × Int × Int × List Nd × Int × List UInt8 × List UInt8)) (y0 : Nd) (y1 : Int) (y2 : Int), zBq n a0 a1 = some (y0, y1, y2) ∧ xs = [.agg ((Nd.enc a0).map .s), .s (.sl 8 ((List.map zAQ) a1))] ∧ r = .val (.tup [.agg ((Nd.enc y0).map .s), .s (.int .i64 y1), .s (.int .i64 y2)])
def zG6 : zAy := zAI fun xs r => ∃ n, zK5 n xs r
theorem zKy : PSound Tryz.prog 16 zG6 := by
 have gok : ∀ f s, look? f [(25, zEM), (26, zJW)] = some s → PSound Tryz.prog f s := zAA (by
  simp only [List.forall_mem_cons]
  exact ⟨zFi, zOz, by simp⟩)
 refine zAM tokW Tryz.call16 Tryz.func16 rfl (fun xs r h => by obtain ⟨n, _, _, _, _, _, _, rfl, _⟩ := h; show 2 ≤ 36; decide) 36 rfl ?_
 rintro xs r w0 G0 ⟨n, ⟨n1_kind, n1_text, n1_cols, n1_kids⟩, ops2, y0, y1, y2, h, rfl, rfl⟩ _
 rw [zBq] at h
 refine zAb ?_
 refine zAa (by exact tokW) (by exact gok) [2, 4] [] rfl ?_
 show Tri _ _ _ _
 refine zAb ?_
 refine zAb ?_
 refine zAa (by exact tokW) (by exact gok) [] [] rfl ?_
 obtain ⟨y3, hy3, h⟩ := zAc h
 refine ⟨_, ⟨_, _, _, hy3, rfl, rfl⟩, ?_⟩
 show Tri _ _ _ _
 refine zAe rfl (fun hb => ?_) (fun hb => ?_)
 ·replace h := zAk hb h
  refine zAb ?_
  refine zAa (by exact tokW) (by exact gok) [] [] rfl ?_
  show Tri _ _ _ _
  refine zAi ?_
  obtain ⟨hj1, hk1⟩ := Prod.mk.inj (Option.some.inj h)
  subst hj1
  obtain ⟨hj2, hk2⟩ := Prod.mk.inj hk1
  subst hj2
  subst hk2
  unfold zAG
  exact ⟨_, Le.refl _ _, rfl, rfl⟩
 ·replace h := zAj hb h
  refine zAg ?_
  show Tri _ _ _ _
  refine zAb ?_
  refine zAb ?_
  refine zAa (by exact tokW) (by exact gok) [] [] rfl ?_
  show Tri _ _ _ _
  obtain ⟨fl, hl, ho1⟩ := zAc h
  refine zCY (fl := fl) (fun z => match z with | ⟨x10, x11, x12, x13⟩ => ⟨ofL [(2, .op 0 0), (4, .op 1 0)], ofH [(0, .box 24 [.s (.int .i64 x10), .s (.str x11), .s (.int .i64 x12), .s (.sl 4 (Nd.encs x13))]), (1, .box 24 [.s (.int .i64 0), .s (.str []), .s (.int .i64 0), .nl 4])], 2⟩) ?_ (fun z σ' hz hle => ?_)
  ·refine zAp (zAJ (X := Nat × Int × (List UInt8) × Int × (List Nd) × Int) (fun y => match y with | (k, x4, x5, x6, x7, i9) => ⟨ofL [(1, .s (.sl 8 ((List.map zAQ) ops2))), (2, .op 0 0), (4, .op 1 0), (7, .s (.int .i64 i9))], ofH [(0, .box 24 [.s (.int .i64 x4), .s (.str x5), .s (.int .i64 x6), .s (.sl 4 (Nd.encs x7))]), (1, .box 24 [.s (.int .i64 0), .s (.str []), .s (.int .i64 0), .nl 4])], 2⟩) (fun y => zBA n ops2 y.1 y.2.1 y.2.2.1 y.2.2.2.1 y.2.2.2.2.1 y.2.2.2.2.2 = some fl) (fun y => y.1) (n, n1_kind, n1_text, n1_cols, n1_kids, 0) hl ?_ ?_)
   ·exact (Le.rename [(0, 0), (1, 1)] _ _ _ ⟨rfl, rfl, rfl, rfl, trivial⟩ ⟨rfl, ⟨_, rfl, rfl⟩, rfl, ⟨_, rfl, rfl⟩, trivial⟩ rfl rfl rfl rfl rfl)
   ·rintro ⟨k, x4, x5, x6, x7, i9⟩ h
    cases k with
    | zero => cases h
    | succ k =>
     replace h : zBA n ops2 (k+1) x4 x5 x6 x7 i9 = some fl := h
     rw [zBA] at h
     refine zAb ?_
     refine zAb ?_
     refine zAa (by exact tokW) (by exact gok) [] [16] rfl ?_
     intro n14 hn14
     obtain rfl : (ops2.length : Int) = n14 := (hn14.trans (congrArg (fun m : Nat => (m : Int)) (rlen (fun _ => rfl) ops2))).symm
     show Tri _ _ _ _
     refine zAe rfl (fun hb => ?_) (fun hb => ?_)
     ·replace h := zAk hb h
      refine zAg ?_
      show Tri _ _ _ _
      refine zAb ?_
      refine zAp ?_
      refine zAb ?_
      refine zD0 (by exact tokW) (by exact gok) (by exact mixed) [8] [24] [0, 9, 10] [0] rfl (by decide +kernel) ?_
      obtain ⟨⟨e15_kind, e15_row, e15_at, e15_n, e15_nodes, e15_slot, e15_old, e15_text⟩, he15, h⟩ := zAc h
      refine And.intro (zAw (fun _ => rfl) he15).1 ?_
      intro r16 hr16
      obtain rfl : [.int .i64 e15_kind, .sl 1 ((List.map (irow .i64)) e15_row), .int .i64 e15_at, .int .i64 e15_n, .sl 4 (Nd.encs e15_nodes), .int .i64 e15_slot, .str e15_old, .str e15_text] = r16 := (hr16.trans (zAw (fun _ => rfl) he15).2.1).symm
      obtain ⟨⟨⟨y17_kind, y17_text, y17_cols, y17_kids⟩, y18⟩, hy17, h⟩ := zAc h
      refine ⟨_, ⟨_, _, _, _, _, hy17, rfl, rfl⟩, ?_⟩
      show Tri _ _ _ _
      refine zAm (Le.giveBox 2 [.int .i64 y17_kind, .str y17_text, .int .i64 y17_cols, .sl 4 (Nd.encs y17_kids)] rfl rfl) ?_
      refine zAb ?_
      refine zAb ?_
      refine zAa (by exact tokW) (by exact gok) [] [] rfl ?_
      show Tri _ _ _ _
      refine zAe rfl (fun hb => ?_) (fun hb => ?_)
      ·replace h := zAk hb h
       refine zAb ?_
       refine zAa (by exact tokW) (by exact gok) [] [] rfl ?_
       show Tri _ _ _ _
       refine zAi ?_
       cases h
       replace h : some _ = some _ := ho1
       obtain ⟨hj1, hk1⟩ := Prod.mk.inj (Option.some.inj h)
       subst hj1
       obtain ⟨hj2, hk2⟩ := Prod.mk.inj hk1
       subst hj2
       subst hk2
       unfold zAG
       exact ⟨_, Le.refl _ _, rfl, rfl⟩
      ·replace h := zAj hb h
       refine zAg ?_
       show Tri _ _ _ _
       refine zAa (by exact tokW) (by exact gok) [] [] rfl ?_
       show Tri _ _ _ _
       refine zAa (by exact tokW) (by exact gok) [] [] rfl ?_
       refine ⟨(k, y17_kind, y17_text, y17_cols, y17_kids, IntKind.i64.wrap (i9 + 1)), h, (Le.rename [(0, 0), (1, 1)] _ _ _ ⟨rfl, rfl, rfl, rfl, trivial⟩ ⟨rfl, ⟨_, rfl, rfl⟩, rfl, ⟨_, rfl, rfl⟩, trivial⟩ rfl rfl rfl rfl rfl), Nat.lt_succ_self k⟩
     ·replace h := zAj hb h
      refine zAL ?_
      cases h
      exact ⟨_, rfl, (Le.rename [(0, 0), (1, 1)] _ _ _ ⟨rfl, rfl, trivial⟩ ⟨rfl, ⟨_, rfl, rfl⟩, rfl, ⟨_, rfl, rfl⟩, trivial⟩ rfl rfl rfl rfl rfl)⟩
  ·subst hz
   obtain ⟨x10, x11, x12, x13⟩ := z
   replace h := ho1
   show Tri _ _ _ _
   refine zAm hle ?_
   refine zAb ?_
   refine zAa (by exact tokW) (by exact gok) [] [] rfl ?_
   show Tri _ _ _ _
   refine zAi ?_
   obtain ⟨hj1, hk1⟩ := Prod.mk.inj (Option.some.inj h)
   subst hj1
   obtain ⟨hj2, hk2⟩ := Prod.mk.inj hk1
   subst hj2
   subst hk2
   unfold zAG
   exact ⟨_, Le.refl _ _, rfl, rfl⟩
def zRi (n : Nat) (xs : List AV) (r : Ret) : Prop := ∃ (a0 : Nd) (a1 : Nd) (a2 : Nd) (y0 : Bool), zFK n a0 a1 a2 = some y0 ∧ xs = [.agg ((Nd.enc a0).map .s), .agg ((Nd.enc a1).map .s), .agg ((Nd.enc a2).map .s)] ∧ r = .val (.s (.bool y0))
def zNJ : zAy := zAI fun xs r => ∃ n, zRi n xs r
theorem zQZ : PSound Tryz.prog 7 zNJ := by
 have gok : ∀ f s, look? f [(13, zHS)] = some s → PSound Tryz.prog f s := zAA (by
  simp only [List.forall_mem_cons]
  exact ⟨zIy, by simp⟩)
 refine zAM tokW Tryz.call7 Tryz.func7 rfl (fun xs r h => by obtain ⟨n, _, _, _, _, _, rfl, _⟩ := h; show 3 ≤ 17; decide) 17 rfl ?_
 rintro xs r w0 G0 ⟨n, ⟨a1_kind, a1_text, a1_cols, a1_kids⟩, ⟨b2_kind, b2_text, b2_cols, b2_kids⟩, ⟨c3_kind, c3_text, c3_cols, c3_kids⟩, y0, h, rfl, rfl⟩ _
 rw [zFK] at h
 refine zAb ?_
 refine zAa (by exact tokW) (by exact gok) [] [] rfl ?_
 show Tri _ _ _ _
 refine zAb ?_
 obtain ⟨x4, hj, h⟩ := zAc h
 refine zAq ⟨ofL [(6, .s (.bool x4))], fun _ => none, 0⟩ ?_ (fun σ' hle => ?_)
 ·replace h := hj
  refine zAa (by exact tokW) (by exact gok) [] [9, 13] rfl ?_
  obtain ⟨y5, hy5, h⟩ := zAc h
  refine ⟨_, ⟨_, _, _, _, hy5, rfl, rfl⟩, ?_⟩
  intro b hb
  cases b with
  | true =>
   replace h := zAk hb.symm h
   obtain ⟨y6, hy6, h⟩ := zAc h
   refine ⟨_, ⟨_, _, _, _, hy6, rfl, rfl⟩, ?_⟩
   intro b hb
   cases b with
   | true =>
    replace h := zAk hb.symm h
    obtain ⟨y7, hy7, h⟩ := zAc h
    refine ⟨_, ⟨_, _, _, _, hy7, rfl, rfl⟩, ?_⟩
    cases h
    exact (Le.forget _ ⟨rfl, trivial⟩)
   | false =>
    replace h := zAj hb.symm h
    cases h
    exact (Le.forget _ ⟨rfl, trivial⟩)
  | false =>
   replace h := zAj hb.symm h
   intro b hb
   subst hb
   cases h
   exact (Le.forget _ ⟨rfl, trivial⟩)
 ·show Tri _ _ _ _
  refine zAm hle ?_
  refine zAi ?_
  have hy := Option.some.inj h
  subst hy
  unfold zAG
  exact ⟨_, Le.refl _ _, rfl, rfl⟩
end Go.Proofs.YtgfneloodabafaaGreatDoor
namespace Go.Proofs.YtgfneloodabafaaGreatDoor
open Go.Abs
def zMh (n : Nat) (xs : List AV) (r : Ret) : Prop := ∃ (a0 : Nd) (a1 : Nd) (a2 : Nd) (y0 : Bool), zC6 n a0 a1 a2 = some y0 ∧ xs = [.agg ((Nd.enc a0).map .s), .agg ((Nd.enc a1).map .s), .agg ((Nd.enc a2).map .s)] ∧ r = .val (.s (.bool y0))
def zHO : zAy := zAI fun xs r => ∃ n, zMh n xs r
theorem zLd : PSound Tryz.prog 12 zHO := by
 have gok : ∀ f s, look? f [(8, zEr)] = some s → PSound Tryz.prog f s := zAA (by
  simp only [List.forall_mem_cons]
  exact ⟨zFt, by simp⟩)
 refine zAM tokW Tryz.call12 Tryz.func12 rfl (fun xs r h => by obtain ⟨n, _, _, _, _, _, rfl, _⟩ := h; show 3 ≤ 25; decide) 25 rfl ?_
 rintro xs r w0 G0 ⟨n, ⟨base1_kind, base1_text, base1_cols, base1_kids⟩, ⟨x2_kind, x2_text, x2_cols, x2_kids⟩, ⟨y3_kind, y3_text, y3_cols, y3_kids⟩, y0, h, rfl, rfl⟩ _
 rw [zC6] at h
 refine zAb ?_
 refine zAa (by exact tokW) (by exact gok) [] [] rfl ?_
 show Tri _ _ _ _
 refine zAb ?_
 refine zAa (by exact tokW) (by exact gok) [7] [] rfl ?_
 obtain ⟨⟨⟨y4_kind, y4_text, y4_cols, y4_kids⟩, y5, y6⟩, hy4, h⟩ := zAc h
 refine ⟨_, ⟨_, _, _, _, _, _, _, hy4, rfl, rfl⟩, ?_⟩
 show Tri _ _ _ _
 refine zAm (Le.giveBox 0 [.int .i64 y4_kind, .str y4_text, .int .i64 y4_cols, .sl 4 (Nd.encs y4_kids)] rfl rfl) ?_
 refine zAb ?_
 obtain ⟨x7, hj, h⟩ := zAc h
 refine zAq ⟨ofL [(6, .s (.bool x7))], fun _ => none, 0⟩ ?_ (fun σ' hle => ?_)
 ·replace h := hj
  refine zAa (by exact tokW) (by exact gok) [] [20, 22] rfl ?_
  intro b hb
  cases b with
  | true =>
   replace h := zAk hb.symm h
   intro n8 hn8
   obtain rfl : (y5.length : Int) = n8 := (hn8.trans (congrArg (fun m : Nat => (m : Int)) (rlen (fun _ => rfl) y5))).symm
   cases h
   exact (Le.rename [] _ [] 0 ⟨rfl, trivial⟩ trivial rfl rfl rfl rfl rfl)
  | false =>
   replace h := zAj hb.symm h
   cases h
   exact (Le.rename [] _ [] 0 ⟨rfl, trivial⟩ trivial rfl rfl rfl rfl rfl)
 ·show Tri _ _ _ _
  refine zAm hle ?_
  refine zAi ?_
  have hy := Option.some.inj h
  subst hy
  unfold zAG
  exact ⟨_, Le.refl _ _, rfl, rfl⟩
def zJk (n : Nat) (xs : List AV) (r : Ret) : Prop := ∃ (a0 : Nd) (a1 : (List Int × List (Int × List Int × Int × Int × List Nd × Int × List UInt8 × List UInt8))) (a2 : (List Int × List (Int × List Int × Int × Int × List Nd × Int × List UInt8 × List UInt8))) (y0 : Bool), zDr n a0 a1 a2 = some y0 ∧ xs = [.agg ((Nd.enc a0).map .s), .agg ((zAx a1).map .s), .agg ((zAx a2).map .s)] ∧ r = .val (.s (.bool y0))
def zJn : zAy := zAI fun xs r => ∃ n, zJk n xs r
theorem zIw : PSound Tryz.prog 4 zJn := by
 have gok : ∀ f s, look? f [(6, zJP), (13, zHS), (14, zE6), (15, zGh), (16, zG6), (7, zNJ), (8, zEr), (10, zFW), (12, zHO)] = some s → PSound Tryz.prog f s := zAA (by
  simp only [List.forall_mem_cons]
  exact ⟨zOs, zIy, zHz, zH8, zKy, zQZ, zFt, zGy, zLd, by simp⟩)
 refine zAM tokW Tryz.call4 Tryz.func4 rfl (fun xs r h => by obtain ⟨n, _, _, _, _, _, rfl, _⟩ := h; show 3 ≤ 113; decide) 113 rfl ?_
 rintro xs r w0 G0 ⟨n, ⟨a1_kind, a1_text, a1_cols, a1_kids⟩, ⟨a2_path, a2_ops⟩, ⟨a3_path, a3_ops⟩, y0, h, rfl, rfl⟩ _
 rw [zDr] at h
 refine zAb ?_
 refine zAa (by exact tokW) (by exact gok) [] [] rfl ?_
 show Tri _ _ _ _
 refine zAb ?_
 refine zAb ?_
 refine zAa (by exact tokW) (by exact gok) [] [] rfl ?_
 obtain ⟨y4, hy4, h⟩ := zAc h
 refine ⟨_, ⟨_, _, hy4, rfl, rfl⟩, ?_⟩
 show Tri _ _ _ _
 refine zAe rfl (fun hb => ?_) (fun hb => ?_)
 ·replace h := zAk hb h
  refine zAb ?_
  refine zAa (by exact tokW) (by exact gok) [] [] rfl ?_
  show Tri _ _ _ _
  refine zAi ?_
  have hy := Option.some.inj h
  subst hy
  unfold zAG
  exact ⟨_, Le.refl _ _, rfl, rfl⟩
 ·replace h := zAj hb h
  refine zAg ?_
  show Tri _ _ _ _
  refine zAb ?_
  refine zAb ?_
  obtain ⟨x5, hj, h⟩ := zAc h
  refine zAq ⟨ofL [(3, .s (.pt [.int .i64 a1_kind, .str a1_text, .int .i64 a1_cols, .sl 4 (Nd.encs a1_kids)])), (4, .s (.pt [.sl 1 ((List.map (irow .i64)) a2_path), .sl 8 ((List.map zAQ) a2_ops)])), (5, .s (.pt [.sl 1 ((List.map (irow .i64)) a3_path), .sl 8 ((List.map zAQ) a3_ops)])), (47, .s (.bool x5))], fun _ => none, 0⟩ ?_ (fun σ' hle => ?_)
  ·replace h := hj
   refine zAa (by exact tokW) (by exact gok) [] [24, 29, 34, 41] rfl ?_
   obtain ⟨y6, hy6, h⟩ := zAc h
   refine ⟨_, ⟨_, _, _, _, hy6, rfl, rfl⟩, ?_⟩
   intro b hb
   cases b with
   | true =>
    replace h := zAk hb.symm h
    intro b hb
    subst hb
    intro b hb
    subst hb
    intro b hb
    subst hb
    cases h
    exact (Le.forget _ ⟨rfl, rfl, rfl, rfl, trivial⟩)
   | false =>
    replace h := zAj hb.symm h
    obtain ⟨y7, hy7, h⟩ := zAc h
    refine ⟨_, ⟨_, _, _, hy7, rfl, rfl⟩, ?_⟩
    intro b hb
    cases b with
    | true =>
     replace h := zAk hb.symm h
     intro b hb
     subst hb
     intro b hb
     subst hb
     cases h
     exact (Le.forget _ ⟨rfl, rfl, rfl, rfl, trivial⟩)
    | false =>
     replace h := zAj hb.symm h
     obtain ⟨y8, hy8, h⟩ := zAc h
     refine ⟨_, ⟨_, _, _, hy8, rfl, rfl⟩, ?_⟩
     intro b hb
     cases b with
     | true =>
      replace h := zAk hb.symm h
      intro b hb
      subst hb
      cases h
      exact (Le.forget _ ⟨rfl, rfl, rfl, rfl, trivial⟩)
     | false =>
      replace h := zAj hb.symm h
      obtain ⟨y9, hy9, h⟩ := zAc h
      refine ⟨_, ⟨_, _, _, _, hy9, rfl, rfl⟩, ?_⟩
      intro b hb
      cases b with
      | true =>
       replace h := zAk hb.symm h
       cases h
       exact (Le.forget _ ⟨rfl, rfl, rfl, rfl, trivial⟩)
      | false =>
       replace h := zAj hb.symm h
       obtain ⟨y10, hy10, h⟩ := zAc h
       refine ⟨_, ⟨_, _, _, _, hy10, rfl, rfl⟩, ?_⟩
       cases h
       exact (Le.forget _ ⟨rfl, rfl, rfl, rfl, trivial⟩)
  ·show Tri _ _ _ _
   refine zAm hle ?_
   refine zAe rfl (fun hb => ?_) (fun hb => ?_)
   ·replace h := zAk hb h
    refine zAb ?_
    refine zAa (by exact tokW) (by exact gok) [] [] rfl ?_
    show Tri _ _ _ _
    refine zAi ?_
    have hy := Option.some.inj h
    subst hy
    unfold zAG
    exact ⟨_, Le.refl _ _, rfl, rfl⟩
   ·replace h := zAj hb h
    refine zAg ?_
    show Tri _ _ _ _
    refine zAb ?_
    refine zAa (by exact tokW) (by exact gok) [7] [] rfl ?_
    obtain ⟨⟨⟨y11_kind, y11_text, y11_cols, y11_kids⟩, y12, y13⟩, hy11, h⟩ := zAc h
    refine ⟨_, ⟨_, _, _, _, _, _, hy11, rfl, rfl⟩, ?_⟩
    show Tri _ _ _ _
    refine zAm (Le.giveBox 0 [.int .i64 y11_kind, .str y11_text, .int .i64 y11_cols, .sl 4 (Nd.encs y11_kids)] rfl rfl) ?_
    refine zAb ?_
    refine zAa (by exact tokW) (by exact gok) [10] [] rfl ?_
    obtain ⟨⟨⟨y14_kind, y14_text, y14_cols, y14_kids⟩, y15, y16⟩, hy14, h⟩ := zAc h
    refine ⟨_, ⟨_, _, _, _, _, _, hy14, rfl, rfl⟩, ?_⟩
    show Tri _ _ _ _
    refine zAm (Le.giveBox 1 [.int .i64 y14_kind, .str y14_text, .int .i64 y14_cols, .sl 4 (Nd.encs y14_kids)] rfl rfl) ?_
    refine zAb ?_
    refine zAb ?_
    obtain ⟨x17, hj, h⟩ := zAc h
    refine zAq ⟨ofL [(3, .s (.pt [.int .i64 a1_kind, .str a1_text, .int .i64 a1_cols, .sl 4 (Nd.encs a1_kids)])), (5, .s (.pt [.sl 1 ((List.map (irow .i64)) a3_path), .sl 8 ((List.map zAQ) a3_ops)])), (7, .s (.pt [.int .i64 y11_kind, .str y11_text, .int .i64 y11_cols, .sl 4 (Nd.encs y11_kids)])), (10, .s (.pt [.int .i64 y14_kind, .str y14_text, .int .i64 y14_cols, .sl 4 (Nd.encs y14_kids)])), (76, .s (.bool x17))], fun _ => none, 0⟩ ?_ (fun σ' hle => ?_)
    ·replace h := hj
     refine zAa (by exact tokW) (by exact gok) [] [66, 70] rfl ?_
     intro b hb
     cases b with
     | true =>
      replace h := zAk hb.symm h
      intro b hb
      subst hb
      cases h
      exact (Le.rename [] _ [] 0 ⟨rfl, rfl, rfl, rfl, rfl, trivial⟩ trivial rfl rfl rfl rfl rfl)
     | false =>
      replace h := zAj hb.symm h
      intro b hb
      cases b with
      | true =>
       replace h := zAk hb.symm h
       cases h
       exact (Le.rename [] _ [] 0 ⟨rfl, rfl, rfl, rfl, rfl, trivial⟩ trivial rfl rfl rfl rfl rfl)
      | false =>
       replace h := zAj hb.symm h
       obtain ⟨y18, hy18, h⟩ := zAc h
       refine ⟨_, ⟨_, _, _, _, _, hy18, rfl, rfl⟩, ?_⟩
       cases h
       exact (Le.rename [] _ [] 0 ⟨rfl, rfl, rfl, rfl, rfl, trivial⟩ trivial rfl rfl rfl rfl rfl)
    ·show Tri _ _ _ _
     refine zAm hle ?_
     refine zAe rfl (fun hb => ?_) (fun hb => ?_)
     ·replace h := zAk hb h
      refine zAb ?_
      refine zAa (by exact tokW) (by exact gok) [] [] rfl ?_
      show Tri _ _ _ _
      refine zAi ?_
      have hy := Option.some.inj h
      subst hy
      unfold zAG
      exact ⟨_, Le.refl _ _, rfl, rfl⟩
     ·replace h := zAj hb h
      refine zAg ?_
      show Tri _ _ _ _
      refine zAb ?_
      refine zAa (by exact tokW) (by exact gok) [13] [] rfl ?_
      obtain ⟨⟨⟨y19_kind, y19_text, y19_cols, y19_kids⟩, y20, y21⟩, hy19, h⟩ := zAc h
      refine ⟨_, ⟨_, _, _, _, _, _, hy19, rfl, rfl⟩, ?_⟩
      show Tri _ _ _ _
      refine zAm (Le.giveBox 0 [.int .i64 y19_kind, .str y19_text, .int .i64 y19_cols, .sl 4 (Nd.encs y19_kids)] rfl rfl) ?_
      refine zAb ?_
      refine zAb ?_
      refine zAa (by exact tokW) (by exact gok) [] [] rfl ?_
      show Tri _ _ _ _
      refine zAe rfl (fun hb => ?_) (fun hb => ?_)
      ·replace h := zAk hb h
       refine zAb ?_
       refine zAa (by exact tokW) (by exact gok) [] [] rfl ?_
       show Tri _ _ _ _
       refine zAi ?_
       have hy := Option.some.inj h
       subst hy
       unfold zAG
       exact ⟨_, Le.refl _ _, rfl, rfl⟩
      ·replace h := zAj hb h
       refine zAg ?_
       show Tri _ _ _ _
       refine zAb ?_
       refine zAa (by exact tokW) (by exact gok) [16] [] rfl ?_
       obtain ⟨⟨⟨y22_kind, y22_text, y22_cols, y22_kids⟩, y23, y24⟩, hy22, h⟩ := zAc h
       refine ⟨_, ⟨_, _, _, _, _, _, _, hy22, rfl, rfl⟩, ?_⟩
       show Tri _ _ _ _
       refine zAm (Le.giveBox 1 [.int .i64 y22_kind, .str y22_text, .int .i64 y22_cols, .sl 4 (Nd.encs y22_kids)] rfl rfl) ?_
       refine zAb ?_
       obtain ⟨x25, hj, h⟩ := zAc h
       refine zAq ⟨ofL [(6, .s (.bool x25))], fun _ => none, 0⟩ ?_ (fun σ' hle => ?_)
       ·replace h := hj
        refine zAa (by exact tokW) (by exact gok) [] [97, 99, 102, 107] rfl ?_
        intro b hb
        cases b with
        | true =>
         replace h := zAk hb.symm h
         intro n26 hn26
         obtain rfl : (y23.length : Int) = n26 := (hn26.trans (congrArg (fun m : Nat => (m : Int)) (rlen (fun _ => rfl) y23))).symm
         intro b hb
         cases b with
         | true =>
          replace h := zAk hb.symm h
          obtain ⟨y27, hy27, h⟩ := zAc h
          refine ⟨_, ⟨_, _, _, _, hy27, rfl, rfl⟩, ?_⟩
          intro b hb
          cases b with
          | true =>
           replace h := zAk hb.symm h
           obtain ⟨y28, hy28, h⟩ := zAc h
           refine ⟨_, ⟨_, _, _, _, _, hy28, rfl, rfl⟩, ?_⟩
           cases h
           exact (Le.rename [] _ [] 0 ⟨rfl, trivial⟩ trivial rfl rfl rfl rfl rfl)
          | false =>
           replace h := zAj hb.symm h
           cases h
           exact (Le.rename [] _ [] 0 ⟨rfl, trivial⟩ trivial rfl rfl rfl rfl rfl)
         | false =>
          replace h := zAj hb.symm h
          intro b hb
          subst hb
          cases h
          exact (Le.rename [] _ [] 0 ⟨rfl, trivial⟩ trivial rfl rfl rfl rfl rfl)
        | false =>
         replace h := zAj hb.symm h
         intro b hb
         subst hb
         intro b hb
         subst hb
         cases h
         exact (Le.rename [] _ [] 0 ⟨rfl, trivial⟩ trivial rfl rfl rfl rfl rfl)
       ·show Tri _ _ _ _
        refine zAm hle ?_
        refine zAi ?_
        have hy := Option.some.inj h
        subst hy
        unfold zAG
        exact ⟨_, Le.refl _ _, rfl, rfl⟩
end Go.Proofs.YtgfneloodabafaaGreatDoor
namespace Go.Proofs.YtgfneloodabafaaGreatDoor
open Go.Abs
theorem zTH {n : Nat} {ss : List S} (h : Typed T n 24 ss) : ∃ t : Nd, ss = t.enc ∧ t.rng :=
 zMd (T := T) (e := 24) (s := 22) (ki := 3) (st := 9) rfl rfl rfl rfl rfl rfl rfl rfl rfl n h
theorem zPZ {n t : Nat} {ss : List S} (h : Typed T n 22 ss) : ∃ l : List Nd, ss = [.sl 4 (Nd.encs l)] ∧ Nd.rngs l := by
 obtain ⟨m, rows, rfl, rfl, _, hr⟩ := zF8 (T := T) (e := 24) rfl rfl h
 obtain ⟨ks, rfl, hks⟩ := zJY (f := Nd.enc) (q := Nd.rng) (l := rows) fun r hr' => zMd (T := T) (e := 24) (s := 22) (ki := 3) (st := 9) rfl rfl rfl rfl rfl rfl rfl rfl rfl m (hr r hr')
 exact ⟨ks, by rw [Nd.encs_eq]; rfl, Nd.rngAll hks⟩
theorem zTI {n : Nat} {ss : List S} (h : Typed T n 56 ss) : ∃ o : (Int × List Int × Int × Int × List Nd × Int × List UInt8 × List UInt8), ss = zAQ o ∧ True := by
 obtain ⟨m, rfl, a0, q0, rfl, u0, a1, q1, rfl, u1, a2, q2, rfl, u2, a3, q3, rfl, u3, a4, q4, rfl, u4, a5, q5, rfl, u5, a6, q6, rfl, u6, a7, q7, rfl, u7, rfl⟩ := zGN (T := T) (t := 56) rfl rfl h
 obtain ⟨x0, rfl, _⟩ := zE4 (T := T) (k := .i64) rfl rfl u0
 obtain ⟨x1, rfl, _⟩ := zMc (T := T) (k := .i64) (e := 3) rfl rfl rfl rfl u1
 obtain ⟨x2, rfl, _⟩ := zE4 (T := T) (k := .i64) rfl rfl u2
 obtain ⟨x3, rfl, _⟩ := zE4 (T := T) (k := .i64) rfl rfl u3
 obtain ⟨x4, rfl, _⟩ := zPZ (t := 0) u4
 obtain ⟨x5, rfl, _⟩ := zE4 (T := T) (k := .i64) rfl rfl u5
 obtain ⟨x6, rfl, _⟩ := zKW (T := T) rfl rfl u6
 obtain ⟨x7, rfl, _⟩ := zKW (T := T) rfl rfl u7
 exact ⟨(x0, x1, x2, x3, x4, x5, x6, x7), rfl, trivial⟩
theorem zSB {n : Nat} {ss : List S} (h : Typed T n 34 ss) : ∃ l : List (Int × List Int × Int × Int × List Nd × Int × List UInt8 × List UInt8), ss = [.sl 8 (l.map zAQ)] := by
 obtain ⟨m, rows, rfl, rfl, _, hr⟩ := zF8 (T := T) (e := 56) rfl rfl h
 obtain ⟨ks, rfl, hks⟩ := zJY (f := zAQ) (q := fun _ => True) (l := rows) fun r hr' => zTI (hr r hr')
 exact ⟨ks, rfl⟩
theorem zRd {n : Nat} {ss : List S} (h : Typed T n 33 ss) : ∃ l : List Int, ss = [.sl 1 (l.map fun z => [.int .i64 z])] ∧ True := by
 obtain ⟨x, rfl, _⟩ := zMc (T := T) (k := .i64) (e := 3) rfl rfl rfl rfl h
 exact ⟨x, rfl, trivial⟩
theorem zP3 {α : Type} {f : α → List S} : ∀ {l : List α} {x : α}, x ∈ l → zC0 (f x) ≤ zDF (l.map f)
 | y :: l, x, h => by
  simp only [List.map_cons, zDF]
  rcases List.mem_cons.1 h with rfl | h
  ·omega
  ·have := zP3 (f := f) h; omega
theorem zUm (o : (Int × List Int × Int × Int × List Nd × Int × List UInt8 × List UInt8)) : Nd.ws o.2.2.2.2.1 + o.2.2.2.2.2.2.2.length + o.2.1.length ≤ zC0 (zAQ o) := by
 have h1 := Nd.ws_bulk o.2.2.2.2.1
 have h2 := zRr .i64 o.2.1
 simp only [zAQ, zC0, S.bulk]
 omega
end Go.Proofs.YtgfneloodabafaaGreatDoor
namespace Go.Proofs.YtgfneloodabafaaGreatDoor
open Go.Abs
theorem zKV {n : Nat} {ss : List S} (h : Typed T n 36 ss) : ∃ d : (List Int × List (Int × List Int × Int × Int × List Nd × Int × List UInt8 × List UInt8)), ss = zAx d ∧ True := by
 obtain ⟨m, rfl, a0, q0, rfl, u0, a1, q1, rfl, u1, rfl⟩ := zGN (T := T) (t := 36) rfl rfl h
 obtain ⟨x0, rfl, _⟩ := zRd u0
 obtain ⟨x1, rfl⟩ := zSB u1
 exact ⟨(x0, x1), rfl, trivial⟩
theorem zLM {d : (List Int × List (Int × List Int × Int × Int × List Nd × Int × List UInt8 × List UInt8))} {o : (Int × List Int × Int × Int × List Nd × Int × List UInt8 × List UInt8)} (h : o ∈ d.2) : Nd.ws o.2.2.2.2.1 + o.2.2.2.2.2.2.2.length + o.2.1.length ≤ zC0 (zAx d) := by
 have h1 := zUm o
 have h2 := zP3 (f := zAQ) h
 simp only [zAx, zC0, S.bulk]
 omega
end Go.Proofs.YtgfneloodabafaaGreatDoor
namespace Go.Proofs.YtgfneloodabafaaGreatDoor
open Go.Abs
theorem zA8 {φ : Prop} [Decidable φ] (h : φ) : decide φ = true := decide_eq_true h
theorem zA7 {φ : Prop} [Decidable φ] (h : ¬ φ) : decide φ = false := decide_eq_false h
theorem zHg {F : Nd → Option Int} {ks : List Nd} (hF : ∀ v ∈ ks, F v = some (v.cnt : Int)) :
  ∀ (k i : Nat) (o : Nat), ks.length - i < k → i ≤ ks.length → o + Nd.cnts (ks.drop i) ≤ 1073741824 → ks.length ≤ 1073741824 → zCj F ks k (o : Int) (i : Int) = some ((o + Nd.cnts (ks.drop i) : Nat) : Int)
 | 0, _, _, h, _, _, _ => by omega
 | k + 1, i, o, hk, hi, ho, hl => by
  unfold zCj
  by_cases h : i < ks.length
  ·rw [zA8 (Int.ofNat_lt.2 h), cond_true, zBi h]
   have hd := Nd.cnts_drop h
   have hf := hF _ (List.getElem_mem h)
   rcases e : ks[i] with ⟨a, b, c, d⟩
   rw [e] at hd hf
   simp only [Option.bind_some, hf]
   rw [wrap64_in (by omega) (by omega), zAX (by omega), ← Int.natCast_add, zHg hF k (i + 1) _ (by omega) (by omega) (by omega) hl, hd]
   congr 2; omega
  ·rw [zA7 (by omega), cond_false]
   obtain rfl : i = ks.length := by omega
   simp [Nd.cnts]
theorem zJe : ∀ (n : Nat) (t : Nd), t.cnt < n → t.cnt ≤ 67108864 → zCx n t = some (t.cnt : Int)
 | 0, _, h, _ => by omega
 | n + 1, .mk a b c ks, h, hb => by
  simp only [Nd.cnt] at h hb
  have hl := Nd.cnts_len ks
  unfold zCx
  have := zHg (F := zCx n) (ks := ks) (fun v hv => zJe n v (by have := Nd.cnts_mem hv; omega) (by have := Nd.cnts_mem hv; omega)) n 0 1 (by omega) (by omega) (by simp; omega) (by omega)
  rw [show ((0 : Nat) : Int) = 0 from rfl, show ((1 : Nat) : Int) = 1 from rfl] at this
  rw [this]
  simp only [Option.bind_some, List.drop_zero, Nd.cnt]
  congr 2; omega
def scnt : List (Nd × Int) → Nat
 | [] => 0
 | p :: l => p.1.cnt + scnt l
theorem zHG : ∀ a b : List (Nd × Int), scnt (a ++ b) = scnt a + scnt b
 | [], b => by simp [scnt]
 | v :: a, b => by simp only [List.cons_append, scnt, zHG a b]; omega
theorem zNc : ∀ a : List (Nd × Int), a.length ≤ scnt a
 | [] => Nat.le_refl _
 | v :: a => by have := zNc a; have := v.1.cnt_pos; simp only [scnt, List.length_cons]; omega
theorem zLL {ks : List Nd} {d : Int} : ∀ (k i : Nat) (l : List (Nd × Int)), ks.length - i < k → i ≤ ks.length → scnt l + Nd.cnts (ks.drop i) ≤ 1073741824 → ks.length ≤ 1073741824 →
  ∃ l', zCi ks d k (i : Int) l = some l' ∧ scnt l' = scnt l + Nd.cnts (ks.drop i)
 | 0, _, _, h, _, _, _ => by omega
 | k + 1, i, l, hk, hi, ho, hl => by
  unfold zCi
  by_cases h : i < ks.length
  ·rw [zA8 (Int.ofNat_lt.2 h), cond_true, zBi h]
   have hd := Nd.cnts_drop h
   rcases e : ks[i] with ⟨a, b, c, e4⟩
   rw [e] at hd
   have hp := (Nd.mk a b c e4).cnt_pos
   have hll := zNc l
   simp only [Option.bind_some]
   rw [zB6 (by simp only [List.length_singleton]; omega), zAX (by omega)]
   have hs : scnt (l ++ [(Nd.mk a b c e4, IntKind.i64.wrap (d + 1))]) = scnt l + (Nd.mk a b c e4).cnt := by rw [zHG]; simp [scnt]
   obtain ⟨l', h1, h2⟩ := zLL (ks := ks) (d := d) k (i + 1) (l ++ [(Nd.mk a b c e4, IntKind.i64.wrap (d + 1))]) (by omega) (by omega) (by omega) hl
   exact ⟨l', h1, by omega⟩
  ·rw [zA7 (by omega), cond_false]
   obtain rfl : i = ks.length := by omega
   exact ⟨l, rfl, by simp [Nd.cnts]⟩
theorem zLK (n : Nat) : ∀ (k : Nat) (x : Nat) (l : List (Nd × Int)), scnt l < k → scnt l < n → x + scnt l ≤ 67108864 → zCh n k (x : Int) l = some ((x + scnt l : Nat) : Int)
 | 0, _, _, h, _, _ => by omega
 | k + 1, x, l, hk, hn, hx => by
  unfold zCh
  rcases List.eq_nil_or_concat l with rfl | ⟨l, p, rfl⟩
  ·simp [scnt]
  ·rw [List.concat_eq_append] at *
   obtain ⟨⟨a, b, c, ks⟩, d⟩ := p
   have hs : scnt (l ++ [(Nd.mk a b c ks, d)]) = scnt l + (Nd.cnts ks + 1) := by rw [zHG]; simp [scnt, Nd.cnt]
   have hll := zNc l
   have hlk := Nd.cnts_len ks
   have hlen : ((l ++ [(Nd.mk a b c ks, d)]).length : Int) = (l.length : Int) + 1 := by simp
   have hw : IntKind.i64.wrap (((l ++ [(Nd.mk a b c ks, d)]).length : Int) - 1) = (l.length : Int) := by rw [hlen, wrap64_in (by omega) (by omega)]; omega
   rw [zA8 (by omega), cond_true, hw, zBi (by simp)]
   simp only [List.getElem_concat_length, Option.bind_some]
   rw [zB6 (by omega)]
   simp only [zD3, Option.bind_some, Int.toNat_natCast, List.take_left]
   obtain ⟨l', h1, h2⟩ := zLL (ks := ks) (d := d) n 0 l (by omega) (by omega) (by simp; omega) (by omega)
   rw [List.drop_zero] at h2
   rw [show ((0 : Nat) : Int) = 0 from rfl] at h1
   rw [h1, Option.bind_some, zAX (by omega), zLK n k (x + 1) l' (by omega) (by omega) (by omega)]
   congr 2; omega
theorem zMK (n : Nat) (t : Nd) (h : t.cnt < n) (hb : t.cnt ≤ 67108864) : zEb n t = some (t.cnt : Int) := by
 obtain ⟨a, b, c, ks⟩ := t
 have := zLK n n 0 [(.mk a b c ks, 1)] (by simpa [scnt] using h) (by simpa [scnt] using h) (by simp only [scnt]; omega)
 rw [show ((0 : Nat) : Int) = 0 from rfl] at this
 simp only [zEb, zF2, this, Option.bind_some, scnt]
 congr 2; omega
theorem zOh {F : Nd → Int → Option Int} {ks : List Nd} {b : Nat} (hF : ∀ (v : Nd) (m : Nat), m ≤ b → ∃ r, F v (m : Int) = some r ∧ -1 ≤ r ∧ r < m ∧ (0 ≤ r → r + v.cnt = m)) :
  ∀ (k i : Nat) (m : Int), m + 1 < k → -1 ≤ m → m ≤ b → i ≤ ks.length → (i : Int) + m < 4611686018427387904 → ∃ r, zCf F ks k m (i : Int) = some r ∧ -1 ≤ r ∧ r ≤ m ∧ (0 ≤ r → r + Nd.cnts (ks.drop i) = m)
 | 0, _, _, h, _, _, _, _ => by omega
 | k + 1, i, m, hk, hm, hb, hi, hx => by
  unfold zCf
  by_cases h : i < ks.length
  ·rw [zA8 (Int.ofNat_lt.2 h), cond_true]
   simp only [Option.bind_some]
   by_cases h0 : 0 ≤ m
   ·rw [zA8 h0, cond_true, zBi h]
    have hd := Nd.cnts_drop h
    rcases e : ks[i] with ⟨e1, e2, e3, e4⟩
    rw [e] at hd
    simp only [Option.bind_some]
    obtain ⟨m', rfl⟩ := Int.eq_ofNat_of_zero_le h0
    obtain ⟨r, h1, h2, h3, h4⟩ := hF (.mk e1 e2 e3 e4) m' (by omega)
    rw [h1, Option.bind_some, zAX (by omega)]
    obtain ⟨r', g1, g2, g3, g4⟩ := zOh (ks := ks) hF k (i + 1) r (by omega) h2 (by omega) (by omega) (by omega)
    exact ⟨r', g1, g2, by omega, fun g => by have := g4 g; have := h4 (by omega); omega⟩
   ·rw [zA7 h0, cond_false]
    exact ⟨m, rfl, hm, Int.le_refl _, fun g => by omega⟩
  ·rw [zA7 (by omega), cond_false]
   simp only [Option.bind_some, cond_false]
   obtain rfl : i = ks.length := by omega
   exact ⟨m, rfl, hm, Int.le_refl _, fun _ => by simp [Nd.cnts]⟩
theorem left_eq : ∀ (n : Nat) (t : Nd) (m : Nat), m + 1 < n → m ≤ 67108864 → ∃ r, zDc n t (m : Int) = some r ∧ -1 ≤ r ∧ r < m ∧ (0 ≤ r → r + t.cnt = m)
 | 0, _, _, h, _ => by omega
 | n + 1, .mk a b c ks, m, h, hm => by
  unfold zDc
  rw [wrap64_in (by omega) (by omega)]
  cases m with
  | zero =>
   cases n with
   | zero => omega
   | succ n =>
    refine ⟨-1, ?_, by omega, by omega, fun h => by omega⟩
    unfold zCf
    cases decide (((0 : Nat) : Int) < (ks.length : Int)) <;> simp <;> rfl
  | succ m =>
   obtain ⟨r, h1, h2, h3, h4⟩ := zOh (F := zDc n) (ks := ks) (b := m) (fun v q hq => left_eq n v q (by omega) (by omega)) n 0 (m : Int) (by omega) (by omega) (by omega) (by omega) (by omega)
   rw [show ((0 : Nat) : Int) = 0 from rfl] at h1
   rw [show ((m + 1 : Nat) : Int) - 1 = (m : Int) by omega, h1]
   exact ⟨r, rfl, h2, by omega, fun g => by have := h4 g; rw [List.drop_zero] at this; simp only [Nd.cnt]; omega⟩
theorem zNl (n : Nat) (t : Nd) (m : Nat) (h : m + 1 < n) (hm : m ≤ 67108864) : ∃ b, zDK n t (m : Int) = some b ∧ (b = true → t.cnt ≤ m) := by
 obtain ⟨a, b, c, ks⟩ := t
 obtain ⟨r, h1, h2, h3, h4⟩ := left_eq n (.mk a b c ks) m h hm
 refine ⟨decide (0 ≤ r), by simp [zDK, h1], fun g => by have g0 := of_decide_eq_true g; have := h4 g0; omega⟩
end Go.Proofs.YtgfneloodabafaaGreatDoor
namespace Go.Proofs.YtgfneloodabafaaGreatDoor
open Go.Abs
def zMr {α : Type} (p : α → Bool) (l : List α) : Fl Bool Unit := if l.all p then .go () else .ret false
theorem zSQ {α : Type} {p : α → Bool} {l : List α} {i : Nat} (h : i < l.length) : (l.drop i).all p = (p l[i] && (l.drop (i + 1)).all p) := by
 rw [List.drop_eq_getElem_cons h]; rfl
theorem zSR {α : Type} {p : α → Bool} {l : List α} {i : Nat} (h : i < l.length) : (l.drop i).any p = (p l[i] || (l.drop (i + 1)).any p) := by
 rw [List.drop_eq_getElem_cons h]; rfl
theorem zGT {α : Type} {p : α → Bool} {l : List α} (L : Nat → Int → Option (Fl Bool Unit)) (hb : l.length ≤ 1073741824)
  (h1 : ∀ (k i : Nat) (h : i < l.length), L (k + 1) (i : Int) = if p l[i] then L k (((i + 1 : Nat)) : Int) else some (.ret false)) (h2 : ∀ k, L (k + 1) (l.length : Int) = some (.go ())) :
  ∀ (k i : Nat), l.length - i < k → i ≤ l.length → L k (i : Int) = some (zMr p (l.drop i))
 | 0, _, h, _ => by omega
 | k + 1, i, hk, hi => by
  by_cases h : i < l.length
  ·rw [h1 k i h, zGT L hb h1 h2 k (i + 1) (by omega) (by omega)]
   unfold zMr
   rw [zSQ h]
   cases p l[i] <;> simp
  ·obtain rfl : i = l.length := by omega
   rw [h2]; simp [zMr]
theorem zMJ {α : Type} {p : α → Bool} {l : List α} (L : Nat → Int → Option (Fl Bool Unit)) (hb : l.length ≤ 1073741824)
  (h1 : ∀ (k i : Nat) (h : i < l.length), L (k + 1) (i : Int) = if p l[i] then some (.ret true) else L k (((i + 1 : Nat)) : Int)) (h2 : ∀ k, L (k + 1) (l.length : Int) = some (.go ())) :
  ∀ (k i : Nat), l.length - i < k → i ≤ l.length → L k (i : Int) = some (if (l.drop i).any p then .ret true else .go ())
 | 0, _, h, _ => by omega
 | k + 1, i, hk, hi => by
  by_cases h : i < l.length
  ·rw [h1 k i h, zMJ L hb h1 h2 k (i + 1) (by omega) (by omega), zSR h]
   cases p l[i] <;> simp
  ·obtain rfl : i = l.length := by omega
   rw [h2]; simp
theorem zJi {P : UInt8 → Bool} (h : (List.range 256).all (fun n => P n.toUInt8) = true) (b : UInt8) : P b = true := by
 have : P (UInt8.ofNat b.toNat) = true := List.all_eq_true.1 h b.toNat (List.mem_range.2 b.toNat_lt)
 rwa [UInt8.ofNat_toNat] at this
def zCR (b : UInt8) : Bool := (decide (97 ≤ b.toNat) && decide (b.toNat ≤ 122)) || (decide (65 ≤ b.toNat) && decide (b.toNat ≤ 90))
def zDi (b : UInt8) : Bool := decide (48 ≤ b.toNat) && decide (b.toNat ≤ 57)
def zFS (b : UInt8) : Bool := decide (32 ≤ b.toNat) && decide (b.toNat ≤ 126)
theorem zNV (b : UInt8) : (bif decide ((zJ4 .or .u8 (b.toNat : Int) 32) < 97) then some true else some (decide (122 < (zJ4 .or .u8 (b.toNat : Int) 32)))) = some (!zCR b) :=
 of_decide_eq_true (zJi (P := fun b => decide ((bif decide ((zJ4 .or .u8 (b.toNat : Int) 32) < 97) then some true else some (decide (122 < (zJ4 .or .u8 (b.toNat : Int) 32)))) = some (!zCR b))) (by decide +kernel) b)
theorem zI3 (b : UInt8) : zDC (b.toNat : Int) = some (zCR b) :=
 of_decide_eq_true (zJi (P := fun b => decide (zDC (b.toNat : Int) = some (zCR b))) (by decide +kernel) b)
theorem zPs (b : UInt8) : zEW (b.toNat : Int) = some (zDi b) :=
 of_decide_eq_true (zJi (P := fun b => decide (zEW (b.toNat : Int) = some (zDi b))) (by decide +kernel) b)
theorem zKs (n : Nat) (s : List UInt8) (h : s.length < n) (hb : s.length ≤ 1073741824) : zCK n s = some (s.all zCR) := by
 have := zGT (p := zCR) (l := s) (zBp s) hb (fun k i h => by
  rw [zBp, zA8 (Int.ofNat_lt.2 h), cond_true, zBi h]
  simp only [Option.bind_some, zNV]
  rw [zAX (by omega)]
  cases zCR s[i] <;> rfl) (fun k => by rw [zBp, zA7 (by omega)]; rfl) n 0 (by omega) (by omega)
 rw [show ((0 : Nat) : Int) = 0 from rfl, List.drop_zero] at this
 rw [zCK, this]
 unfold zMr
 cases s.all zCR <;> rfl
theorem zLj (n : Nat) (s : List UInt8) (h : s.length < n) (hb : s.length ≤ 1073741824) : zBv s n 0 = some (zMr zCR s) := by
 have := zGT (p := zCR) (l := s) (zBv s) hb (fun k i h => by
  rw [zBv, zA8 (Int.ofNat_lt.2 h), cond_true, zBi h]
  simp only [Option.bind_some, zI3]
  rw [zAX (by omega)]
  cases zCR s[i] <;> rfl) (fun k => by rw [zBv, zA7 (by omega)]; rfl) n 0 (by omega) (by omega)
 rwa [show ((0 : Nat) : Int) = 0 from rfl, List.drop_zero] at this
theorem zL2 (n : Nat) (s : List UInt8) (c : Int) (h : s.length < n) (hb : s.length ≤ 1073741824) : zCW n s c = some (s.any fun b => (b.toNat : Int) == c) := by
 have := zMJ (p := fun b => (b.toNat : Int) == c) (l := s) (zCs s c) hb (fun k i h => by
  rw [zCs, zA8 (Int.ofNat_lt.2 h), cond_true, zBi h]
  simp only [Option.bind_some]
  rw [zAX (by omega)]
  cases ((s[i].toNat : Int) == c) <;> rfl) (fun k => by rw [zCs, zA7 (by omega)]; rfl) n 0 (by omega) (by omega)
 rw [show ((0 : Nat) : Int) = 0 from rfl, List.drop_zero] at this
 rw [zCW, this]
 cases s.any fun b => (b.toNat : Int) == c <;> rfl
theorem zKG (n : Nat) (l : List (List UInt8)) (s : List UInt8) (h : l.length < n) (hb : l.length ≤ 1073741824) : zD4 n l s = some (l.any fun e => e == s) := by
 have := zMJ (p := fun e => e == s) (l := l) (zCU l s) hb (fun k i h => by
  rw [zCU, zA8 (Int.ofNat_lt.2 h), cond_true, zBi h]
  simp only [Option.bind_some]
  rw [zAX (by omega)]
  cases (l[i] == s) <;> rfl) (fun k => by rw [zCU, zA7 (by omega)]; rfl) n 0 (by omega) (by omega)
 rw [show ((0 : Nat) : Int) = 0 from rfl, List.drop_zero] at this
 rw [zD4, this]
 cases l.any fun e => e == s <;> rfl
theorem zFs (n : Nat) (s : List UInt8) (h : s.length < n) (hb : s.length ≤ 1073741824) : zC9 n s = some (s.all zDi && !(s == [])) := by
 have := zGT (p := zDi) (l := s) (zBw s) hb (fun k i h => by
  rw [zBw, zA8 (Int.ofNat_lt.2 h), cond_true, zBi h]
  simp only [Option.bind_some]
  rw [zAX (by omega)]
  unfold zDi
  by_cases a : 48 ≤ s[i].toNat
  ·by_cases b : s[i].toNat ≤ 57
   ·simp [a, b, show ¬ ((s[i].toNat : Int) < 48) by omega, show ¬ (57 < (s[i].toNat : Int)) by omega]
   ·simp [a, b, show ¬ ((s[i].toNat : Int) < 48) by omega, show (57 < (s[i].toNat : Int)) by omega]
  ·simp [a, show ((s[i].toNat : Int) < 48) by omega]) (fun k => by rw [zBw, zA7 (by omega)]; rfl) n 0 (by omega) (by omega)
 rw [show ((0 : Nat) : Int) = 0 from rfl, List.drop_zero] at this
 rw [zC9, this]
 unfold zMr
 cases s.all zDi <;> rfl
theorem zOM (b : UInt8) : (bif decide ((b.toNat : Int) < 32) then some true else some (decide (126 < (b.toNat : Int))) : Option Bool) = some (!zFS b) := by
 unfold zFS
 by_cases a : 32 ≤ b.toNat
 ·by_cases c : b.toNat ≤ 126
  ·simp [a, c, show ¬ ((b.toNat : Int) < 32) by omega, show ¬ (126 < (b.toNat : Int)) by omega]
  ·simp [a, c, show ¬ ((b.toNat : Int) < 32) by omega, show (126 < (b.toNat : Int)) by omega]
 ·simp [a, show ((b.toNat : Int) < 32) by omega]
theorem zMM (n : Nat) (s : List UInt8) (h : s.length < n) (hb : s.length ≤ 1073741824) : zEd n s = some (s.all zFS && decide ((s.length : Int) ≤ 200)) := by
 have := zGT (p := zFS) (l := s) (zBG s) hb (fun k i h => by
  rw [zBG, zA8 (Int.ofNat_lt.2 h), cond_true, zBi h]
  simp only [Option.bind_some, zOM]
  rw [zAX (by omega)]
  cases zFS s[i] <;> rfl) (fun k => by rw [zBG, zA7 (by omega)]; rfl) n 0 (by omega) (by omega)
 rw [show ((0 : Nat) : Int) = 0 from rfl, List.drop_zero] at this
 rw [zEd, this]
 unfold zMr
 cases s.all zFS <;> rfl
theorem zJu (n : Nat) (s : List UInt8) (h : s.length < n) (hb : s.length ≤ 1073741824) : zCV n s = some (s.all zFS) := by
 have := zGT (p := zFS) (l := s) (zBk s) hb (fun k i h => by
  rw [zBk, zA8 (Int.ofNat_lt.2 h), cond_true, zBi h]
  simp only [Option.bind_some, zOM]
  rw [zAX (by omega)]
  cases zFS s[i] <;> rfl) (fun k => by rw [zBk, zA7 (by omega)]; rfl) n 0 (by omega) (by omega)
 rw [show ((0 : Nat) : Int) = 0 from rfl, List.drop_zero] at this
 rw [zCV, this]
 unfold zMr
 cases s.all zFS <;> rfl
end Go.Proofs.YtgfneloodabafaaGreatDoor
namespace Go.Proofs.YtgfneloodabafaaGreatDoor
open Go.Abs
def spL : List UInt8 := [43, 45, 42, 47, 61, 60, 62, 44, 59, 58, 33, 124, 39, 63, 126, 64]
def fsL : List UInt8 := [40, 41, 91, 93, 123, 125, 60, 62, 47, 124, 46]
def kwL : List (List UInt8) := [[102, 114, 97, 99], [114, 111, 111, 116], [109, 97, 116, 114, 105, 120], [102, 101, 110, 99, 101]]
def acL : List (List UInt8) := [[104, 97, 116], [98, 97, 114], [118, 101, 99], [100, 111, 116], [116, 105, 108, 100, 101], [99, 104, 101, 99, 107]]
def spB (c : UInt8) : Bool := decide (0 ≤ Lib.indexByte spL c)
def fsB (c : UInt8) : Bool := decide (0 ≤ Lib.indexByte fsL c)
theorem zT6 (c : UInt8) : (spL.any fun b => (b.toNat : Int) == (c.toNat : Int)) = spB c :=
 of_decide_eq_true (zJi (P := fun c => decide ((spL.any fun b => (b.toNat : Int) == (c.toNat : Int)) = spB c)) (by decide +kernel) c)
theorem zT5 (c : UInt8) : (([40, 41, 91, 93, 123, 125, 124, 60, 62, 47, 46] : List UInt8).any fun b => (b.toNat : Int) == (c.toNat : Int)) = fsB c :=
 of_decide_eq_true (zJi (P := fun c => decide ((([40, 41, 91, 93, 123, 125, 124, 60, 62, 47, 46] : List UInt8).any fun b => (b.toNat : Int) == (c.toNat : Int)) = fsB c)) (by decide +kernel) c)
theorem zSU (c : UInt8) : Lib.indexByte fsL ((c.toNat : Int).toNat.toUInt8) = Lib.indexByte fsL c := by
 rw [Int.toNat_natCast]; congr 1; exact UInt8.ofNat_toNat
theorem zJ3 (e s : List UInt8) : (e == s) = (s == e) := by
 rw [Bool.eq_iff_iff]; simp only [beq_iff_eq]; exact eq_comm
theorem zKr (s : List UInt8) : zDn s = some (kwL.any fun e => e == s) := by
 simp only [zDn, kwL, List.any_cons, List.any_nil, zJ3 [102, 114, 97, 99] s, zJ3 [114, 111, 111, 116] s, zJ3 [109, 97, 116, 114, 105, 120] s, zJ3 [102, 101, 110, 99, 101] s]
 generalize (s == [102, 114, 97, 99]) = b1
 generalize (s == [114, 111, 111, 116]) = b2
 generalize (s == [109, 97, 116, 114, 105, 120]) = b3
 generalize (s == [102, 101, 110, 99, 101]) = b4
 cases b1 <;> cases b2 <;> cases b3 <;> cases b4 <;> rfl
theorem zHc (s : List UInt8) : zC8 s = some (acL.any fun e => e == s) := by
 simp only [zC8, acL, List.any_cons, List.any_nil, zJ3 [104, 97, 116] s, zJ3 [98, 97, 114] s, zJ3 [118, 101, 99] s, zJ3 [100, 111, 116] s, zJ3 [116, 105, 108, 100, 101] s, zJ3 [99, 104, 101, 99, 107] s]
 generalize (s == [104, 97, 116]) = b1
 generalize (s == [98, 97, 114]) = b2
 generalize (s == [118, 101, 99]) = b3
 generalize (s == [100, 111, 116]) = b4
 generalize (s == [116, 105, 108, 100, 101]) = b5
 generalize (s == [99, 104, 101, 99, 107]) = b6
 cases b1 <;> cases b2 <;> cases b3 <;> cases b4 <;> cases b5 <;> cases b6 <;> rfl
def symB (s : List UInt8) : Bool :=
 if s.length = 1 then s.all zCR || s.all spB
 else s.all zCR && (decide (2 ≤ s.length) && (decide (s.length ≤ 16) && (!(kwL.any fun e => e == s) && !(acL.any fun e => e == s))))
theorem len1 (s : List UInt8) : ((s.length : Int) == 1) = decide (s.length = 1) := by
 by_cases h : s.length = 1
 ·simp [h]
 ·rw [zA7 h]
  cases e : ((s.length : Int) == 1) with
  | false => rfl
  | true => have := eq_of_beq e; omega
theorem zEQ (a b : Nat) : decide ((a : Int) ≤ (b : Int)) = decide (a ≤ b) := by
 by_cases h : a ≤ b
 ·rw [zA8 h, zA8 (by omega)]
 ·rw [zA7 h, zA7 (by omega)]
theorem zRs (a b : Nat) : decide ((a : Int) < (b : Int)) = decide (a < b) := by
 by_cases h : a < b
 ·rw [zA8 h, zA8 (by omega)]
 ·rw [zA7 h, zA7 (by omega)]
theorem zLb (n : Nat) (s : List UInt8) (h : s.length + 40 < n) (hb : s.length ≤ 1073741824) : zDI n s = some (symB s) := by
 rw [zDI, len1, zKs n s (by omega) hb]
 unfold symB
 by_cases h1 : s.length = 1
 ·rw [zA8 h1, if_pos h1]
  obtain ⟨c, rfl⟩ := List.length_eq_one_iff.1 h1
  have : zDL [43, 45, 42, 47, 61, 60, 62, 44, 59, 58, 33, 124, 39, 63, 126, 64] [c] = some (spB c) := rfl
  simp only [cond_true, Option.bind_some, this, List.all_cons, List.all_nil, Bool.and_true]
  cases zCR c <;> rfl
 ·rw [zA7 h1, if_neg h1]
  have e2 := zEQ 2 s.length
  have e16 := zEQ s.length 16
  rw [show ((2 : Nat) : Int) = 2 from rfl] at e2
  rw [show ((16 : Nat) : Int) = 16 from rfl] at e16
  simp only [cond_false, Option.bind_some, zKr, zHc, e2, e16]
  cases s.all zCR <;> cases decide (2 ≤ s.length) <;> cases decide (s.length ≤ 16) <;> cases (kwL.any fun e => e == s) <;> rfl
theorem zM7 (n : Nat) (s : List UInt8) (h : s.length + 40 < n) (hb : s.length ≤ 1073741824) : zEf n s = some (symB s) := by
 rw [zEf, len1, zLj n s (by omega) hb]
 unfold symB
 by_cases h1 : s.length = 1
 ·rw [zA8 h1, if_pos h1]
  obtain ⟨c, rfl⟩ := List.length_eq_one_iff.1 h1
  have e1 : at? [c] (0 : Int) = some c := rfl
  have e2 : zCW n [43, 45, 42, 47, 61, 60, 62, 44, 59, 58, 33, 124, 39, 63, 126, 64] (c.toNat : Int) = some (spB c) := by
   rw [zL2 n _ _ (by simp only [List.length_cons, List.length_nil]; omega) (by simp only [List.length_cons, List.length_nil]; omega)]
   exact congrArg some (zT6 c)
  simp only [cond_true, Option.bind_some, e1, zDJ, zI3, e2, List.all_cons, List.all_nil, Bool.and_true]
  cases zCR c <;> rfl
 ·rw [zA7 h1, if_neg h1]
  have e2 := zEQ 2 s.length
  have e16 := zEQ s.length 16
  rw [show ((2 : Nat) : Int) = 2 from rfl] at e2
  rw [show ((16 : Nat) : Int) = 16 from rfl] at e16
  have ek : zD4 n kwL s = some (kwL.any fun e => e == s) := zKG n kwL s (by simp only [kwL, List.length_cons, List.length_nil]; omega) (by simp [kwL])
  have ea : zD4 n acL s = some (acL.any fun e => e == s) := zKG n acL s (by simp only [acL, List.length_cons, List.length_nil]; omega) (by simp [acL])
  have k1 : zD5 = some kwL := rfl
  have a1 : zDa = some acL := rfl
  unfold zMr
  simp only [cond_false, Option.bind_some, k1, a1, ek, ea, e2, e16]
  cases s.all zCR <;> cases decide (2 ≤ s.length) <;> cases decide (s.length ≤ 16) <;> cases (kwL.any fun e => e == s) <;> rfl
def fenB (s : List UInt8) : Bool := decide (s.length = 2) && s.all fsB
theorem len2 (s : List UInt8) : ((s.length : Int) == 2) = decide (s.length = 2) := by
 by_cases h : s.length = 2
 ·simp [h]
 ·rw [zA7 h]
  cases e : ((s.length : Int) == 2) with
  | false => rfl
  | true => have := eq_of_beq e; omega
theorem zML (s : List UInt8) : zEc s = some (fenB s) := by
 rw [zEc, len2]
 unfold fenB
 by_cases h1 : s.length = 2
 ·rw [zA8 h1]
  match s, h1 with
  | [c, d], _ =>
   have e0 : at? [c, d] (0 : Int) = some c := rfl
   have e1 : at? [c, d] (1 : Int) = some d := rfl
   have f : ∀ c : UInt8, zCB [40, 41, 91, 93, 123, 125, 60, 62, 47, 124, 46] (c.toNat : Int) = some (Lib.indexByte fsL c) := fun c => congrArg some (zSU c)
   have g : ∀ c : UInt8, decide (0 ≤ Lib.indexByte fsL c) = fsB c := fun c => rfl
   simp only [cond_true, e0, e1, f, Option.bind_some, g, List.all_cons, List.all_nil, Bool.and_true, Bool.true_and]
   cases fsB c <;> rfl
 ·rw [zA7 h1]; rfl
theorem zOP (n : Nat) (s : List UInt8) (h : 40 < n) : (bif ((s.length : Int) == 2) then (
        (at? s 0).bind fun c9 =>
        (zCW n [40, 41, 91, 93, 123, 125, 124, 60, 62, 47, 46] (c9.toNat : Int)).bind fun y11 =>
        bif y11 then (
         (at? s 1).bind fun c12 =>
         (zCW n [40, 41, 91, 93, 123, 125, 124, 60, 62, 47, 46] (c12.toNat : Int)).bind fun y14 =>
         some y14
        ) else (
         some false
        )
       ) else (
        some false
       )) = some (fenB s) := by
 rw [len2]
 unfold fenB
 by_cases h1 : s.length = 2
 ·rw [zA8 h1]
  match s, h1 with
  | [c, d], _ =>
   have e0 : at? [c, d] (0 : Int) = some c := rfl
   have e1 : at? [c, d] (1 : Int) = some d := rfl
   have f : ∀ c : UInt8, zCW n [40, 41, 91, 93, 123, 125, 124, 60, 62, 47, 46] (c.toNat : Int) = some (fsB c) := fun c => by
    rw [zL2 n _ _ (by simp only [List.length_cons, List.length_nil]; omega) (by simp only [List.length_cons, List.length_nil]; omega)]
    exact congrArg some (zT5 c)
   simp only [cond_true, e0, e1, f, Option.bind_some, List.all_cons, List.all_nil, Bool.and_true, Bool.true_and]
   cases fsB c <;> rfl
 ·rw [zA7 h1]; rfl
def okL (L : Nat) : Nat → List UInt8 → Bool
 | _, [] => true
 | i, c :: r => ((c == 46 && (decide (0 < i) && decide (i + 1 < L))) || zDi c) && okL L (i + 1) r
def numB (s : List UInt8) : Bool := okL s.length 0 s && (decide (0 < s.length) && (decide (s.length ≤ 20) && decide (s.count 46 ≤ 1)))
theorem zUG (c : UInt8) : ((c.toNat : Int) == 46) = (c == 46) :=
 of_decide_eq_true (zJi (P := fun c => decide (((c.toNat : Int) == 46) = (c == 46))) (by decide +kernel) c)
theorem zT7 : zDi 46 = false := by decide
theorem zMN (s : List UInt8) (hb : s.length ≤ 1073741824) : ∀ (k i p : Nat), s.length - i < k → i ≤ s.length → p ≤ i →
  zB2 s k (p : Int) (i : Int) = some (if okL s.length i (s.drop i) then .go ((p + (s.drop i).count 46 : Nat) : Int) else .ret false)
 | 0, _, _, h, _, _ => by omega
 | k + 1, i, p, hk, hi, hp => by
  unfold zB2
  by_cases h : i < s.length
  ·rw [zA8 (Int.ofNat_lt.2 h), cond_true, zBi h, List.drop_eq_getElem_cons h]
   generalize s[i] = c
   simp only [Option.bind_some, zUG, zPs, okL, List.count_cons]
   rw [zAX (by omega), zAX (by omega), wrap64_in (by omega) (by omega)]
   have d1 : decide ((0 : Int) < (i : Int)) = decide (0 < i) := zRs 0 i
   have d2 : decide ((i : Int) < (s.length : Int) - 1) = decide (i + 1 < s.length) := by
    by_cases h : i + 1 < s.length
    ·rw [zA8 h, zA8 (by omega)]
    ·rw [zA7 h, zA7 (by omega)]
   rw [d1, d2]
   cases e : c == 46 with
   | true =>
    obtain rfl : c = 46 := eq_of_beq e
    simp only [cond_true, zT7, Bool.true_and, Bool.or_false]
    cases decide (0 < i) with
    | false => rfl
    | true =>
     simp only [cond_true, Option.bind_some, Bool.true_and]
     cases decide (i + 1 < s.length) with
     | false => rfl
     | true =>
      simp only [cond_true, Option.bind_some, Bool.true_and]
      rw [zMN s hb k (i + 1) (p + 1) (by omega) (by omega) (by omega)]
      simp only [if_true]
      rw [show p + 1 + (s.drop (i + 1)).count 46 = p + ((s.drop (i + 1)).count 46 + 1) by omega]
   | false =>
    simp only [cond_false, Option.bind_some, Bool.false_and, Bool.false_or]
    cases zDi c with
    | false => rfl
    | true =>
     simp only [Bool.not_true, cond_false, Option.bind_some, Bool.true_and]
     rw [zMN s hb k (i + 1) p (by omega) (by omega) (by omega)]
     simp
  ·rw [zA7 (by omega), cond_false]
   obtain rfl : i = s.length := by omega
   simp [okL]
theorem zM6 (n : Nat) (s : List UInt8) (h : s.length < n) (hb : s.length ≤ 1073741824) : zEe n s = some (numB s) := by
 have := zMN s hb n 0 0 (by omega) (by omega) (by omega)
 rw [show ((0 : Nat) : Int) = 0 from rfl, List.drop_zero] at this
 rw [zEe, this]
 unfold numB
 have e0 := zRs 0 s.length
 have e20 := zEQ s.length 20
 have e1 := zEQ (s.count 46) 1
 rw [show ((0 : Nat) : Int) = 0 from rfl] at e0
 rw [show ((20 : Nat) : Int) = 20 from rfl] at e20
 rw [show ((1 : Nat) : Int) = 1 from rfl] at e1
 cases okL s.length 0 s with
 | false => rfl
 | true =>
  simp only [if_true, Option.bind_some, e0, e20, Nat.zero_add, e1]
  cases decide (0 < s.length) <;> cases decide (s.length ≤ 20) <;> rfl
theorem zNY : ∀ s : List UInt8, (s.count 46 = 0 ∧ Lib.indexByte s 46 = -1) ∨ ∃ a b, s = a ++ 46 :: b ∧ a.count 46 = 0 ∧ Lib.indexByte s 46 = (a.length : Int)
 | [] => .inl ⟨rfl, rfl⟩
 | c :: s => by
  by_cases h : c = 46
  ·subst h
   exact .inr ⟨[], s, rfl, rfl, by simp [Lib.indexByte]⟩
  ·have hc : (c == 46) = false := by simpa using h
   rcases zNY s with ⟨h1, h2⟩ | ⟨a, b, rfl, h1, h2⟩
   ·exact .inl ⟨by rw [List.count_cons, h1, hc]; rfl, by simp [Lib.indexByte, hc, h2]⟩
   ·refine .inr ⟨c :: a, b, rfl, by rw [List.count_cons, h1, hc]; rfl, ?_⟩
    have h3 : ((a.length : Int) == -1) = false := by
     cases e : ((a.length : Int) == -1) with
     | false => rfl
     | true => have := eq_of_beq e; omega
    simp [Lib.indexByte, hc, h2, h3]
theorem zGx (L : Nat) : ∀ (i : Nat) (a : List UInt8), a.count 46 = 0 → okL L i a = a.all zDi
 | _, [], _ => rfl
 | i, c :: a, h => by
  have hc : (c == 46) = false := by
   cases e : c == 46 with
   | false => rfl
   | true => rw [List.count_cons, e] at h; simp at h
  rw [List.count_cons, hc] at h
  rw [okL, hc, zGx L (i + 1) a (by simpa using h)]
  simp
theorem zLW (L : Nat) : ∀ (i : Nat) (a b : List UInt8), okL L i (a ++ b) = (okL L i a && okL L (i + a.length) b)
 | _, [], b => by simp [okL]
 | i, c :: a, b => by
  simp only [List.cons_append, okL, zLW L (i + 1) a b, List.length_cons, Bool.and_assoc, show i + 1 + a.length = i + (a.length + 1) by omega]
theorem zMC : ∀ a : List UInt8, a.all zDi = true → a.count 46 = 0
 | [], _ => rfl
 | c :: a, h => by
  simp only [List.all_cons, Bool.and_eq_true] at h
  have hc : (c == 46) = false := by
   cases e : c == 46 with
   | false => rfl
   | true => obtain rfl : c = 46 := eq_of_beq e; simp [zT7] at h
  rw [List.count_cons, hc, zMC a h.2]; rfl
theorem zUl (a b : List UInt8) (ha : a.count 46 = 0) : numB (a ++ 46 :: b) = (decide ((a ++ 46 :: b).length ≤ 20) && ((a.all zDi && !(a == [])) && (b.all zDi && !(b == [])))) := by
 unfold numB
 have hl : (a ++ 46 :: b).length = a.length + (b.length + 1) := by simp
 rw [zLW, zGx _ _ a ha, hl]
 simp only [okL, zT7, Bool.or_false, List.count_append, List.count_cons, ha, beq_self_eq_true, Bool.true_and, if_true, Nat.zero_add]
 have e1 : decide (0 < a.length) = !(a == []) := by cases a <;> rfl
 have e2 : decide (a.length + 1 < a.length + (b.length + 1)) = !(b == []) := by
  cases b with
  | nil => simp
  | cons c b => simp
 have e3 : decide (0 < a.length + (b.length + 1)) = true := zA8 (by omega)
 rw [e1, e2, e3]
 cases hb : b.all zDi with
 | true =>
  rw [zGx _ _ b (zMC b hb), hb, zMC b hb]
  cases a.all zDi <;> cases a == [] <;> cases b == [] <;> cases decide (a.length + (b.length + 1) ≤ 20) <;> rfl
 | false =>
  cases hc : decide (b.count 46 + 1 ≤ 1) with
  | true =>
   have : b.count 46 = 0 := by have := of_decide_eq_true hc; omega
   rw [zGx _ _ b this, hb]
   cases a.all zDi <;> cases a == [] <;> cases b == [] <;> cases decide (a.length + (b.length + 1) ≤ 20) <;> rfl
  | false =>
   generalize okL _ _ b = z
   cases z <;> cases a.all zDi <;> cases a == [] <;> cases b == [] <;> cases decide (a.length + (b.length + 1) ≤ 20) <;> rfl
theorem zRU (s : List UInt8) (h : s.count 46 = 0) : numB s = (decide (s.length ≤ 20) && (s.all zDi && !(s == []))) := by
 unfold numB
 rw [zGx _ _ s h, h]
 have e1 : decide (0 < s.length) = !(s == []) := by cases s <;> rfl
 rw [e1]
 cases s.all zDi <;> cases s == [] <;> cases decide (s.length ≤ 20) <;> rfl
theorem zLa (n : Nat) (s : List UInt8) (h : s.length < n) (hb : s.length ≤ 1073741824) : zC7 n s = some (numB s) := by
 have e20 := zEQ s.length 20
 rw [show ((20 : Nat) : Int) = 20 from rfl] at e20
 have hi : zDv s [46] = some (Lib.indexByte s 46) := rfl
 rcases zNY s with ⟨h1, h2⟩ | ⟨a, b, rfl, h1, h2⟩
 ·rw [zRU s h1]
  simp only [zC7, zDM, zCp, hi, h2, Option.bind_some, show decide ((0 : Int) ≤ -1) = false from rfl, cond_false, e20, zFs n s h hb]
  cases decide (s.length ≤ 20) <;> cases (s.all zDi && !(s == [])) <;> rfl
 ·have hl : (a ++ 46 :: b).length = a.length + (b.length + 1) := by simp
  rw [zUl a b h1]
  have w1 : IntKind.i64.wrap ((a.length : Int) + (([46] : List UInt8).length : Int)) = ((a.length + 1 : Nat) : Int) := zAX (by omega)
  have t1 : ((a ++ 46 :: b).take ((a.length : Int)).toNat).drop (0 : Int).toNat = a := by simp
  have t2 : ((a ++ 46 :: b).take (((a ++ 46 :: b).length : Int)).toNat).drop (((a.length + 1 : Nat) : Int)).toNat = b := by
   rw [Int.toNat_natCast, Int.toNat_natCast, List.take_length, List.drop_append]
   simp
  simp only [zC7, zDM, zCp, hi, h2, Option.bind_some, w1]
  rw [zA8 (by omega), cond_true, zB6 (by omega), zB6 (by omega), t1, t2]
  simp only [Option.bind_some, e20, zFs n a (by omega) (by omega), zFs n b (by omega) (by omega)]
  cases decide ((a ++ 46 :: b).length ≤ 20) <;> cases (a.all zDi && !(a == [])) <;> cases (b.all zDi && !(b == [])) <;> rfl
end Go.Proofs.YtgfneloodabafaaGreatDoor
namespace Go.Proofs.YtgfneloodabafaaGreatDoor
open Go.Abs
def Nd.kind : Nd → Int | .mk k _ _ _ => k
def zRc (k : Int) (t : List UInt8) : Bool :=
 if k = 2 then symB t else if k = 3 then numB t else if k = 4 then (decide (t.length ≤ 200) && t.all zFS) else if k = 10 then acL.any (fun e => e == t) else if k = 11 then fenB t else t == []
def zEU (k c : Int) (m : Int) : Bool :=
 if k = 12 then decide (1 ≤ c) && (decide (c ≤ 16) && (decide (1 ≤ m) && (decide (m ≤ 256) && (m.tmod c == 0))))
 else (c == 0) && (if k = 1 then decide (m ≤ 200) else if k = 2 then m == 0 else if k = 3 then m == 0 else if k = 4 then m == 0 else if k = 5 then m == 2 else if k = 6 then m == 2 else if k = 7 then m == 2 else if k = 8 then m == 2
  else if k = 9 then m == 3 else if k = 10 then m == 1 else if k = 11 then m == 1 else false)
mutual
def zET : Nd → Bool
 | .mk k t c ks => (zRc k t && zEU k c (ks.length : Int)) && zDS k ks
def zDS : Int → List Nd → Bool
 | _, [] => true
 | k, v :: vs => (!((v.kind == 1) == (k == 1)) && zET v) && zDS k vs
end
mutual
def Nd.dep : Nd → Nat
 | .mk _ _ _ ks => Nd.deps ks + 1
def Nd.deps : List Nd → Nat
 | [] => 0
 | v :: vs => Nat.max v.dep (Nd.deps vs)
end
theorem zLO {k : Int} {a : List Nd} {i : Nat} (h : i < a.length) : zDS k (a.drop i) = ((!((a[i].kind == 1) == (k == 1)) && zET a[i]) && zDS k (a.drop (i + 1))) := by
 rw [List.drop_eq_getElem_cons h]; rfl
theorem zNZ {a : List Nd} {i : Nat} (h : i < a.length) : Nd.deps (a.drop i) = Nat.max (a[i]).dep (Nd.deps (a.drop (i + 1))) := by
 rw [List.drop_eq_getElem_cons h]; rfl
mutual
theorem Nd.dep_cnt : ∀ v : Nd, v.dep ≤ v.cnt
 | .mk _ _ _ ks => by have := Nd.deps_cnts ks; simp only [Nd.dep, Nd.cnt]; omega
theorem Nd.deps_cnts : ∀ vs : List Nd, Nd.deps vs ≤ Nd.cnts vs
 | [] => Nat.le_refl _
 | v :: vs => by
  have := Nd.dep_cnt v; have := Nd.deps_cnts vs
  simp only [Nd.deps, Nd.cnts]
  exact Nat.max_le.2 ⟨by omega, by omega⟩
end
mutual
theorem Nd.cnt_w : ∀ v : Nd, v.cnt ≤ v.w
 | .mk _ t _ ks => by have := Nd.cnts_ws ks; simp only [Nd.cnt, Nd.w]; omega
theorem Nd.cnts_ws : ∀ vs : List Nd, Nd.cnts vs ≤ Nd.ws vs
 | [] => Nat.le_refl _
 | v :: vs => by have := Nd.cnt_w v; have := Nd.cnts_ws vs; simp only [Nd.cnts, Nd.ws]; omega
end
theorem zDN {a b : Int} (h : a ≠ b) : (a == b) = false := by
 cases e : (a == b) with
 | false => rfl
 | true => exact absurd (eq_of_beq e) h
theorem zPO (n : Nat) (k : Int) (t : List UInt8) (c : Int) (ks : List Nd) (h : t.length + 40 < n) (hb : t.length ≤ 1073741824) : zFN n (.mk k t c ks) = some (zRc k t) := by
 have e200 := zEQ t.length 200
 rw [show ((200 : Nat) : Int) = 200 from rfl] at e200
 have ea : zD4 n acL t = some (acL.any fun e => e == t) := zKG n acL t (by simp only [acL, List.length_cons, List.length_nil]; omega) (by simp [acL])
 have a1 : zDa = some acL := rfl
 unfold zFN zRc
 dsimp only
 by_cases h2 : k = 2
 ·subst h2; simp only [beq_self_eq_true, cond_true, zM7 n t h hb, Option.bind_some, if_true]
 rw [zDN h2, if_neg h2, cond_false]
 by_cases h3 : k = 3
 ·subst h3; simp only [beq_self_eq_true, cond_true, zM6 n t (by omega) hb, Option.bind_some, if_true]
 rw [zDN h3, if_neg h3, cond_false]
 by_cases h4 : k = 4
 ·subst h4; simp only [beq_self_eq_true, cond_true, zJu n t (by omega) hb, Option.bind_some, if_true, e200]
  cases decide (t.length ≤ 200) <;> rfl
 rw [zDN h4, if_neg h4, cond_false]
 by_cases h10 : k = 10
 ·subst h10; simp only [beq_self_eq_true, cond_true, a1, ea, Option.bind_some, if_true]
 rw [zDN h10, if_neg h10, cond_false]
 by_cases h11 : k = 11
 ·subst h11; rw [if_pos rfl, beq_self_eq_true, cond_true, zOP n t (by omega)]; rfl
 rw [zDN h11, if_neg h11, cond_false]
theorem kinds (k : Int) : k = 1 ∨ k = 2 ∨ k = 3 ∨ k = 4 ∨ k = 5 ∨ k = 6 ∨ k = 7 ∨ k = 8 ∨ k = 9 ∨ k = 10 ∨ k = 11 ∨ k = 12 ∨ (k < 1 ∨ 12 < k) := by omega
theorem zPN (k : Int) (t : List UInt8) (c : Int) (ks : List Nd) : zFM (.mk k t c ks) = some (zEU k c (ks.length : Int)) := by
 unfold zFM
 dsimp only
 generalize (ks.length : Int) = m
 rcases kinds k with rfl | rfl | rfl | rfl | rfl | rfl | rfl | rfl | rfl | rfl | rfl | rfl | h
 ·simp only [bne, zEU]; generalize (c == 0) = z; generalize decide (m ≤ 200) = y; cases z <;> rfl
 ·simp only [bne, zEU]; generalize (c == 0) = z; generalize (m == 0) = y; cases z <;> rfl
 ·simp only [bne, zEU]; generalize (c == 0) = z; generalize (m == 0) = y; cases z <;> rfl
 ·simp only [bne, zEU]; generalize (c == 0) = z; generalize (m == 0) = y; cases z <;> rfl
 ·simp only [bne, zEU]; generalize (c == 0) = z; generalize (m == 2) = y; cases z <;> rfl
 ·simp only [bne, zEU]; generalize (c == 0) = z; generalize (m == 2) = y; cases z <;> rfl
 ·simp only [bne, zEU]; generalize (c == 0) = z; generalize (m == 2) = y; cases z <;> rfl
 ·simp only [bne, zEU]; generalize (c == 0) = z; generalize (m == 2) = y; cases z <;> rfl
 ·simp only [bne, zEU]; generalize (c == 0) = z; generalize (m == 3) = y; cases z <;> rfl
 ·simp only [bne, zEU]; generalize (c == 0) = z; generalize (m == 1) = y; cases z <;> rfl
 ·simp only [bne, zEU]; generalize (c == 0) = z; generalize (m == 1) = y; cases z <;> rfl
 ·unfold zEU
  rw [if_pos rfl, beq_self_eq_true, cond_true]
  by_cases h1 : 1 ≤ c
  ·rw [zA8 h1, zB6 (by omega)]
   generalize (m.tmod c == 0) = y
   cases decide (c ≤ 16) <;> cases decide (1 ≤ m) <;> cases decide (m ≤ 256) <;> rfl
  ·rw [zA7 h1]; rfl
 ·have e : ∀ i : Int, 1 ≤ i → i ≤ 12 → (k == i) = false := fun i h1 h2 => zDN (by omega)
  have f : ∀ i : Int, 1 ≤ i → i ≤ 12 → k ≠ i := fun i h1 h2 => by omega
  unfold zEU
  rw [if_neg (f 12 (by decide) (by decide)), if_neg (f 1 (by decide) (by decide)), if_neg (f 2 (by decide) (by decide)), if_neg (f 3 (by decide) (by decide)), if_neg (f 4 (by decide) (by decide)), if_neg (f 5 (by decide) (by decide)),
   if_neg (f 6 (by decide) (by decide)), if_neg (f 7 (by decide) (by decide)), if_neg (f 8 (by decide) (by decide)), if_neg (f 9 (by decide) (by decide)), if_neg (f 10 (by decide) (by decide)), if_neg (f 11 (by decide) (by decide))]
  rw [e 12 (by decide) (by decide), e 1 (by decide) (by decide), e 2 (by decide) (by decide), e 3 (by decide) (by decide), e 4 (by decide) (by decide), e 5 (by decide) (by decide),
   e 6 (by decide) (by decide), e 7 (by decide) (by decide), e 8 (by decide) (by decide), e 9 (by decide) (by decide), e 10 (by decide) (by decide), e 11 (by decide) (by decide)]
  cases (c == 0) <;> cases (c != 0) <;> rfl
theorem zUO (n : Nat) (x : Int) (k : Int) (t : List UInt8) (c : Int) (ks : List Nd) (h : t.length + 40 < n) (hb : t.length ≤ 1073741824) :
  zCe n ((), x) (.mk k t c ks) = some (zRc k t && zEU k c (ks.length : Int), ((), x)) := by
 have e200 := zEQ t.length 200
 rw [show ((200 : Nat) : Int) = 200 from rfl] at e200
 unfold zCe
 dsimp only
 generalize (ks.length : Int) = m
 have em : zBS t = some (t == []) := rfl
 rcases kinds k with rfl | rfl | rfl | rfl | rfl | rfl | rfl | rfl | rfl | rfl | rfl | rfl | h
 ·simp only [em]
  show _ = some ((t == []) && ((c == 0) && decide (m ≤ 200)), ((), x))
  cases t == [] <;> cases c == 0 <;> rfl
 ·simp only [zLb n t h hb]
  show _ = some (symB t && ((c == 0) && (m == 0)), ((), x))
  cases symB t <;> cases c == 0 <;> rfl
 ·simp only [zLa n t (by omega) hb]
  show _ = some (numB t && ((c == 0) && (m == 0)), ((), x))
  cases numB t <;> cases c == 0 <;> rfl
 ·simp only [zMM n t (by omega) hb, e200]
  show _ = some ((decide (t.length ≤ 200) && t.all zFS) && ((c == 0) && (m == 0)), ((), x))
  cases decide (t.length ≤ 200) <;> cases t.all zFS <;> cases c == 0 <;> rfl
 ·simp only [em]
  show _ = some ((t == []) && ((c == 0) && (m == 2)), ((), x))
  cases t == [] <;> cases c == 0 <;> rfl
 ·simp only [em]
  show _ = some ((t == []) && ((c == 0) && (m == 2)), ((), x))
  cases t == [] <;> cases c == 0 <;> rfl
 ·simp only [em]
  show _ = some ((t == []) && ((c == 0) && (m == 2)), ((), x))
  cases t == [] <;> cases c == 0 <;> rfl
 ·simp only [em]
  show _ = some ((t == []) && ((c == 0) && (m == 2)), ((), x))
  cases t == [] <;> cases c == 0 <;> rfl
 ·simp only [em]
  show _ = some ((t == []) && ((c == 0) && (m == 3)), ((), x))
  cases t == [] <;> cases c == 0 <;> rfl
 ·simp only [zHc]
  show _ = some ((acL.any fun e => e == t) && ((c == 0) && (m == 1)), ((), x))
  cases (acL.any fun e => e == t) <;> cases c == 0 <;> rfl
 ·simp only [zML]
  show _ = some (fenB t && ((c == 0) && (m == 1)), ((), x))
  cases fenB t <;> cases c == 0 <;> rfl
 ·simp only [em]
  show _ = some ((t == []) && (decide (1 ≤ c) && (decide (c ≤ 16) && (decide (1 ≤ m) && (decide (m ≤ 256) && (m.tmod c == 0))))), ((), x))
  by_cases h1 : 1 ≤ c
  ·rw [zA8 h1, zB6 (by omega)]
   generalize (m.tmod c == 0) = y
   cases t == [] <;> cases decide (c ≤ 16) <;> cases decide (1 ≤ m) <;> cases decide (m ≤ 256) <;> rfl
  ·rw [zA7 h1]
   cases t == [] <;> rfl
 ·have f : ∀ i : Int, 1 ≤ i → i ≤ 12 → k ≠ i := fun i h1 h2 => by omega
  have hk : zEU k c m = false := by
   unfold zEU
   rw [if_neg (f 12 (by decide) (by decide)), if_neg (f 1 (by decide) (by decide)), if_neg (f 2 (by decide) (by decide)), if_neg (f 3 (by decide) (by decide)), if_neg (f 4 (by decide) (by decide)), if_neg (f 5 (by decide) (by decide)),
    if_neg (f 6 (by decide) (by decide)), if_neg (f 7 (by decide) (by decide)), if_neg (f 8 (by decide) (by decide)), if_neg (f 9 (by decide) (by decide)), if_neg (f 10 (by decide) (by decide)), if_neg (f 11 (by decide) (by decide))]
   exact Bool.and_false _
  rw [hk, Bool.and_false]
  by_cases h1 : k < 1
  ·rw [zA8 h1]; rfl
  ·rw [zA7 h1, zA8 (show 12 < k by omega)]; rfl
theorem zIf {F : Nd → Option Bool} {k : Int} {ks : List Nd} (hF : ∀ v ∈ ks, F v = some (zET v)) (hl : ks.length ≤ 1073741824) :
  ∀ (q i : Nat), ks.length - i < q → i ≤ ks.length → zCA F k ks q (i : Int) = some (if zDS k (ks.drop i) then .go () else .ret false)
 | 0, _, h, _ => by omega
 | q + 1, i, hq, hi => by
  unfold zCA
  by_cases h : i < ks.length
  ·rw [zA8 (Int.ofNat_lt.2 h), cond_true, zBi h]
   have hf := hF _ (List.getElem_mem h)
   have g1 := zLO (k := k) h
   rcases e : ks[i] with ⟨a, b, c, d⟩
   rw [e] at hf g1
   simp only [Nd.kind] at g1
   generalize zDS k (ks.drop i) = g at g1 ⊢
   subst g1
   simp only [Option.bind_some, hf]
   rw [zAX (by omega), zIf hF hl q (i + 1) (by omega) (by omega)]
   cases ((a == 1) == (k == 1)) <;> cases zET (Nd.mk a b c d) <;> simp
  ·rw [zA7 (by omega), cond_false]
   obtain rfl : i = ks.length := by omega
   simp [zDS]
theorem zKH : ∀ (n : Nat) (t : Nd), t.w + 45 < n → t.w ≤ 1073741824 → zDb n t = some (zET t)
 | 0, _, h, _ => by omega
 | n + 1, .mk k t c ks, h, hb => by
  simp only [Nd.w] at h hb
  have hl := Nd.ws_len ks
  unfold zDb
  rw [zPO n k t c ks (by omega) (by omega), zPN]
  have := zIf (F := zDb n) (k := k) (ks := ks) (fun v hv => zKH n v (by have := Nd.w_mem hv; omega) (by have := Nd.w_mem hv; omega)) (by omega) n 0 (by omega) (by omega)
  rw [show ((0 : Nat) : Int) = 0 from rfl, List.drop_zero] at this
  simp only [Option.bind_some, this, zET]
  cases zRc k t <;> cases zEU k c (ks.length : Int) <;> cases zDS k ks <;> rfl
theorem zHh {F : Nd → Option Int} {ks : List Nd} (hF : ∀ v ∈ ks, F v = some (v.dep : Int)) (hl : ks.length ≤ 1073741824) :
  ∀ (q i o : Nat), ks.length - i < q → i ≤ ks.length → zCk F ks q (o : Int) (i : Int) = some ((Nat.max o (Nd.deps (ks.drop i)) : Nat) : Int)
 | 0, _, _, h, _ => by omega
 | q + 1, i, o, hq, hi => by
  unfold zCk
  by_cases h : i < ks.length
  ·rw [zA8 (Int.ofNat_lt.2 h), cond_true, zBi h, zNZ h]
   have hf := hF _ (List.getElem_mem h)
   rcases e : ks[i] with ⟨a, b, c, d⟩
   rw [e] at hf
   simp only [Option.bind_some, hf]
   have hm : (if (o : Int) < ((Nd.mk a b c d).dep : Int) then ((Nd.mk a b c d).dep : Int) else (o : Int)) = ((Nat.max o (Nd.mk a b c d).dep : Nat) : Int) := by
    by_cases g : (o : Int) < ((Nd.mk a b c d).dep : Int)
    ·rw [if_pos g]; congr 1; exact (Nat.max_eq_right (by omega)).symm
    ·rw [if_neg g]; congr 1; exact (Nat.max_eq_left (by omega)).symm
   rw [zAX (by omega), hm, zHh hF hl q (i + 1) _ (by omega) (by omega)]
   congr 2
   exact Nat.max_assoc _ _ _
  ·rw [zA7 (by omega), cond_false]
   obtain rfl : i = ks.length := by omega
   rw [List.drop_length]
   congr 2
   exact (Nat.max_eq_left (Nat.zero_le _)).symm
theorem zJf : ∀ (n : Nat) (t : Nd), t.cnt < n → t.cnt ≤ 67108864 → zCy n t = some (t.dep : Int)
 | 0, _, h, _ => by omega
 | n + 1, .mk k t c ks, h, hb => by
  simp only [Nd.cnt] at h hb
  have hl := Nd.cnts_len ks
  have hd := Nd.deps_cnts ks
  unfold zCy
  have := zHh (F := zCy n) (ks := ks) (fun v hv => zJf n v (by have := Nd.cnts_mem hv; omega) (by have := Nd.cnts_mem hv; omega)) (by omega) n 0 0 (by omega) (by omega)
  rw [show ((0 : Nat) : Int) = 0 from rfl, List.drop_zero] at this
  rw [this, Option.bind_some, show Nat.max 0 (Nd.deps ks) = Nd.deps ks from Nat.max_eq_right (Nat.zero_le _), zAX (by omega)]
  rfl
def zAR (t : Nd) : Bool := (t.kind == 1) && (zET t && (decide (t.cnt ≤ 1000) && decide (t.dep ≤ 24)))
theorem zFl (n : Nat) (t : Nd) (h : t.w + 45 < n) (hb : t.w ≤ 67108864) : zB4 n t = some (zAR t) := by
 have hc := Nd.cnt_w t
 have e1 := zKH n t h (by omega)
 have e2 := zJe n t (by omega) (by omega)
 have e3 := zJf n t (by omega) (by omega)
 have e4 := zEQ t.cnt 1000
 rw [show ((1000 : Nat) : Int) = 1000 from rfl] at e4
 have e5 := zEQ t.dep 24
 rw [show ((24 : Nat) : Int) = 24 from rfl] at e5
 obtain ⟨k, s, c, ks⟩ := t
 unfold zB4 zAR
 simp only [e1, e2, e3, Option.bind_some, e4, e5, Nd.kind]
 cases k == 1 <;> cases zET (.mk k s c ks) <;> cases decide ((Nd.mk k s c ks).cnt ≤ 1000) <;> rfl
abbrev okN (t : Nd) (x d : Nat) : Prop := zET t = true ∧ x + t.cnt ≤ 1000 ∧ d + t.dep ≤ 25
abbrev okNs (k : Int) (vs : List Nd) (x d : Nat) : Prop := zDS k vs = true ∧ x + Nd.cnts vs ≤ 1000 ∧ d + Nd.deps vs ≤ 24
theorem zLH {F : (Unit × Int) → Nd → Int → Option (Bool × (Unit × Int))} {k : Int} {ks : List Nd} {d : Nat} (hd : d ≤ 24)
  (hF : ∀ v ∈ ks, ∀ x : Nat, x ≤ 1000 → ∃ y, F ((), (x : Int)) v ((d + 1 : Nat) : Int) = some (decide (okN v x (d + 1)), ((), y)) ∧ (okN v x (d + 1) → y = ((x + v.cnt : Nat) : Int))) (hl : ks.length ≤ 1073741824) :
  ∀ (q i x : Nat), ks.length - i < q → i ≤ ks.length → x ≤ 1000 →
   (okNs k (ks.drop i) x d ∧ zA1 F k ks (d : Int) q (x : Int) (i : Int) = some (.go ((x + Nd.cnts (ks.drop i) : Nat) : Int))) ∨
   (¬ okNs k (ks.drop i) x d ∧ ∃ z, zA1 F k ks (d : Int) q (x : Int) (i : Int) = some (.ret (false, ((), z))))
 | 0, _, _, h, _, _ => by omega
 | q + 1, i, x, hq, hi, hx => by
  unfold zA1
  by_cases h : i < ks.length
  ·rw [zA8 (Int.ofNat_lt.2 h), cond_true, zBi h]
   obtain ⟨y, hf, hy⟩ := hF _ (List.getElem_mem h) x hx
   have g1 := zLO (k := k) h
   have g2 := Nd.cnts_drop h
   have g3 := zNZ h
   rcases e : ks[i] with ⟨a, b, c, ds⟩
   rw [e] at hf hy g1 g2 g3
   simp only [Option.bind_some]
   rw [zAX (by omega), zAX (by omega), hf]
   simp only [Option.bind_some]
   have g4 : Nd.deps (ks.drop i) = Nat.max (Nd.mk a b c ds).dep (Nd.deps (ks.drop (i + 1))) := g3
   have g5 : (Nd.mk a b c ds).dep ≤ Nd.deps (ks.drop i) := by rw [g4]; exact Nat.le_max_left _ _
   have g6 : Nd.deps (ks.drop (i + 1)) ≤ Nd.deps (ks.drop i) := by rw [g4]; exact Nat.le_max_right _ _
   rw [show ((k == 1) == (a == 1)) = ((a == 1) == (k == 1)) by cases k == 1 <;> cases a == 1 <;> rfl]
   cases hkk : ((a == 1) == (k == 1)) with
   | true =>
    simp only [cond_true, Option.bind_some]
    refine .inr ⟨fun ⟨h1, _⟩ => ?_, _, rfl⟩
    rw [g1] at h1
    simp [Nd.kind, hkk] at h1
   | false =>
    simp only [cond_false, Option.bind_some]
    by_cases hok : okN (Nd.mk a b c ds) x (d + 1)
    ·rw [zA8 hok]
     simp only [Bool.not_true, cond_false]
     rw [hy hok]
     have hp := (Nd.mk a b c ds).cnt_pos
     rcases zLH hd hF hl q (i + 1) (x + (Nd.mk a b c ds).cnt) (by omega) (by omega) hok.2.1 with ⟨hr, hr2⟩ | ⟨hr, z, hr2⟩
     ·refine .inl ⟨⟨?_, ?_, ?_⟩, ?_⟩
      ·rw [g1, hr.1, hok.1]; simp [Nd.kind, hkk]
      ·have := hr.2.1; omega
      ·have := hr.2.2
       have := hok.2.2
       have : Nd.deps (ks.drop i) ≤ 24 - d := by rw [g4]; exact Nat.max_le.2 ⟨by omega, by omega⟩
       omega
      ·rw [hr2, g2]; congr 3; omega
     ·refine .inr ⟨fun ⟨h1, h2, h3⟩ => hr ⟨?_, by omega, by omega⟩, z, hr2⟩
      rw [g1] at h1
      simp only [Bool.and_eq_true] at h1
      exact h1.2
    ·rw [zA7 hok]
     simp only [Bool.not_false, cond_true]
     refine .inr ⟨fun ⟨h1, h2, h3⟩ => hok ⟨?_, by omega, by omega⟩, y, rfl⟩
     rw [g1] at h1
     simp only [Bool.and_eq_true] at h1
     exact h1.1.2
  ·rw [zA7 (by omega), cond_false]
   obtain rfl : i = ks.length := by omega
   rw [List.drop_length]
   exact .inl ⟨⟨rfl, hx, hd⟩, rfl⟩
theorem zP4 : ∀ (n : Nat) (t : Nd) (x d : Nat), t.w + 45 < n → t.w ≤ 67108864 → x ≤ 1000 → d ≤ 25 →
  ∃ y, zBa n ((), (x : Int)) t (d : Int) = some (decide (okN t x d), ((), y)) ∧ (okN t x d → y = ((x + t.cnt : Nat) : Int))
 | 0, _, _, _, h, _, _, _ => by omega
 | n + 1, .mk k t c ks, x, d, h, hb, hx, hd => by
  simp only [Nd.w] at h hb
  have hl := Nd.ws_len ks
  unfold zBa
  rw [zAX (by omega)]
  by_cases h1 : 1000 < ((x + 1 : Nat) : Int)
  ·rw [zA8 h1]
   simp only [cond_true, Option.bind_some]
   have hn : ¬ okN (.mk k t c ks) x d := fun ⟨_, h2, _⟩ => by simp only [Nd.cnt] at h2; omega
   exact ⟨_, by rw [zA7 hn], fun h => absurd h hn⟩
  ·rw [zA7 h1, cond_false]
   by_cases h2 : 24 < (d : Int)
   ·rw [zA8 h2]
    simp only [cond_true, Option.bind_some]
    have hn : ¬ okN (.mk k t c ks) x d := fun ⟨_, _, h2⟩ => by simp only [Nd.dep] at h2; omega
    exact ⟨_, by rw [zA7 hn], fun h => absurd h hn⟩
   ·rw [zA7 h2, cond_false, zUO n _ k t c ks (by omega) (by omega)]
    simp only [Option.bind_some]
    cases ho : (zRc k t && zEU k c (ks.length : Int)) with
    | false =>
     simp only [Bool.not_false, cond_true]
     have hn : ¬ okN (.mk k t c ks) x d := fun ⟨h1, _⟩ => by rw [zET, ho] at h1; cases h1
     exact ⟨_, by rw [zA7 hn], fun h => absurd h hn⟩
    | true =>
     simp only [Bool.not_true, cond_false]
     have := zLH (F := zBa n) (k := k) (ks := ks) (d := d) (by omega) (fun v hv z hz => zP4 n v z (d + 1) (by have := Nd.w_mem hv; omega) (by have := Nd.w_mem hv; omega) hz (by omega)) (by omega) n 0 (x + 1) (by omega) (by omega) (by omega)
     rw [show ((0 : Nat) : Int) = 0 from rfl, List.drop_zero] at this
     rcases this with ⟨hr, hr2⟩ | ⟨hr, z, hr2⟩
     ·have hy : okN (.mk k t c ks) x d := ⟨by rw [zET, ho, hr.1]; rfl, by have := hr.2.1; simp only [Nd.cnt]; omega, by have := hr.2.2; simp only [Nd.dep]; omega⟩
      rw [hr2]
      exact ⟨_, by rw [zA8 hy]; rfl, fun _ => by simp only [Nd.cnt]; omega⟩
     ·have hn : ¬ okN (.mk k t c ks) x d := fun ⟨g1, g2, g3⟩ => hr ⟨by rw [zET, ho] at g1; exact g1, by simp only [Nd.cnt] at g2; omega, by simp only [Nd.dep] at g3; omega⟩
      rw [hr2]
      exact ⟨_, by rw [zA7 hn]; rfl, fun h => absurd h hn⟩
theorem zDd (n : Nat) (t : Nd) (h : t.w + 45 < n) (hb : t.w ≤ 67108864) : zBR n t = some (zAR t) := by
 obtain ⟨y, h1, _⟩ := zP4 n t 0 1 h hb (by omega) (by omega)
 rw [show ((0 : Nat) : Int) = 0 from rfl, show ((1 : Nat) : Int) = 1 from rfl] at h1
 obtain ⟨k, s, c, ks⟩ := t
 unfold zBR zAR
 have hk : zDB = some () := rfl
 simp only [hk, h1, Option.bind_some, Nd.kind]
 cases k == 1 with
 | false => rfl
 | true =>
  simp only [cond_true, Option.bind_some, Bool.true_and, Option.some.injEq, okN]
  cases zET (.mk k s c ks) with
  | false => simp
  | true =>
   by_cases g1 : (Nd.mk k s c ks).cnt ≤ 1000
   ·by_cases g2 : (Nd.mk k s c ks).dep ≤ 24
    ·rw [zA8 g1, zA8 g2, zA8 ⟨rfl, by omega, by omega⟩]; rfl
    ·rw [zA8 g1, zA7 g2, zA7 (fun h => g2 (by omega))]; rfl
   ·rw [zA7 g1, zA7 (fun h => g1 (by omega))]; rfl
end Go.Proofs.YtgfneloodabafaaGreatDoor
namespace Go.Proofs.YtgfneloodabafaaGreatDoor
open Go.Abs
def Nd.text : Nd → List UInt8 | .mk _ t _ _ => t
def Nd.cols : Nd → Int | .mk _ _ c _ => c
theorem Nd.cnt_kids : ∀ x : Nd, x.cnt = Nd.cnts x.kids + 1
 | .mk _ _ _ _ => rfl
def zA5 (x y : Nd) : Bool := (x.kind == y.kind) && (((x.kids.length : Int) == (y.kids.length : Int)) && (x.cols == y.cols))
def rowD (P : Nd → Nd → Nat) (x : Nd) (f : List Nd → Nat) : List Nd → Nat
 | [] => x.cnt + f []
 | y :: ys => if zA5 x y then min (min (x.cnt + f (y :: ys)) (y.cnt + rowD P x f ys)) (P x y + f ys) else min (x.cnt + f (y :: ys)) (y.cnt + rowD P x f ys)
def TD (P : Nd → Nd → Nat) : List Nd → List Nd → Nat
 | [] => Nd.cnts
 | x :: xs => rowD P x (TD P xs)
def sumD (f : List Nd → List Nd → Nat) : List Nd → List Nd → Nat
 | u :: us, v :: vs => f u.kids v.kids + sumD f us vs
 | _, _ => 0
def txt (x y : Nd) : Nat := bif x.text == y.text then 0 else 1
def PD : Nat → Nd → Nd → Nat
 | 0, _, _ => 0
 | n + 1, x, y => txt x y + sumD (TD (PD n)) x.kids y.kids
def D (x y : Nd) : Nat := PD x.cnt x y
def DL (a b : List Nd) : Nat := TD D a b
theorem zL6 {P P' : Nd → Nd → Nat} {x : Nd} {f : List Nd → Nat} (h : ∀ y, P x y = P' x y) : ∀ b, rowD P x f b = rowD P' x f b
 | [] => rfl
 | y :: ys => by simp only [rowD, zL6 h ys, h]
theorem zMq {P P' : Nd → Nd → Nat} : ∀ {a : List Nd}, (∀ x ∈ a, ∀ y, P x y = P' x y) → TD P a = TD P' a
 | [], _ => rfl
 | x :: xs, h => by
  rw [TD, TD, zMq fun x hx => h x (List.mem_cons_of_mem _ hx)]
  exact funext (zL6 (h x List.mem_cons_self))
theorem zII {f g : List Nd → List Nd → Nat} : ∀ {us : List Nd} (vs : List Nd), (∀ u ∈ us, f u.kids = g u.kids) → sumD f us vs = sumD g us vs
 | [], vs, _ => by cases vs <;> rfl
 | u :: us, [], _ => rfl
 | u :: us, v :: vs, h => by
  rw [sumD, sumD, h u List.mem_cons_self, zII vs fun u hu => h u (List.mem_cons_of_mem _ hu)]
theorem zNm : ∀ (n m : Nat) (x y : Nd), x.cnt ≤ n → x.cnt ≤ m → PD n x y = PD m x y
 | 0, _, x, _, h, _ => by have := x.cnt_pos; omega
 | _ + 1, 0, x, _, _, h => by have := x.cnt_pos; omega
 | n + 1, m + 1, x, y, h1, h2 => by
  rw [PD, PD]
  congr 1
  refine zII _ fun u hu => zMq fun x' hx' y' => ?_
  have e1 := x.cnt_kids
  have e2 := u.cnt_kids
  have e3 := Nd.cnts_mem hu
  have e4 := Nd.cnts_mem hx'
  exact zNm n m x' y' (by omega) (by omega)
theorem D_eq (x y : Nd) : D x y = txt x y + sumD DL x.kids y.kids := by
 unfold D DL
 have e1 := x.cnt_kids
 rw [e1, PD]
 congr 1
 refine zII _ fun u hu => zMq fun x' hx' y' => ?_
 have e2 := u.cnt_kids
 have e3 := Nd.cnts_mem hu
 have e4 := Nd.cnts_mem hx'
 exact zNm _ _ x' y' (by omega) (Nat.le_refl _)
theorem zSi {P : Nd → Nd → Nat} {x : Nd} {f : List Nd → Nat} {c : Nat} (h : ∀ b, f b ≤ c + Nd.cnts b) : ∀ b, rowD P x f b ≤ x.cnt + c + Nd.cnts b
 | [] => by have := h []; simp only [rowD]; omega
 | y :: ys => by
  have h1 := h (y :: ys)
  have : rowD P x f (y :: ys) ≤ x.cnt + f (y :: ys) := by
   simp only [rowD]
   split
   ·exact Nat.le_trans (Nat.min_le_left _ _) (Nat.min_le_left _ _)
   ·exact Nat.min_le_left _ _
  omega
theorem zPl {P : Nd → Nd → Nat} : ∀ a b : List Nd, TD P a b ≤ Nd.cnts a + Nd.cnts b
 | [], b => by simp [TD, Nd.cnts]
 | x :: xs, b => by
  have := zSi (P := P) (x := x) (zPl (P := P) xs) b
  simp only [TD, Nd.cnts]; omega
theorem zPY : ∀ us vs : List Nd, sumD DL us vs ≤ Nd.cnts us + Nd.cnts vs
 | [], vs => by cases vs <;> simp [sumD]
 | u :: us, [] => by simp [sumD]
 | u :: us, v :: vs => by
  have h1 := zPY us vs
  have h2 : DL u.kids v.kids ≤ _ := zPl u.kids v.kids
  have e1 := u.cnt_kids
  have e2 := v.cnt_kids
  simp only [sumD, Nd.cnts]; omega
theorem zSA (x y : Nd) : txt x y ≤ 1 := by
 unfold txt
 cases x.text == y.text
 ·exact Nat.le_refl _
 ·exact Nat.zero_le _
theorem D_le (x y : Nd) : D x y ≤ x.cnt + y.cnt := by
 have h1 := zPY x.kids y.kids
 have h2 := zSA x y
 have e1 := x.cnt_kids
 have e2 := y.cnt_kids
 rw [D_eq]; omega
def sufs (f : List Nd → Nat) : List Nd → List Int
 | [] => [(f [] : Int)]
 | y :: ys => (f (y :: ys) : Int) :: sufs f ys
theorem zKS (f : List Nd → Nat) : ∀ b, ∃ r, sufs f b = (f b : Int) :: r
 | [] => ⟨_, rfl⟩
 | y :: ys => ⟨_, rfl⟩
theorem zMb (f : List Nd → Nat) (b : List Nd) : (sufs f b).headD 0 = (f b : Int) := by
 obtain ⟨r, h⟩ := zKS f b; rw [h]; rfl
def tabD (P : Nd → Nd → Nat) : List Nd → List Nd → List (List Int)
 | [], b => [sufs (TD P []) b]
 | x :: xs, b => sufs (TD P (x :: xs)) b :: tabD P xs b
theorem zO2 (P : Nd → Nd → Nat) : ∀ a b, ∃ r, tabD P a b = sufs (TD P a) b :: r
 | [], b => ⟨_, rfl⟩
 | x :: xs, b => ⟨_, rfl⟩
theorem zU5 (P : Nd → Nd → Nat) (a b : List Nd) : ∃ r, at? (tabD P a b) 0 = some r ∧ at? r 0 = some (TD P a b : Int) := by
 obtain ⟨r, h⟩ := zO2 P a b
 obtain ⟨r', h'⟩ := zKS (TD P a) b
 exact ⟨sufs (TD P a) b, by rw [h]; rfl, by rw [h']; rfl⟩
theorem zQg (a b : Nat) : (if (a : Int) < (b : Int) then (a : Int) else (b : Int)) = ((min a b : Nat) : Int) := by
 by_cases h : (a : Int) < (b : Int)
 ·rw [if_pos h, Nat.min_eq_left (by omega)]
 ·rw [if_neg h, Nat.min_eq_right (by omega)]
theorem zTE {f : List Nd → List Nd → Nat} {a b : List Nd} {i : Nat} (h : i < a.length) (h' : i < b.length) : sumD f (a.drop i) (b.drop i) = f a[i].kids b[i].kids + sumD f (a.drop (i + 1)) (b.drop (i + 1)) := by
 rw [List.drop_eq_getElem_cons h, List.drop_eq_getElem_cons h']; rfl
theorem zHV {x y : Nd} (h : zA5 x y = true) : x.kids.length = y.kids.length := by
 unfold zA5 at h
 simp only [Bool.and_eq_true] at h
 have := eq_of_beq h.2.1
 omega
end Go.Proofs.YtgfneloodabafaaGreatDoor
namespace Go.Proofs.YtgfneloodabafaaGreatDoor
open Go.Abs
def zPB : List (List UInt8) := [[114, 111, 119], [115, 121, 109], [110, 117, 109], [116, 101, 120, 116], [102, 114, 97, 99], [114, 111, 111, 116], [115, 117, 98], [115, 117, 112],
 [98, 111, 116, 104], [97, 99, 99, 101, 110, 116], [102, 101, 110, 99, 101], [109, 97, 116, 114, 105, 120]]
def kindName (k : Int) : List UInt8 := if 1 ≤ k ∧ k ≤ 12 then zPB.getD (k.toNat - 1) [] else [110, 111, 100, 101] ++ Lib.itoa k
def escL : List UInt8 → List UInt8
 | [] => []
 | c :: r => if c = 34 ∨ c = 92 then 92 :: c :: escL r else c :: escL r
def zO3 (t : List UInt8) : List UInt8 := if t = [] then [] else 58 :: 34 :: (escL t ++ [34])
def zSV (c : Int) : List UInt8 := if c = 0 then [] else 42 :: Lib.itoa c
def zMF (k : Int) (t : List UInt8) (c : Int) : List UInt8 := kindName k ++ (zO3 t ++ zSV c)
def zRH : List UInt8 → List UInt8
 | [] => []
 | _ :: r => 40 :: (r ++ [41])
mutual
def zER : Nd → List UInt8
 | .mk k t c ks => zMF k t c ++ zRH (zHb ks)
def zHb : List Nd → List UInt8
 | [] => []
 | v :: vs => 32 :: (zER v ++ zHb vs)
end
theorem zQU : ∀ i < 12, zPB.getD i [] ≠ [] := by decide
theorem zPy (k : Int) : kindName k ≠ [] := by
 unfold kindName
 split
 ·exact zQU _ (by omega)
 ·simp
def hd (l : List UInt8) (s : List UInt8) : Prop := ∀ b r, l = b :: r → b ∈ s
theorem zJz : ∀ t : List UInt8, (escL t).length ≤ 2 * t.length
 | [] => Nat.le_refl _
 | c :: r => by
  have := zJz r
  simp only [escL]
  split <;> simp only [List.length_cons] <;> omega
theorem zI8 {k : Int} (h : zKj k) : (kindName k).length ≤ 25 := by
 unfold kindName
 split
 ·have : ∀ i < 12, (zPB.getD i []).length ≤ 25 := by decide
  exact this _ (by omega)
 ·have := Lib.itoa_length_le k h.1 h.2
  simp; omega
theorem zRC {k : Int} {t : List UInt8} {c : Int} (hk : zKj k) (hc : zKj c) : (zMF k t c).length ≤ 55 + 2 * t.length := by
 have h1 := zI8 hk
 have h2 := zJz t
 have h3 := Lib.itoa_length_le c hc.1 hc.2
 have h4 : (zO3 t).length ≤ 3 + 2 * t.length := by unfold zO3; split <;> simp; omega
 have h5 : (zSV c).length ≤ 22 := by unfold zSV; split <;> simp; omega
 simp only [zMF, List.length_append]; omega
theorem zRI (l : List UInt8) : (zRH l).length ≤ l.length + 1 := by cases l <;> simp [zRH]
mutual
theorem zN1 : ∀ v : Nd, v.rng → (zER v).length ≤ 60 * v.w
 | .mk k t c ks, h => by
  have h1 := zRC (t := t) h.1 h.2.1
  have h2 := zLJ ks h.2.2
  have h3 := zRI (zHb ks)
  simp only [zER, List.length_append, Nd.w]; omega
theorem zLJ : ∀ vs : List Nd, Nd.rngs vs → (zHb vs).length ≤ 60 * Nd.ws vs
 | [], _ => by simp [zHb]
 | v :: vs, h => by
  have h1 := zN1 v h.1
  have h2 := zLJ vs h.2
  simp only [zHb, List.length_cons, List.length_append, Nd.ws]; omega
end
theorem zO5 (c : UInt8) (l : List UInt8) (h : l.length < 4294967296) : zAH c l = some ((), l ++ [c]) := by
 unfold zAH zA4
 simp only [Option.bind_some]
 rw [zB6 (by simp; omega)]
theorem zUv (s l : List UInt8) (h : l.length + s.length ≤ 4294967296) : zAo s l = some ((s.length : Int), (), l ++ s) := by
 unfold zAo zA4
 simp only [Option.bind_some]
 rw [zB6 h]
theorem zTT {n : Int} (h : zKj n) : zDp n = some (Lib.itoa n) := by
 unfold zDp
 exact zB6 (show -9223372036854775808 ≤ n ∧ n ≤ 9223372036854775807 from h)
theorem zTS (c : UInt8) : ((c.toNat : Int) == 34) = (c == 34) ∧ ((c.toNat : Int) == 92) = (c == 92) :=
 ⟨of_decide_eq_true (zJi (P := fun c => decide (((c.toNat : Int) == 34) = (c == 34))) (by decide +kernel) c), of_decide_eq_true (zJi (P := fun c => decide (((c.toNat : Int) == 92) = (c == 92))) (by decide +kernel) c)⟩
theorem zRy {t : List UInt8} {i : Nat} (h : i < t.length) : escL (t.drop i) = if t[i] = 34 ∨ t[i] = 92 then 92 :: t[i] :: escL (t.drop (i + 1)) else t[i] :: escL (t.drop (i + 1)) := by
 rw [List.drop_eq_getElem_cons h]; rfl
theorem zH4 (t : List UInt8) (ht : t.length ≤ 1073741824) : ∀ (k i : Nat) (l : List UInt8), t.length - i < k → i ≤ t.length → l.length + 2 * (t.length - i) < 4294967296 →
  zAU t k (i : Int) l = some (l ++ escL (t.drop i))
 | 0, _, _, h, _, _ => by omega
 | k + 1, i, l, hk, hi, hl => by
  unfold zAU
  by_cases h : i < t.length
  ·rw [zA8 (Int.ofNat_lt.2 h), cond_true, zBi h, zRy h]
   simp only [Option.bind_some, (zTS t[i]).1, (zTS t[i]).2]
   rw [zAX (by omega)]
   have e92 : b8of 92 = 92 := rfl
   by_cases h1 : t[i] = 34
   ·rw [if_pos (.inl h1), show (t[i] == 34) = true from beq_iff_eq.2 h1, cond_true]
    simp only [Option.bind_some, cond_true]
    rw [e92, zO5 _ _ (by omega)]
    simp only [Option.bind_some]
    rw [zO5 _ _ (by simp; omega)]
    simp only [Option.bind_some]
    rw [zH4 t ht k (i + 1) _ (by omega) (by omega) (by simp; omega)]
    simp
   ·rw [show (t[i] == 34) = false from beq_eq_false_iff_ne.2 h1, cond_false]
    simp only [Option.bind_some]
    by_cases h2 : t[i] = 92
    ·rw [if_pos (.inr h2), show (t[i] == 92) = true from beq_iff_eq.2 h2, cond_true]
     try simp only [Option.bind_some, cond_true]
     rw [e92, zO5 _ _ (by omega)]
     simp only [Option.bind_some]
     rw [zO5 _ _ (by simp; omega)]
     simp only [Option.bind_some]
     rw [zH4 t ht k (i + 1) _ (by omega) (by omega) (by simp; omega)]
     simp [h2]
    ·rw [if_neg (by intro h; exact h.elim h1 h2), show (t[i] == 92) = false from beq_eq_false_iff_ne.2 h2, cond_false]
     simp only [Option.bind_some]
     rw [zO5 _ _ (by omega)]
     simp only [Option.bind_some]
     rw [zH4 t ht k (i + 1) _ (by omega) (by omega) (by simp; omega)]
     simp
  ·rw [zA7 (by omega), cond_false]
   obtain rfl : i = t.length := by omega
   simp [escL]
theorem zOf (k : Int) : kindName k = if k = 1 then [114, 111, 119] else if k = 2 then [115, 121, 109] else if k = 3 then [110, 117, 109] else if k = 4 then [116, 101, 120, 116]
 else if k = 5 then [102, 114, 97, 99] else if k = 6 then [114, 111, 111, 116] else if k = 7 then [115, 117, 98] else if k = 8 then [115, 117, 112]
 else if k = 9 then [98, 111, 116, 104] else if k = 10 then [97, 99, 99, 101, 110, 116] else if k = 11 then [102, 101, 110, 99, 101]
 else if k = 12 then [109, 97, 116, 114, 105, 120] else [110, 111, 100, 101] ++ Lib.itoa k := by
 rcases kinds k with rfl | rfl | rfl | rfl | rfl | rfl | rfl | rfl | rfl | rfl | rfl | rfl | hk
 all_goals first | rfl | skip
 unfold kindName
 rw [if_neg (by omega), if_neg (by omega), if_neg (by omega), if_neg (by omega), if_neg (by omega), if_neg (by omega), if_neg (by omega), if_neg (by omega), if_neg (by omega), if_neg (by omega), if_neg (by omega), if_neg (by omega), if_neg (by omega)]
theorem zUh (k : Int) : (bif decide (1 ≤ k) then some (decide (k ≤ 12)) else some false : Option Bool) = some (decide (1 ≤ k ∧ k ≤ 12)) := by
 by_cases h : 1 ≤ k
 ·rw [zA8 h, cond_true]; congr 1; by_cases h2 : k ≤ 12 <;> simp [h, h2]
 ·rw [zA7 h, cond_false]; congr 1; simp [h]
theorem head_eq (n : Nat) (k : Int) (t : List UInt8) (c : Int) (ks : List Nd) (l : List UInt8) (hn : t.length < n) (ht : t.length ≤ 1073741824) (hk : zKj k) (hc : zKj c) (hl : l.length + 2 * t.length + 60 < 4294967296) :
  zBj n (.mk k t c ks) l = some (l ++ zMF k t c) := by
 unfold zBj
 have hki := Lib.itoa_length_le k hk.1 hk.2
 have hci := Lib.itoa_length_le c hc.1 hc.2
 have h1 : ∀ X : Option (List UInt8), X = some (l ++ kindName k) → ∀ K : List UInt8 → Option (List UInt8), X.bind K = K (l ++ kindName k) := fun X h K => by rw [h]; rfl
 simp only [zUh, Option.bind_some]
 have hlen := zI8 hk
 rw [h1 _ ?_]
 ·have h2 : ∀ X : Option (List UInt8), X = some ((l ++ kindName k) ++ zO3 t) → ∀ K : List UInt8 → Option (List UInt8), X.bind K = K ((l ++ kindName k) ++ zO3 t) := fun X h K => by rw [h]; rfl
  rw [h2 _ ?_]
  ·unfold zMF zSV
   have htx : (zO3 t).length ≤ 3 + 2 * t.length := by have := zJz t; unfold zO3; split <;> simp; omega
   by_cases h0 : c = 0
   ·subst h0
    rw [if_pos rfl, show ((0 : Int) != 0) = false from rfl, cond_false]
    simp
   ·rw [if_neg h0, show (c != 0) = true from bne_iff_ne.2 h0, cond_true, zTT hc]
    simp only [Option.bind_some]
    rw [zB6 (by simp; omega), zUv _ _ (by simp; omega)]
    simp
  ·unfold zO3
   by_cases h0 : t = []
   ·subst h0
    simp
   ·rw [if_neg h0, show (!(t == [])) = true from by simp [h0], cond_true, zUv _ _ (by simp; omega)]
    simp only [Option.bind_some]
    have := zH4 t ht n 0 ((l ++ kindName k) ++ [58, 34]) (by omega) (by omega) (by simp; omega)
    rw [show ((0 : Nat) : Int) = 0 from rfl] at this
    rw [this]
    have he := zJz t
    simp only [Option.bind_some, List.drop_zero]
    rw [show b8of 34 = 34 from rfl, zO5 _ _ (by simp; omega)]
    simp
 ·rw [zOf]
  have go : ∀ s : List UInt8, s.length ≤ 25 → ((zAo s l).bind fun x => match x with | (_, _, b) => some b) = some (l ++ s) := fun s hs => by
   rw [zUv _ _ (by omega)]; rfl
  rcases kinds k with rfl | rfl | rfl | rfl | rfl | rfl | rfl | rfl | rfl | rfl | rfl | rfl | hk'
  all_goals first | exact go _ (by decide) | skip
  rw [show decide (1 ≤ k ∧ k ≤ 12) = false from decide_eq_false (by omega), cond_false, zTT hk]
  simp only [Option.bind_some]
  rw [zB6 (by simp; omega), if_neg (by omega), if_neg (by omega), if_neg (by omega), if_neg (by omega), if_neg (by omega), if_neg (by omega), if_neg (by omega), if_neg (by omega), if_neg (by omega), if_neg (by omega), if_neg (by omega), if_neg (by omega)]
  exact go _ (by simp; omega)
def remK (ks : List Nd) (i : Nat) : List UInt8 := if i = 0 then zRH (zHb ks) else zHb (ks.drop i) ++ [41]
def outS : List (Nd × Nat) → List UInt8
 | [] => []
 | p :: r => outS r ++ remK p.1.kids p.2
def itS : List (Nd × Nat) → Nat
 | [] => 0
 | p :: r => itS r + (1 + 2 * Nd.cnts (p.1.kids.drop p.2))
theorem zFQ (p : Nd × Nat) : ∀ L, outS (L ++ [p]) = remK p.1.kids p.2 ++ outS L
 | [] => by simp [outS]
 | q :: r => by simp only [List.cons_append, outS, zFQ p r, List.append_assoc]
theorem zGS (p : Nd × Nat) : ∀ L, itS (L ++ [p]) = itS L + (1 + 2 * Nd.cnts (p.1.kids.drop p.2))
 | [] => by simp [itS]
 | q :: r => by simp only [List.cons_append, itS, zGS p r]; omega
theorem zPw : ∀ L, L.length ≤ itS L
 | [] => Nat.le_refl _
 | q :: r => by have := zPw r; simp only [itS, List.length_cons]; omega
theorem zSe {ks : List Nd} {i : Nat} (h : i < ks.length) : remK ks i = (if i = 0 then 40 else 32) :: (zER ks[i] ++ remK ks (i + 1)) := by
 unfold remK
 rw [if_neg (by omega : ¬ i + 1 = 0)]
 by_cases h0 : i = 0
 ·subst h0
  rw [if_pos rfl, if_pos rfl]
  match ks, h with
  | v :: vs, _ => simp [zHb, zRH]
 ·rw [if_neg h0, if_neg h0, List.drop_eq_getElem_cons h]
  simp [zHb]
theorem zTs (ks : List Nd) : remK ks ks.length = if ks.length = 0 then [] else [41] := by
 unfold remK
 by_cases h : ks.length = 0
 ·rw [if_pos h, if_pos h, List.length_eq_zero_iff.1 h]; rfl
 ·rw [if_neg h, if_neg h, List.drop_length]; rfl
theorem zH2 (k : Int) (t : List UInt8) (c : Int) (ks : List Nd) : zER (.mk k t c ks) = zMF k t c ++ remK ks 0 := by
 simp [zER, remK]
theorem zP0 (k : Int) (t : List UInt8) (c : Int) (ks : List Nd) : (Nd.mk k t c ks).w = t.length + Nd.ws ks + 1 := rfl
def entI (p : Nd × Nat) : Nd × Int := (p.1, (p.2 : Int))
theorem zJI (n : Nat) : ∀ (k : Nat) (L : List (Nd × Nat)) (b : List UInt8), itS L < k → itS L ≤ 1000000000 → (∀ p ∈ L, p.2 ≤ p.1.kids.length ∧ p.1.rng ∧ p.1.w ≤ 16777216 ∧ p.1.w < n) → b.length + (outS L).length ≤ 4000000000 →
  zBQ n k b (L.map entI) = some (b ++ outS L)
 | 0, _, _, h, _, _, _ => by omega
 | k + 1, L, b, hk, hit, hL, hb => by
  unfold zBQ
  rcases List.eq_nil_or_concat L with rfl | ⟨L, ⟨v, i⟩, rfl⟩
  ·simp [outS]
  ·rw [List.concat_eq_append] at *
   obtain ⟨hi, hr, hw, hwn⟩ := hL (v, i) (by simp)
   obtain ⟨k0, t, c, ks⟩ := v
   replace hr : (Nd.mk k0 t c ks).rng := hr
   replace hw : (Nd.mk k0 t c ks).w ≤ 16777216 := hw
   replace hwn : (Nd.mk k0 t c ks).w < n := hwn
   have hlen : ((List.map entI (L ++ [(Nd.mk k0 t c ks, i)])).length : Int) = (L.length : Int) + 1 := by simp
   have hll := zPw (L ++ [(Nd.mk k0 t c ks, i)])
   rw [List.length_append, List.length_singleton] at hll
   have hwr : IntKind.i64.wrap (((List.map entI (L ++ [(Nd.mk k0 t c ks, i)])).length : Int) - 1) = (L.length : Int) := by rw [hlen, wrap64_in (by omega) (by omega)]; omega
   have hat : at? (List.map entI (L ++ [(Nd.mk k0 t c ks, i)])) (L.length : Int) = some (Nd.mk k0 t c ks, (i : Int)) := by
    rw [zBi (by simp)]; simp [entI]
   rw [zA8 (by omega), cond_true, hwr, hat]
   simp only [Option.bind_some, Nd.kids] at hi ⊢
   rw [zFQ] at hb ⊢
   rw [zGS] at hk hit
   simp only [Nd.kids] at hb hk hit ⊢
   by_cases he : i = ks.length
   ·subst he
    rw [show ((ks.length : Int) == (ks.length : Int)) = true from beq_self_eq_true _, cond_true]
    have hre := zTs ks
    have hx : (bif decide (0 < (ks.length : Int)) then (zAH (b8of 41) b).bind (fun x => match x with | (_, b14) => some b14) else some b) = some (b ++ remK ks ks.length) := by
     rw [hre]
     by_cases h0 : ks.length = 0
     ·rw [zA7 (by omega), cond_false, if_pos h0]; simp
     ·rw [zA8 (by omega), cond_true, if_neg h0, zO5 _ _ (by omega)]; rfl
    have hx' : ∀ X : Option (List UInt8), X = some (b ++ remK ks ks.length) → ∀ K : List UInt8 → Option (List UInt8), X.bind K = K (b ++ remK ks ks.length) := fun X h K => by rw [h]; rfl
    rw [hx' _ hx, zB6 (by omega), Int.toNat_natCast]
    have ht : List.take L.length (List.map entI (L ++ [(Nd.mk k0 t c ks, ks.length)])) = L.map entI := by simp
    rw [ht, zJI n k L _ (by omega) (by omega) (fun p hp => hL p (by simp [hp])) (by simp only [List.length_append] at hb ⊢; omega)]
    simp
   ·have h : i < ks.length := by omega
    rw [zDN (by omega : (i : Int) ≠ (ks.length : Int)), cond_false, zBi h]
    have hd := Nd.cnts_drop h
    have hrs := zSe h
    rw [hrs] at hb ⊢
    have hkr : (ks[i]).rng := Nd.rng_mem hr.2.2 (List.getElem_mem h)
    have hkw : (ks[i]).w < Nd.ws ks := Nd.w_mem (List.getElem_mem h)
    have hwt := zP0 k0 t c ks
    rcases e : ks[i] with ⟨e1, e2, e3, e4⟩
    rw [e] at hd hkr hkw hb
    have hwt2 := zP0 e1 e2 e3 e4
    have hct := Nd.cnt_kids (.mk e1 e2 e3 e4)
    simp only [Nd.kids] at hct
    rw [zH2] at hb
    simp only [Option.bind_some]
    have hsep : at? ([40, 32] : List UInt8) (if 1 < (i : Int) then 1 else (i : Int)) = some (if i = 0 then 40 else 32) := by
     by_cases h0 : i = 0
     ·subst h0; rfl
     ·rw [if_neg h0]
      by_cases h1 : i = 1
      ·subst h1; rfl
      ·rw [if_pos (by omega)]; rfl
    rw [hsep]
    simp only [Option.bind_some]
    simp only [List.length_append, List.length_cons] at hb
    rw [zO5 _ _ (by omega)]
    simp only [Option.bind_some]
    rw [head_eq n e1 e2 e3 e4 _ (by omega) (by omega) hkr.1 hkr.2.1 (by simp; omega)]
    simp only [Option.bind_some]
    have hset : (List.map entI (L ++ [(Nd.mk k0 t c ks, i)])).set (L.length : Int).toNat (Nd.mk k0 t c ks, IntKind.i64.wrap ((i : Int) + 1)) ++ [(Nd.mk e1 e2 e3 e4, 0)] = (L ++ [(Nd.mk k0 t c ks, i + 1)] ++ [(Nd.mk e1 e2 e3 e4, 0)]).map entI := by
     have hlk := Nd.ws_len ks
     rw [wrap64_in (by omega) (by omega)]
     simp [entI]
    have hll2 := zPw L
    rw [zB6 (by simp; omega), hset]
    rw [zJI n k _ _ (by rw [zGS, zGS]; simp only [Nd.kids, List.drop_zero]; omega) (by rw [zGS, zGS]; simp only [Nd.kids, List.drop_zero]; omega) ?_ ?_]
    ·rw [zFQ, zFQ, zH2]
     simp [Nd.kids]
    ·intro p hp
     rcases List.mem_append.1 hp with hp | hp
     ·rcases List.mem_append.1 hp with hp | hp
      ·exact hL p (by simp [hp])
      ·simp only [List.mem_singleton] at hp; subst hp
       exact ⟨h, hr, hw, hwn⟩
     ·simp only [List.mem_singleton] at hp; subst hp
      exact ⟨Nat.zero_le _, hkr, (show (Nd.mk e1 e2 e3 e4).w ≤ 16777216 by omega), (show (Nd.mk e1 e2 e3 e4).w < n by omega)⟩
    ·rw [zFQ, zFQ]
     simp only [Nd.kids, List.length_append, List.length_cons, List.length_nil]
     omega
theorem zSZ (t : Nd) : zER t ≠ [] := by
 obtain ⟨k, t, c, ks⟩ := t
 rw [zH2]
 unfold zMF
 have := zPy k
 simp [this]
theorem zJa (n : Nat) (t : Nd) (h : 2 * t.w < n) (hw : t.w ≤ 16777216) (hr : t.rng) : zDY n t = some (zER t) := by
 have hlen := zN1 t hr
 have hne := zSZ t
 have hcw := Nd.cnt_w t
 have hck := Nd.cnt_kids t
 obtain ⟨k, tx, c, ks⟩ := t
 have hwt := zP0 k tx c ks
 simp only [Nd.kids] at hck
 unfold zDY zDB
 simp only [Option.bind_some]
 rw [head_eq n k tx c ks [] (by omega) (by omega) hr.1 hr.2.1 (by simp; omega)]
 simp only [Option.bind_some, List.nil_append]
 have hl := zJI n n [(.mk k tx c ks, 0)] (zMF k tx c) (by simp [itS, Nd.kids]; omega) (by simp [itS, Nd.kids]; omega) (fun p hp => by simp only [List.mem_singleton] at hp; subst hp; exact ⟨Nat.zero_le _, hr, hw, (show (Nd.mk k tx c ks).w < n by omega)⟩) (by
  rw [zH2] at hlen
  simp only [outS, Nd.kids, List.length_append, List.nil_append] at hlen ⊢; omega)
 have e : List.map entI [(Nd.mk k tx c ks, 0)] = [(Nd.mk k tx c ks, 0)] := rfl
 rw [e] at hl
 rw [hl, Option.bind_some]
 have e2 : zMF k tx c ++ outS [(Nd.mk k tx c ks, 0)] = zER (.mk k tx c ks) := by rw [zH2]; simp [outS, Nd.kids]
 rw [e2]
 unfold zCo
 rw [zB6 ⟨hne, by omega⟩, Option.bind_some]
end Go.Proofs.YtgfneloodabafaaGreatDoor
namespace Go.Proofs.YtgfneloodabafaaGreatDoor
open Go.Abs
def cntI (x : Nd) : Int := (x.cnt : Int)
theorem zL9 (n : Nat) {l : List Nd} (hn : ∀ v ∈ l, v.cnt < n) (hb : Nd.cnts l ≤ 1048576) : ∀ (q i : Nat), l.length - i < q → i ≤ l.length →
  zB0 n l q (i : Int) ((l.take i).map cntI ++ List.replicate (l.length - i) 0) = some (l.map cntI)
 | 0, _, h, _ => by omega
 | q + 1, i, hq, hi => by
  have l1 := Nd.cnts_len l
  unfold zB0
  by_cases h : i < l.length
  ·rw [zA8 (Int.ofNat_lt.2 h), cond_true, zBi h]
   have hm := List.getElem_mem h
   have hc := zMK n _ (hn _ hm) (by have := Nd.cnts_mem hm; omega)
   have ht : l.take (i + 1) = l.take i ++ [l[i]] := List.take_append_getElem h ▸ rfl
   rcases e : l[i] with ⟨a, b, c, d⟩
   rw [e] at hc ht
   simp only [Option.bind_some, hc]
   have hlen : ((l.take i).map cntI).length = i := by simp; omega
   obtain ⟨m, hm⟩ : ∃ m, l.length - i = m + 1 := ⟨l.length - i - 1, by omega⟩
   have hg : at? ((l.take i).map cntI ++ List.replicate (l.length - i) (0 : Int)) (i : Int) = some 0 := by
    unfold at?
    rw [if_pos (by omega), Int.toNat_natCast, List.getElem?_append_right (by omega), hlen, hm]
    simp
   rw [hg, Option.bind_some, zAX (by omega), Int.toNat_natCast]
   have hs : ((l.take i).map cntI ++ List.replicate (l.length - i) (0 : Int)).set i ((Nd.mk a b c d).cnt : Int) = (l.take (i + 1)).map cntI ++ List.replicate (l.length - (i + 1)) 0 := by
    rw [List.set_append_right _ _ (by omega), hlen, Nat.sub_self, hm, ht, show l.length - (i + 1) = m by omega, List.replicate_succ, List.set_cons_zero, List.map_append]
    simp [cntI]
   rw [hs]
   exact zL9 n hn hb q (i + 1) (by omega) (by omega)
  ·rw [zA7 (by omega), cond_false]
   obtain rfl : i = l.length := by omega
   simp
theorem zQr (n : Nat) (l : List Nd) (hn : Nd.cnts l + 1 < n) (hb : Nd.cnts l ≤ 1048576) : zDA n l = some (l.map cntI) := by
 have l1 := Nd.cnts_len l
 have := zL9 n (l := l) (fun v hv => by have := Nd.cnts_mem hv; omega) hb n 0 (by omega) (by omega)
 rw [show ((0 : Nat) : Int) = 0 from rfl] at this
 simp only [List.take_zero, List.map_nil, List.nil_append, Nat.sub_zero] at this
 rw [zDA, zB6 ⟨by omega, by omega⟩, Int.toNat_natCast, this]; rfl
theorem zP8 : ∀ b : List Nd, Nd.cnts b ≤ 1048576 → zA2 (b.map cntI) = sufs (TD D []) b
 | [], _ => rfl
 | y :: ys, hb => by
  simp only [Nd.cnts] at hb
  have hf : TD D [] ys = Nd.cnts ys := rfl
  rw [List.map_cons, zA2, zP8 ys (by omega), zMb, hf, cntI, wrap64_in (by omega) (by omega), sufs, show TD D [] (y :: ys) = y.cnt + Nd.cnts ys from rfl]
  congr 1; omega
def prI (x y : Nd) : Int := bif zA5 x y then (D x y : Int) else -1
theorem zRB {F : Nd → Nd → Option Int} {x : Nd} {f : List Nd → Nat} {c : Nat} (hx : x.cnt ≤ 1048576) (hc : c ≤ 1048576) (hf : ∀ b, f b ≤ c + Nd.cnts b) :
  ∀ (b : List Nd), (∀ y ∈ b, F x y = some (prI x y)) → Nd.cnts b ≤ 1048576 → zAE F x (x.cnt : Int) b (b.map cntI) (sufs f b) = some (sufs (rowD D x f) b, b.map (prI x))
 | [], _, _ => by
  have := hf []
  simp only [Nd.cnts] at this
  simp only [sufs, List.map_nil, zAE, rowD]
  rw [wrap64_in (by omega) (by omega), Nat.add_comm]; rfl
 | y :: ys, h1, hb => by
  simp only [Nd.cnts] at hb
  have g1 := hf (y :: ys)
  simp only [Nd.cnts] at g1
  have g2 := hf ys
  have g3 := zSi (P := D) (x := x) hf ys
  have g4 := D_le x y
  have ih := zRB (F := F) hx hc hf ys (fun y hy => h1 y (List.mem_cons_of_mem _ hy)) (by omega)
  obtain ⟨r, hr⟩ := zKS f ys
  rw [sufs, hr, List.map_cons, zAE, ← hr, ih, Option.bind_some, h1 y List.mem_cons_self, Option.bind_some]
  dsimp only
  rw [zMb, cntI, wrap64_in (n := (f (y :: ys) : Int) + (x.cnt : Int)) (by omega) (by omega), wrap64_in (n := (rowD D x f ys : Int) + _) (by omega) (by omega), ← Int.natCast_add, ← Int.natCast_add, zQg, Nat.add_comm (f (y :: ys)), Nat.add_comm (rowD D x f ys)]
  unfold prI
  cases ha : zA5 x y with
  | false =>
   simp only [cond_false, sufs, rowD, ha, List.map_cons]
   rw [if_neg (by omega)]
   simp [prI, ha]
  | true =>
   simp only [cond_true]
   rw [if_pos (by omega), wrap64_in (by omega) (by omega), ← Int.natCast_add, zQg, Nat.min_comm, Nat.add_comm (f ys)]
   simp [sufs, rowD, ha, prI]
theorem zQa {F : Nd → Nd → Option Int} {b : List Nd} (hb : Nd.cnts b ≤ 1048576) :
  ∀ (a : List Nd), (∀ x ∈ a, ∀ y ∈ b, F x y = some (prI x y)) → Nd.cnts a ≤ 1048576 → zAO F b (b.map cntI) a (a.map cntI) = some (tabD D a b, a.map fun x => b.map (prI x))
 | [], _, _ => by rw [List.map_nil, zAO, zP8 b hb]; rfl
 | x :: xs, h1, ha => by
  simp only [Nd.cnts] at ha
  rw [List.map_cons, zAO, zQa hb xs (fun y hy => h1 y (List.mem_cons_of_mem _ hy)) (by omega), Option.bind_some]
  obtain ⟨r, hr⟩ := zO2 D xs b
  rw [hr]
  dsimp only
  rw [cntI, zRB (c := Nd.cnts xs) (by omega) (by omega) (zPl xs) b (h1 x List.mem_cons_self) hb, Option.bind_some, ← hr]
  rfl
theorem zJb {F : List Nd → List Nd → Option (List (List Int) × List (List Int) × List Int × List Int)} {a b : List Nd} (hF : ∀ u ∈ a, ∀ v ∈ b, ∃ p, F u.kids v.kids = some (tabD D u.kids v.kids, p)) (hl : a.length = b.length) (ha : Nd.cnts a ≤ 1048576) :
  ∀ (q i o : Nat), a.length - i < q → i ≤ a.length → o + sumD DL (a.drop i) (b.drop i) ≤ 4000000 → zBy F a b q (o : Int) (i : Int) = some ((o + sumD DL (a.drop i) (b.drop i) : Nat) : Int)
 | 0, _, _, h, _, _ => by omega
 | q + 1, i, o, hq, hi, ho => by
  have l1 := Nd.cnts_len a
  unfold zBy
  by_cases h : i < a.length
  ·have h' : i < b.length := by omega
   rw [zA8 (Int.ofNat_lt.2 h), cond_true, zBi h, zBi h']
   obtain ⟨p, hf⟩ := hF _ (List.getElem_mem h) _ (List.getElem_mem h')
   have hs := zTE (f := DL) h h'
   rcases e : a[i] with ⟨x1, x2, x3, x4⟩
   rcases e' : b[i] with ⟨y1, y2, y3, y4⟩
   rw [e, e'] at hf hs
   simp only [Nd.kids] at hf hs
   obtain ⟨r, r1, r2⟩ := zU5 D x4 y4
   have hd : TD D x4 y4 = DL x4 y4 := rfl
   rw [hd] at r2
   obtain ⟨p1, p2, p3⟩ := p
   simp only [Option.bind_some, hf, r1, r2]
   rw [zAX (by omega), wrap64_in (by omega) (by omega), ← Int.natCast_add, zJb hF hl ha q (i + 1) _ (by omega) (by omega) (by omega)]
   congr 2; omega
  ·rw [zA7 (by omega), cond_false]
   obtain rfl : i = a.length := by omega
   rw [List.drop_length]
   cases List.drop a.length b <;> rfl
theorem zRz : ∀ N : Nat, (∀ x y : Nd, 2 * x.cnt + 2 * y.cnt < N → x.cnt ≤ 1048576 → y.cnt ≤ 1048576 → zBB N x y = some (prI x y)) ∧
  (∀ a b : List Nd, 2 * Nd.cnts a + 2 * Nd.cnts b + 2 < N → Nd.cnts a ≤ 1048576 → Nd.cnts b ≤ 1048576 → zCg N a b = some (tabD D a b, (a.map fun x => b.map (prI x)), a.map cntI, b.map cntI))
 | 0 => ⟨fun _ _ h _ _ => by omega, fun _ _ h _ _ => by omega⟩
 | n + 1 => by
  obtain ⟨ih1, ih2⟩ := zRz n
  refine ⟨fun x y h hx hy => ?_, fun a b h ha hb => ?_⟩
  ·have e1 := x.cnt_kids
   have e2 := y.cnt_kids
   have hle := zPY x.kids y.kids
   have hD := D_eq x y
   have l1 := Nd.cnts_len x.kids
   have hF : ∀ u ∈ x.kids, ∀ v ∈ y.kids, ∃ p, zCg n u.kids v.kids = some (tabD D u.kids v.kids, p) := fun u hu v hv => by
    have := Nd.cnts_mem hu
    have := Nd.cnts_mem hv
    have := u.cnt_kids
    have := v.cnt_kids
    exact ⟨_, ih2 _ _ (by omega) (by omega) (by omega)⟩
   have ht := zSA x y
   have hal : zA5 x y = true → x.kids.length = y.kids.length := zHV
   have hlp : x.kids.length = y.kids.length → _ := fun hl => zJb hF hl (by omega) n 0 (txt x y) (by omega) (by omega) (by simp only [List.drop_zero]; omega)
   rw [show ((0 : Nat) : Int) = 0 from rfl, List.drop_zero, List.drop_zero, ← hD] at hlp
   obtain ⟨a, b, c, d⟩ := x
   obtain ⟨a', b', c', d'⟩ := y
   unfold zBB
   have e : (bif (!(b == b')) then some 1 else some 0 : Option Int) = some (txt (.mk a b c d) (.mk a' b' c' d') : Int) := by
    unfold txt
    simp only [Nd.text]
    cases b == b' <;> rfl
   have e3 : (bif (a != a') then some true else bif (c != c') then some true else some ((d.length : Int) != (d'.length : Int)) : Option Bool) = some (!zA5 (.mk a b c d) (.mk a' b' c' d')) := by
    unfold zA5 bne
    simp only [Nd.kind, Nd.kids, Nd.cols]
    cases a == a' <;> cases c == c' <;> cases ((d.length : Int) == (d'.length : Int)) <;> rfl
   rw [e, e3]
   unfold prI
   cases hab : zA5 (.mk a b c d) (.mk a' b' c' d') with
   | false => rfl
   | true =>
    simp only [Nd.kids] at hlp hal
    simp only [Option.bind_some, Bool.not_true, cond_false, cond_true]
    rw [hlp (hal hab)]; rfl
  ·have l1 := Nd.cnts_len a
   have l2 := Nd.cnts_len b
   rw [zCg, zQr n a (by omega) ha, zQr n b (by omega) hb, Option.bind_some, Option.bind_some, zB6 ⟨by omega, by omega, by simp⟩]
   rw [zQa hb a (fun x hx y hy => ?_) ha]
   ·rfl
   ·have := Nd.cnts_mem hy
    have := Nd.cnts_mem hx
    exact ih1 x y (by omega) (by omega) (by omega)
theorem zMB (n : Nat) (a b : Nd) (ha : a.w + 45 < n) (ha' : a.w ≤ 67108864) (hb : b.w + 45 < n) (hb' : b.w ≤ 67108864) : zEa n a b = some (zAR a && zAR b) := by
 have e1 := zDd n a ha ha'
 have e2 := zDd n b hb hb'
 obtain ⟨a1, a2, a3, a4⟩ := a
 obtain ⟨b1, b2, b3, b4⟩ := b
 unfold zEa
 simp only [e1, e2, Option.bind_some]
 cases zAR (.mk a1 a2 a3 a4) <;> rfl
end Go.Proofs.YtgfneloodabafaaGreatDoor
namespace Go.Proofs.YtgfneloodabafaaGreatDoor
open Go.Abs
inductive Al : List Nd → List Nd → Nat → Prop
 | nil : Al [] [] 0
 | del {x xs b k} : Al xs b k → Al (x :: xs) b (x.cnt + k)
 | ins {y a ys k} : Al a ys k → Al a (y :: ys) (y.cnt + k)
 | mat {x y xs ys k} : zA5 x y = true → Al xs ys k → Al (x :: xs) (y :: ys) (D x y + k)
theorem zUQ {P : Nd → Nd → Nat} {x y : Nd} {f : List Nd → Nat} {ys : List Nd} : rowD P x f (y :: ys) ≤ x.cnt + f (y :: ys) := by
 simp only [rowD]; split
 ·exact Nat.le_trans (Nat.min_le_left _ _) (Nat.min_le_left _ _)
 ·exact Nat.min_le_left _ _
theorem zUR {P : Nd → Nd → Nat} {x y : Nd} {f : List Nd → Nat} {ys : List Nd} : rowD P x f (y :: ys) ≤ y.cnt + rowD P x f ys := by
 rw [rowD]; split
 ·exact Nat.le_trans (Nat.min_le_left _ _) (Nat.min_le_right _ _)
 ·exact Nat.min_le_right _ _
theorem zUS {P : Nd → Nd → Nat} {x y : Nd} {f : List Nd → Nat} {ys : List Nd} (h : zA5 x y = true) : rowD P x f (y :: ys) ≤ P x y + f ys := by
 rw [rowD, if_pos h]; exact Nat.min_le_right _ _
theorem zIK {a b : List Nd} {k : Nat} (h : Al a b k) : DL a b ≤ k := by
 induction h with
 | nil => exact Nat.le_refl _
 | @del x xs b k _ ih =>
  cases b with
  | nil => exact Nat.add_le_add_left ih _
  | cons y ys => exact Nat.le_trans zUQ (Nat.add_le_add_left ih _)
 | @ins y a ys k _ ih =>
  cases a with
  | nil => exact Nat.add_le_add_left ih _
  | cons x xs => exact Nat.le_trans zUR (Nat.add_le_add_left ih _)
 | @mat x y xs ys k hal _ ih => exact Nat.le_trans (zUS hal) (Nat.add_le_add_left ih _)
theorem zLs : ∀ b : List Nd, Al [] b (Nd.cnts b)
 | [] => .nil
 | y :: ys => .ins (zLs ys)
theorem zTL {x : Nd} {xs : List Nd} (h : ∀ b, Al xs b (DL xs b)) : ∀ b, Al (x :: xs) b (rowD D x (DL xs) b)
 | [] => .del (h [])
 | y :: ys => by
  have ih := zTL (x := x) h ys
  have h1 : Al (x :: xs) (y :: ys) (min (x.cnt + DL xs (y :: ys)) (y.cnt + rowD D x (DL xs) ys)) := by
   rcases Nat.le_total (x.cnt + DL xs (y :: ys)) (y.cnt + rowD D x (DL xs) ys) with g | g
   ·rw [Nat.min_eq_left g]; exact .del (h _)
   ·rw [Nat.min_eq_right g]; exact .ins ih
  rw [rowD]
  split
  ·rename_i hal
   rcases Nat.le_total (min (x.cnt + DL xs (y :: ys)) (y.cnt + rowD D x (DL xs) ys)) (D x y + DL xs ys) with g | g
   ·rw [Nat.min_eq_left g]; exact h1
   ·rw [Nat.min_eq_right g]; exact .mat hal (h _)
  ·exact h1
theorem zKZ : ∀ a b : List Nd, Al a b (DL a b)
 | [], b => zLs b
 | x :: xs, b => zTL (zKZ xs) b
theorem zCP {x y : Nd} : zA5 x y = true ↔ x.kind = y.kind ∧ x.kids.length = y.kids.length ∧ x.cols = y.cols := by
 unfold zA5
 simp only [Bool.and_eq_true, beq_iff_eq]
 omega
theorem zLA {x y : Nd} (h : zA5 x y = true) : zA5 y x = true := by
 obtain ⟨h1, h2, h3⟩ := zCP.1 h; exact zCP.2 ⟨h1.symm, h2.symm, h3.symm⟩
theorem zPn {x y z : Nd} (h : zA5 x y = true) (h' : zA5 y z = true) : zA5 x z = true := by
 obtain ⟨h1, h2, h3⟩ := zCP.1 h; obtain ⟨g1, g2, g3⟩ := zCP.1 h'
 exact zCP.2 ⟨h1.trans g1, h2.trans g2, h3.trans g3⟩
theorem alike_refl (x : Nd) : zA5 x x = true := zCP.2 ⟨rfl, rfl, rfl⟩
theorem zJF {x y : Nd} : txt x y = 0 ↔ x.text = y.text := by
 unfold txt
 cases e : x.text == y.text with
 | true => simpa using e
 | false => simpa using e
theorem zTG (x y : Nd) : txt x y = txt y x := by
 unfold txt; rw [zJ3]
theorem zUt (x y z : Nd) : txt x z ≤ txt x y + txt y z := by
 have h1 := zSA x z
 by_cases h : txt x y = 0
 ·by_cases g : txt y z = 0
  ·have := zJF.2 ((zJF.1 h).trans (zJF.1 g)); omega
  ·omega
 ·omega
theorem zQy : ∀ (us vs : List Nd), (∀ u ∈ us, ∀ v, DL u.kids v = DL v u.kids) → sumD DL us vs = sumD DL vs us
 | [], vs, _ => by cases vs <;> rfl
 | u :: us, [], _ => rfl
 | u :: us, v :: vs, h => by
  rw [sumD, sumD, h u List.mem_cons_self, zQy us vs fun u hu => h u (List.mem_cons_of_mem _ hu)]
theorem zRe {a b : List Nd} {k : Nat} (h : Al a b k) : (∀ x ∈ a, ∀ y ∈ b, D x y = D y x) → Al b a k := by
 induction h with
 | nil => exact fun _ => .nil
 | del _ ih => exact fun hd => .ins (ih fun x hx => hd x (List.mem_cons_of_mem _ hx))
 | ins _ ih => exact fun hd => .del (ih fun x hx y hy => hd x hx y (List.mem_cons_of_mem _ hy))
 | mat hal _ ih => exact fun hd => by rw [hd _ List.mem_cons_self _ List.mem_cons_self]; exact .mat (zLA hal) (ih fun x hx y hy => hd x (List.mem_cons_of_mem _ hx) y (List.mem_cons_of_mem _ hy))
theorem zLt {a b : List Nd} (h : ∀ x ∈ a, ∀ y ∈ b, D x y = D y x) : DL a b = DL b a :=
 Nat.le_antisymm (zIK (zRe (zKZ b a) fun x hx y hy => (h y hy x hx).symm)) (zIK (zRe (zKZ a b) h))
theorem zRf : ∀ (N : Nat) (x y : Nd), x.cnt ≤ N → D x y = D y x
 | 0, x, _, h => by have := x.cnt_pos; omega
 | N + 1, x, y, h => by
  rw [D_eq, D_eq, zTG, zQy]
  intro u hu v
  have e1 := x.cnt_kids
  have e2 := u.cnt_kids
  have e3 := Nd.cnts_mem hu
  exact zLt fun x' hx' y' _ => zRf N x' y' (by have := Nd.cnts_mem hx'; omega)
theorem zT1 (a b : List Nd) : DL a b = DL b a := zLt fun x _ y _ => zRf _ x y (Nat.le_refl _)
theorem zTK {a b : List Nd} {k : Nat} (h : Al a b k) : (∀ x ∈ a, ∀ y ∈ b, zA5 x y = true → y.cnt ≤ x.cnt + D x y) → Nd.cnts b ≤ Nd.cnts a + k := by
 induction h with
 | nil => exact fun _ => Nat.le_refl _
 | del _ ih => exact fun hd => by have := ih fun x hx => hd x (List.mem_cons_of_mem _ hx); simp only [Nd.cnts]; omega
 | ins _ ih => exact fun hd => by have := ih fun x hx y hy => hd x hx y (List.mem_cons_of_mem _ hy); simp only [Nd.cnts]; omega
 | mat hal _ ih =>
   intro hd
   have h1 := hd _ List.mem_cons_self _ List.mem_cons_self hal
   have := ih fun x hx y hy => hd x (List.mem_cons_of_mem _ hx) y (List.mem_cons_of_mem _ hy)
   simp only [Nd.cnts]; omega
theorem zSx : ∀ (us vs : List Nd), us.length = vs.length → (∀ u ∈ us, ∀ v, Nd.cnts v ≤ Nd.cnts u.kids + DL u.kids v) → Nd.cnts vs ≤ Nd.cnts us + sumD DL us vs
 | [], [], _, _ => Nat.le_refl _
 | [], _ :: _, h, _ => by cases h
 | _ :: _, [], h, _ => by cases h
 | u :: us, v :: vs, hl, h => by
  have h1 := h u List.mem_cons_self v.kids
  have h2 := zSx us vs (by simpa using hl) fun u hu => h u (List.mem_cons_of_mem _ hu)
  have e1 := u.cnt_kids
  have e2 := v.cnt_kids
  simp only [Nd.cnts, sumD]; omega
theorem zSM : ∀ (N : Nat) (x y : Nd), x.cnt ≤ N → zA5 x y = true → y.cnt ≤ x.cnt + D x y
 | 0, x, _, h, _ => by have := x.cnt_pos; omega
 | N + 1, x, y, h, hal => by
  have e1 := x.cnt_kids
  have e2 := y.cnt_kids
  have := zSx x.kids y.kids (zCP.1 hal).2.1 fun u hu v => by
   have e2 := u.cnt_kids
   have e3 := Nd.cnts_mem hu
   exact zTK (zKZ u.kids v) fun x' hx' y' _ ha' => zSM N x' y' (by have := Nd.cnts_mem hx'; omega) ha'
  rw [D_eq]; omega
theorem zJH : ∀ (n : Nat) {a b c : List Nd} {k l : Nat}, a.length + b.length + c.length ≤ n → Al a b k → Al b c l →
  (∀ x ∈ a, ∀ y ∈ b, ∀ z ∈ c, zA5 x y = true → zA5 y z = true → D x z ≤ D x y + D y z) → ∃ m, m ≤ k + l ∧ Al a c m
 | n, _, _, _, _, _, hn, .nil, .nil, _ => ⟨0, Nat.le_refl _, .nil⟩
 | 0, _, _, _, _, _, hn, .del _, _, _ => by simp at hn
 | 0, _, _, _, _, _, hn, .ins _, _, _ => by simp at hn
 | 0, _, _, _, _, _, hn, .mat _ _, _, _ => by simp at hn
 | 0, _, _, _, _, _, hn, .nil, .ins _, _ => by simp at hn
 | n + 1, _, _, _, _, _, hn, .del h, h2, hd => by
  obtain ⟨m, hm, ha⟩ := zJH n (by simp only [List.length_cons] at hn; omega) h h2 fun x hx => hd x (List.mem_cons_of_mem _ hx)
  exact ⟨_, by omega, .del ha⟩
 | n + 1, _, _, _, _, _, hn, h, .ins h2, hd => by
  obtain ⟨m, hm, ha⟩ := zJH n (by simp only [List.length_cons] at hn; omega) h h2 fun x hx y hy z hz => hd x hx y hy z (List.mem_cons_of_mem _ hz)
  exact ⟨_, by omega, .ins ha⟩
 | n + 1, _, _, _, _, _, hn, .ins h, .del h2, hd => by
  obtain ⟨m, hm, ha⟩ := zJH n (by simp only [List.length_cons] at hn; omega) h h2 fun x hx y hy => hd x hx y (List.mem_cons_of_mem _ hy)
  exact ⟨m, by omega, ha⟩
 | n + 1, _, _, _, _, _, hn, .ins h, .mat hal h2, hd => by
  obtain ⟨m, hm, ha⟩ := zJH n (by simp only [List.length_cons] at hn; omega) h h2 fun x hx y hy z hz => hd x hx y (List.mem_cons_of_mem _ hy) z (List.mem_cons_of_mem _ hz)
  have := zSM _ _ _ (Nat.le_refl _) hal
  exact ⟨_, by omega, .ins ha⟩
 | n + 1, _, _, _, _, _, hn, .mat hal h, .del h2, hd => by
  obtain ⟨m, hm, ha⟩ := zJH n (by simp only [List.length_cons] at hn; omega) h h2 fun x hx y hy => hd x (List.mem_cons_of_mem _ hx) y (List.mem_cons_of_mem _ hy)
  have := zSM _ _ _ (Nat.le_refl _) (zLA hal)
  rw [zRf _ _ _ (Nat.le_refl _)] at this
  exact ⟨_, by omega, .del ha⟩
 | n + 1, _, _, _, _, _, hn, .mat hal h, .mat hal2 h2, hd => by
  obtain ⟨m, hm, ha⟩ := zJH n (by simp only [List.length_cons] at hn; omega) h h2 fun x hx y hy z hz => hd x (List.mem_cons_of_mem _ hx) y (List.mem_cons_of_mem _ hy) z (List.mem_cons_of_mem _ hz)
  have := hd _ List.mem_cons_self _ List.mem_cons_self _ List.mem_cons_self hal hal2
  exact ⟨_, by omega, .mat (zPn hal hal2) ha⟩
theorem zNk {a b c : List Nd} (h : ∀ x ∈ a, ∀ y ∈ b, ∀ z ∈ c, zA5 x y = true → zA5 y z = true → D x z ≤ D x y + D y z) : DL a c ≤ DL a b + DL b c := by
 obtain ⟨m, hm, ha⟩ := zJH _ (Nat.le_refl _) (zKZ a b) (zKZ b c) h
 exact Nat.le_trans (zIK ha) hm
theorem zSy : ∀ (us vs ws : List Nd), us.length = vs.length → vs.length = ws.length → (∀ u ∈ us, ∀ v w, DL u.kids w ≤ DL u.kids v + DL v w) → sumD DL us ws ≤ sumD DL us vs + sumD DL vs ws
 | [], [], [], _, _, _ => Nat.le_refl _
 | [], _ :: _, _, h, _, _ => by cases h
 | _ :: _, [], _, h, _, _ => by cases h
 | _, [], _ :: _, _, h, _ => by cases h
 | _, _ :: _, [], _, h, _ => by cases h
 | u :: us, v :: vs, w :: ws, h1, h2, h => by
  have g1 := h u List.mem_cons_self v.kids w.kids
  have g2 := zSy us vs ws (by simpa using h1) (by simpa using h2) fun u hu => h u (List.mem_cons_of_mem _ hu)
  simp only [sumD]; omega
theorem zUB : ∀ (N : Nat) (x y z : Nd), x.cnt ≤ N → zA5 x y = true → zA5 y z = true → D x z ≤ D x y + D y z
 | 0, x, _, _, h, _, _ => by have := x.cnt_pos; omega
 | N + 1, x, y, z, h, h1, h2 => by
  have e1 := x.cnt_kids
  have := zUt x y z
  have := zSy x.kids y.kids z.kids (zCP.1 h1).2.1 (zCP.1 h2).2.1 fun u hu v w => by
   have e2 := u.cnt_kids
   have e3 := Nd.cnts_mem hu
   exact zNk fun x' hx' y' _ z' _ g1 g2 => zUB N x' y' z' (by have := Nd.cnts_mem hx'; omega) g1 g2
  rw [D_eq, D_eq, D_eq]; omega
theorem zTP (a b c : List Nd) : DL a c ≤ DL a b + DL b c := zNk fun x _ y _ z _ => zUB _ x y z (Nat.le_refl _)
theorem zGr {k : Int} : ∀ {a : List Nd} {v : Nd}, zDS k a = true → v ∈ a → zET v = true ∧ ((v.kind == 1) == (k == 1)) = false
 | u :: a, v, h, hm => by
  simp only [zDS, Bool.and_eq_true, Bool.not_eq_true'] at h
  rcases List.mem_cons.1 hm with rfl | hm
  ·exact ⟨h.1.2, h.1.1⟩
  ·exact zGr h.2 hm
theorem zME {u : Nd} (h : zET u = true) (hk : u.kind = 1) : u = .mk 1 [] 0 u.kids ∧ zDS 1 u.kids = true := by
 obtain ⟨k, t, c, ks⟩ := u
 simp only [Nd.kind] at hk
 subst hk
 simp only [zET, Bool.and_eq_true] at h
 obtain ⟨⟨h1, h2⟩, h3⟩ := h
 have h1' : (t == []) = true := h1
 have h2' : ((c == 0) && decide ((ks.length : Int) ≤ 200)) = true := h2
 simp only [Bool.and_eq_true] at h2'
 rw [eq_of_beq h1', eq_of_beq h2'.1]
 exact ⟨rfl, h3⟩
theorem zO8 : ∀ (a : List Nd), (∀ x ∈ a, D x x = 0) → Al a a 0
 | [], _ => .nil
 | x :: xs, h => by
  have := Al.mat (alike_refl x) (zO8 xs fun x hx => h x (List.mem_cons_of_mem _ hx))
  rwa [h x List.mem_cons_self] at this
theorem zQx : ∀ (us : List Nd), (∀ u ∈ us, DL u.kids u.kids = 0) → sumD DL us us = 0
 | [], _ => rfl
 | u :: us, h => by rw [sumD, h u List.mem_cons_self, zQx us fun u hu => h u (List.mem_cons_of_mem _ hu)]
theorem zLu : ∀ (N : Nat) (x : Nd), x.cnt ≤ N → D x x = 0
 | 0, x, h => by have := x.cnt_pos; omega
 | N + 1, x, h => by
  have e1 := x.cnt_kids
  rw [D_eq, zJF.2 rfl, zQx]
  intro u hu
  have e2 := u.cnt_kids
  have e3 := Nd.cnts_mem hu
  exact Nat.le_zero.1 (zIK (zO8 u.kids fun x' hx' => zLu N x' (by have := Nd.cnts_mem hx'; omega)))
theorem zIo (a : List Nd) : DL a a = 0 := Nat.le_zero.1 (zIK (zO8 a fun x _ => zLu _ x (Nat.le_refl _)))
theorem zOZ {F : Nd → Nd → Option Bool} {a b : List Nd} (hF : ∀ u ∈ a, ∀ v ∈ b, ∃ y, F u v = some y ∧ (y = true ↔ u = v)) (hl : a.length = b.length) (hb : a.length ≤ 1073741824) :
  ∀ (q i : Nat), a.length - i < q → i ≤ a.length → ∃ y, zBu F a b q (i : Int) = some (if y then .go () else .ret false) ∧ (y = true ↔ a.drop i = b.drop i)
 | 0, _, h, _ => by omega
 | q + 1, i, hq, hi => by
  unfold zBu
  by_cases h : i < a.length
  ·have h' : i < b.length := by omega
   rw [zA8 (Int.ofNat_lt.2 h), cond_true, zBi h, zBi h']
   obtain ⟨y, f1, f2⟩ := hF _ (List.getElem_mem h) _ (List.getElem_mem h')
   have d1 := List.drop_eq_getElem_cons h
   have d2 := List.drop_eq_getElem_cons h'
   rcases e : a[i] with ⟨x1, x2, x3, x4⟩
   rcases e' : b[i] with ⟨y1, y2, y3, y4⟩
   rw [e, e'] at f1 f2
   rw [e] at d1
   rw [e'] at d2
   simp only [Option.bind_some, f1]
   cases y with
   | false =>
    refine ⟨false, rfl, ⟨(fun h => by cases h), fun h => ?_⟩⟩
    rw [d1, d2] at h
    exact f2.2 (List.cons.inj h).1
   | true =>
    simp only [Bool.not_true, cond_false]
    rw [zAX (by omega)]
    obtain ⟨z, g1, g2⟩ := zOZ hF hl hb q (i + 1) (by omega) (by omega)
    refine ⟨z, g1, ?_⟩
    rw [d1, d2, g2, f2.1 rfl]
    simp
  ·rw [zA7 (by omega), cond_false]
   obtain rfl : i = a.length := by omega
   refine ⟨true, rfl, ?_⟩
   rw [List.drop_length, hl, List.drop_length]
   simp
theorem zJx : ∀ N : Nat, (∀ x y : Nd, 2 * x.cnt < N → x.cnt ≤ 67108864 → ∃ r, zBo N x y = some r ∧ (r = true ↔ x = y)) ∧
  (∀ a b : List Nd, 2 * Nd.cnts a + 1 < N → Nd.cnts a ≤ 67108864 → ∃ r, zB3 N a b = some r ∧ (r = true ↔ a = b))
 | 0 => ⟨fun _ _ h _ => by omega, fun _ _ h _ => by omega⟩
 | n + 1 => by
  obtain ⟨ih1, ih2⟩ := zJx n
  refine ⟨fun x y h hx => ?_, fun a b h ha => ?_⟩
  ·obtain ⟨a, b, c, d⟩ := x
   obtain ⟨a', b', c', d'⟩ := y
   simp only [Nd.cnt] at h hx
   obtain ⟨r, h1, h2⟩ := ih2 d d' (by omega) (by omega)
   unfold zBo
   simp only [h1, Option.bind_some]
   cases e1 : a == a' with
   | false => exact ⟨false, rfl, ⟨(fun h => by cases h), fun h => by cases h; simp at e1⟩⟩
   | true =>
    cases e2 : b == b' with
    | false => exact ⟨false, rfl, ⟨(fun h => by cases h), fun h => by cases h; simp at e2⟩⟩
    | true =>
     cases e3 : c == c' with
     | false => exact ⟨false, rfl, ⟨(fun h => by cases h), fun h => by cases h; simp at e3⟩⟩
     | true =>
      refine ⟨r, rfl, h2.trans ⟨fun h => ?_, fun h => by cases h; rfl⟩⟩
      rw [eq_of_beq e1, eq_of_beq e2, eq_of_beq e3, h]
  ·unfold zB3
   have l1 := Nd.cnts_len a
   by_cases hl : a.length = b.length
   ·obtain ⟨y, g1, g2⟩ := zOZ (F := zBo n) (a := a) (b := b) (fun u hu v _ => ih1 u v (by have := Nd.cnts_mem hu; omega) (by have := Nd.cnts_mem hu; omega)) hl (by omega) n 0 (by omega) (by omega)
    rw [show ((0 : Nat) : Int) = 0 from rfl] at g1
    rw [hl, bne_self_eq_false, cond_false, g1]
    refine ⟨y, by cases y <;> rfl, g2⟩
   ·have : ((a.length : Int) != (b.length : Int)) = true := by
     unfold bne
     rw [zDN (by omega)]; rfl
    rw [this]
    exact ⟨false, rfl, ⟨(fun h => by cases h), fun h => absurd (congrArg List.length h) hl⟩⟩
theorem zSD {x : Nd} (h : zAR x = true) : x = .mk 1 [] 0 x.kids ∧ zDS 1 x.kids = true := by
 unfold zAR at h
 simp only [Bool.and_eq_true] at h
 exact zME h.2.1 (eq_of_beq h.1)
end Go.Proofs.YtgfneloodabafaaGreatDoor
