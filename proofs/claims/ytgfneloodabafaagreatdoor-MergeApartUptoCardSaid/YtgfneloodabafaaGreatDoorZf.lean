/-
  Joined out of: MaVC.
-/
import Derived.Test.YtgfneloodabafaaGreatDoorZe
set_option linter.unusedVariables false
set_option linter.unusedSimpArgs false
set_option maxHeartbeats 2000000
set_option maxRecDepth 100000
namespace Go.Proofs.YtgfneloodabafaaGreatDoor
open Go.Abs
def zJl (n : Nat) (xs : List AV) (r : Ret) : Prop := ∃ (a0 : List Nd) (a1 : List Nd) (y0 : List Int), zB8 n a0 a1 = some y0 ∧ xs = [.s (.sl 4 (Nd.encs a0)), .s (.sl 4 (Nd.encs a1))] ∧ r = .row 3 1 ((List.map (irow .i64)) y0)
def zF9 : zAy := zAI fun xs r => ∃ n, zJl n xs r
theorem zIx : PSound Tryz.prog 40 zF9 := by
 have gok : ∀ f s, look? f [(62, zIL)] = some s → PSound Tryz.prog f s := zAA (by
  simp only [List.forall_mem_cons]
  exact ⟨zMO, by simp⟩)
 refine zAM tokW Tryz.call40 Tryz.func40 rfl (fun xs r h => by obtain ⟨n, _, _, _, _, rfl, _⟩ := h; show 2 ≤ 45; decide) 45 rfl ?_
 rintro xs r w0 G0 ⟨n, base1, other2, y0, h, rfl, rfl⟩ _
 rw [zB8] at h
 refine zAb ?_
 refine zAa (by exact tokW) (by exact gok) [4] [] rfl ?_
 show Tri _ _ _ _
 refine zAm (Le.rename [] [(0, .s (.sl 4 (Nd.encs base1))), (1, .s (.sl 4 (Nd.encs other2)))] [] 0 ⟨rfl, rfl, trivial⟩ trivial rfl rfl rfl rfl rfl) ?_
 refine zAb ?_
 refine zAa (by exact tokW) (by exact gok) [] [] rfl ?_
 obtain ⟨⟨y3, y4⟩, hy3, h⟩ := zAc h
 refine ⟨_, ⟨_, _, _, _, _, hy3, rfl, rfl⟩, ?_⟩
 show Tri _ _ _ _
 refine zAb ?_
 refine zAa (by exact tokW) (by exact gok) [21] [20] rfl ?_
 intro n5 hn5
 obtain rfl : (base1.length : Int) = n5 := (hn5.trans (congrArg (fun m : Nat => (m : Int)) (rlen Nd.encs_eq base1))).symm
 obtain ⟨hq, h⟩ := zAN h
 refine And.intro (show 0 ≤ (base1.length : Int) ∧ (base1.length : Int) ≤ (base1.length : Int) ∧ (base1.length : Int) * ((8 : Nat) : Int) ≤ 281474976710656 ∧ (base1.length : Int) ≤ 281474976710656 from ⟨hq.1, Int.le_refl _, by have h1 := hq.1; have h2 := hq.2; omega, by have h2 := hq.2; omega⟩) ?_
 show Tri _ _ _ _
 refine zAm (Le.rename [(0, 0)] [(5, .s (.sl 2 ((List.map zAB) y3))), (7, .orow 0)] [(0, .row 3 1 ((List.map (irow .i64)) (List.replicate (base1.length : Int).toNat 0)))] 1 ⟨rfl, rfl, trivial⟩ ⟨rfl, ⟨_, rfl, congrArg (Ob.row 3 1) (by simp [List.map_append, List.map_take, List.map_drop, irow, brow, zAK, List.map_cons, List.map_nil, zAD, Nd.encs_eq, Nd.enc, zAn, zAh, zAl, zAu, zAv, zAr, zAB])⟩, trivial⟩ rfl rfl rfl rfl rfl) ?_
 refine zAb ?_
 refine zAb ?_
 refine zAa (by exact tokW) (by exact gok) [] [23] rfl ?_
 intro n6 hn6
 obtain rfl : ((List.replicate (base1.length : Int).toNat 0 : List Int).length : Int) = n6 := (hn6.trans (congrArg (fun m : Nat => (m : Int)) (rlen (fun _ => rfl) (List.replicate (base1.length : Int).toNat 0 : List Int)))).symm
 show Tri _ _ _ _
 obtain ⟨l9, hl, h⟩ := zAc h
 refine zAq ⟨ofL [(5, .s (.sl 2 ((List.map zAB) y3))), (7, .orow 0)], ofH [(0, .row 3 1 ((List.map (irow .i64)) l9))], 1⟩ ?_ (fun σ' hle => ?_)
 ·refine zAp (zAJ (X := Nat × Int × (List Int)) (fun y => match y with | (k, x7, l8) => ⟨ofL [(5, .s (.sl 2 ((List.map zAB) y3))), (7, .orow 0), (23, .s (.int .i64 ((List.replicate (base1.length : Int).toNat 0 : List Int).length : Int))), (24, .s (.int .i64 x7))], ofH [(0, .row 3 1 ((List.map (irow .i64)) l8))], 1⟩) (fun y => zBm base1 y.1 y.2.1 y.2.2 = some l9) (fun y => y.1) (n, 0, List.replicate (base1.length : Int).toNat 0) hl ?_ ?_)
  ·exact (Le.rename [(0, 0)] _ _ _ ⟨rfl, rfl, rfl, rfl, trivial⟩ ⟨rfl, ⟨_, rfl, rfl⟩, trivial⟩ rfl rfl rfl rfl rfl)
  ·rintro ⟨k, x7, l8⟩ h
   cases k with
   | zero => cases h
   | succ k =>
    replace h : zBm base1 (k+1) x7 l8 = some l9 := h
    rw [zBm] at h
    refine zAb ?_
    refine zAa (by exact tokW) (by exact gok) [] [] rfl ?_
    show Tri _ _ _ _
    refine zAb ?_
    refine zAe rfl (fun hb => ?_) (fun hb => ?_)
    ·replace h := zAk hb h
     refine zAg ?_
     show Tri _ _ _ _
     refine zAb ?_
     refine zAp ?_
     refine zAb ?_
     refine zAa (by exact tokW) (by exact gok) [] [] rfl ?_
     show Tri _ _ _ _
     refine zAa (by exact tokW) (by exact gok) [] [] rfl ?_
     obtain ⟨e10, he10, h⟩ := zAc h
     refine And.intro (zAw (fun _ => rfl) he10).1 ?_
     have hset11 := (rset (R := (List.map (irow .i64))) (f := (irow .i64)) (fun _ => rfl) he10 (-1) 0 1 [.int .i64 (-1)] rfl)
     have hat11 := at_set he10 (-1)
     refine And.intro (zAw (fun _ => rfl) he10).2.2 ?_
     show Tri _ _ _ _
     refine zAm (Le.rename [(0, 0)] [(5, .s (.sl 2 ((List.map zAB) y3))), (7, .orow 0), (23, .s (.int .i64 ((List.replicate (base1.length : Int).toNat 0 : List Int).length : Int))), (24, .s (.int .i64 x7))] [(0, .row 3 1 ((List.map (irow .i64)) (l8.set x7.toNat (-1))))] 1 ⟨rfl, rfl, rfl, rfl, trivial⟩ ⟨rfl, ⟨_, rfl, congrArg (Ob.row 3 1) hset11⟩, trivial⟩ rfl rfl rfl rfl rfl) ?_
     refine zAa (by exact tokW) (by exact gok) [] [] rfl ?_
     refine ⟨(k, IntKind.i64.wrap (x7 + 1), l8.set x7.toNat (-1)), h, (Le.rename [(0, 0)] _ _ _ ⟨rfl, rfl, rfl, rfl, trivial⟩ ⟨rfl, ⟨_, rfl, rfl⟩, trivial⟩ rfl rfl rfl rfl rfl), Nat.lt_succ_self k⟩
    ·replace h := zAj hb h
     refine zAL ?_
     cases h
     exact (Le.rename [(0, 0)] _ _ _ ⟨rfl, rfl, trivial⟩ ⟨rfl, ⟨_, rfl, rfl⟩, trivial⟩ rfl rfl rfl rfl rfl)
 ·show Tri _ _ _ _
  refine zAm hle ?_
  refine zAb ?_
  refine zAb ?_
  refine zAa (by exact tokW) (by exact gok) [] [32] rfl ?_
  intro n12 hn12
  obtain rfl : (y3.length : Int) = n12 := (hn12.trans (congrArg (fun m : Nat => (m : Int)) (rlen (fun _ => rfl) y3))).symm
  show Tri _ _ _ _
  obtain ⟨l15, hl, h⟩ := zAc h
  refine zAq ⟨ofL [(7, .orow 0)], ofH [(0, .row 3 1 ((List.map (irow .i64)) l15))], 1⟩ ?_ (fun σ' hle => ?_)
  ·refine zAp (zAJ (X := Nat × Int × (List Int)) (fun y => match y with | (k, x13, l14) => ⟨ofL [(7, .orow 0), (31, .s (.sl 2 ((List.map zAB) y3))), (32, .s (.int .i64 (y3.length : Int))), (33, .s (.int .i64 x13))], ofH [(0, .row 3 1 ((List.map (irow .i64)) l14))], 1⟩) (fun y => zBn y3 y.1 y.2.1 y.2.2 = some l15) (fun y => y.1) (n, 0, l9) hl ?_ ?_)
   ·exact (Le.rename [(0, 0)] _ _ _ ⟨rfl, rfl, rfl, rfl, trivial⟩ ⟨rfl, ⟨_, rfl, rfl⟩, trivial⟩ rfl rfl rfl rfl rfl)
   ·rintro ⟨k, x13, l14⟩ h
    cases k with
    | zero => cases h
    | succ k =>
     replace h : zBn y3 (k+1) x13 l14 = some l15 := h
     rw [zBn] at h
     refine zAb ?_
     refine zAa (by exact tokW) (by exact gok) [] [] rfl ?_
     show Tri _ _ _ _
     refine zAb ?_
     refine zAe rfl (fun hb => ?_) (fun hb => ?_)
     ·replace h := zAk hb h
      refine zAg ?_
      show Tri _ _ _ _
      refine zAb ?_
      refine zAp ?_
      refine zAb ?_
      refine zAa (by exact tokW) (by exact gok) [10] [35] rfl ?_
      obtain ⟨⟨e16_0, e16_1⟩, he16, h⟩ := zAc h
      refine And.intro (zAw (fun _ => rfl) he16).1 ?_
      intro r17 hr17
      obtain rfl : [.int .i64 e16_0, .int .i64 e16_1] = r17 := (hr17.trans (zAw (fun _ => rfl) he16).2.1).symm
      show Tri _ _ _ _
      refine zAm (Le.giveBox 1 [.int .i64 e16_0, .int .i64 e16_1] rfl rfl) ?_
      refine zAa (by exact tokW) (by exact gok) [] [] rfl ?_
      refine And.intro (by decide) ?_
      refine And.intro (by decide) ?_
      obtain ⟨e18, he18, h⟩ := zAc h
      refine And.intro (zAw (fun _ => rfl) he18).1 ?_
      have hset19 := (rset (R := (List.map (irow .i64))) (f := (irow .i64)) (fun _ => rfl) he18 e16_1 0 1 [.int .i64 e16_1] rfl)
      have hat19 := at_set he18 e16_1
      refine And.intro (zAw (fun _ => rfl) he18).2.2 ?_
      show Tri _ _ _ _
      refine zAm (Le.rename [(0, 0)] [(7, .orow 0), (31, .s (.sl 2 ((List.map zAB) y3))), (32, .s (.int .i64 (y3.length : Int))), (33, .s (.int .i64 x13))] [(0, .row 3 1 ((List.map (irow .i64)) (l14.set e16_0.toNat e16_1)))] 1 ⟨rfl, rfl, rfl, rfl, trivial⟩ ⟨rfl, ⟨_, rfl, congrArg (Ob.row 3 1) hset19⟩, trivial⟩ rfl rfl rfl rfl rfl) ?_
      refine zAa (by exact tokW) (by exact gok) [] [] rfl ?_
      refine ⟨(k, IntKind.i64.wrap (x13 + 1), l14.set e16_0.toNat e16_1), h, (Le.rename [(0, 0)] _ _ _ ⟨rfl, rfl, rfl, rfl, trivial⟩ ⟨rfl, ⟨_, rfl, rfl⟩, trivial⟩ rfl rfl rfl rfl rfl), Nat.lt_succ_self k⟩
     ·replace h := zAj hb h
      refine zAL ?_
      cases h
      exact (Le.rename [(0, 0)] _ _ _ ⟨rfl, trivial⟩ ⟨rfl, ⟨_, rfl, rfl⟩, trivial⟩ rfl rfl rfl rfl rfl)
  ·show Tri _ _ _ _
   refine zAm hle ?_
   refine zAb ?_
   refine zAa (by exact tokW) (by exact gok) [] [] rfl ?_
   show Tri _ _ _ _
   refine zAi ?_
   have hy := Option.some.inj h
   subst hy
   unfold zAG
   exact ⟨_, Le.refl _ _, 0, rfl, rfl⟩
def zD6 (n : Nat) (xs : List AV) (r : Ret) : Prop := ∃ (a0 : Nd) (a1 : Nd) (y0 : Bool), zCd n a0 a1 = some y0 ∧ xs = [.agg ((Nd.enc a0).map .s), .agg ((Nd.enc a1).map .s)] ∧ r = .val (.s (.bool y0))
def zBd (n : Nat) (xs : List AV) (r : Ret) : Prop := ∃ (a0 : List Nd) (a1 : List Nd) (y0 : Bool), zA3 n a0 a1 = some y0 ∧ xs = [.s (.sl 4 (Nd.encs a0)), .s (.sl 4 (Nd.encs a1)), .s (.fn 87)] ∧ r = .val (.s (.bool y0))
theorem zKQ (n : Nat) (ih_node_Equal : PSound Tryz.prog 87 (zAI (zD6 n))) (ih_slices_EqualFunc_sNode : PSound Tryz.prog 86 (zAI (zBd n))) : PSound Tryz.prog 87 (zAI (zD6 (n + 1))) := by
 have gok : ∀ f s, look? f [(86, zAI (zBd n))] = some s → PSound Tryz.prog f s := zAA (by
  simp only [List.forall_mem_cons]
  exact ⟨ih_slices_EqualFunc_sNode, by simp⟩)
 refine zAM tokW Tryz.call87 Tryz.func87 rfl (fun xs r h => by obtain ⟨_, _, _, _, rfl, _⟩ := h; show 2 ≤ 31; decide) 31 rfl ?_
 rintro xs r w0 G0 ⟨⟨a1_kind, a1_text, a1_cols, a1_kids⟩, ⟨b2_kind, b2_text, b2_cols, b2_kids⟩, y0, h, rfl, rfl⟩ _
 rw [zCd] at h
 refine zAb ?_
 refine zAa (by exact tokW) (by exact gok) [] [] rfl ?_
 show Tri _ _ _ _
 refine zAb ?_
 obtain ⟨x3, hj, h⟩ := zAc h
 refine zAq ⟨ofL [(4, .s (.bool x3))], fun _ => none, 0⟩ ?_ (fun σ' hle => ?_)
 ·replace h := hj
  refine zAa (by exact tokW) (by exact gok) [] [10, 17, 24] rfl ?_
  intro b hb
  cases b with
  | true =>
   replace h := zAk hb.symm h
   intro b hb
   cases b with
   | true =>
    replace h := zAk hb.symm h
    intro b hb
    cases b with
    | true =>
     replace h := zAk hb.symm h
     obtain ⟨y4, hy4, h⟩ := zAc h
     refine ⟨_, ⟨_, _, _, hy4, rfl, rfl⟩, ?_⟩
     cases h
     exact (Le.forget _ ⟨rfl, trivial⟩)
    | false =>
     replace h := zAj hb.symm h
     cases h
     exact (Le.forget _ ⟨rfl, trivial⟩)
   | false =>
    replace h := zAj hb.symm h
    intro b hb
    subst hb
    cases h
    exact (Le.forget _ ⟨rfl, trivial⟩)
  | false =>
   replace h := zAj hb.symm h
   intro b hb
   subst hb
   intro b hb
   subst hb
   cases h
   exact (Le.forget _ ⟨rfl, trivial⟩)
 ·show Tri _ _ _ _
  refine zAm hle ?_
  refine zAi ?_
  have hy := Option.some.inj h
  subst hy
  unfold zAG
  exact ⟨_, Le.refl _ _, rfl, rfl⟩
theorem zE3 (n : Nat) (ih_node_Equal : PSound Tryz.prog 87 (zAI (zD6 n))) (ih_slices_EqualFunc_sNode : PSound Tryz.prog 86 (zAI (zBd n))) : PSound Tryz.prog 86 (zAI (zBd (n + 1))) := by
 have gok : ∀ f s, look? f [(87, zAI (zD6 n))] = some s → PSound Tryz.prog f s := zAA (by
  simp only [List.forall_mem_cons]
  exact ⟨ih_node_Equal, by simp⟩)
 refine zAM tokW Tryz.call86 Tryz.func86 rfl (fun xs r h => by obtain ⟨_, _, _, _, rfl, _⟩ := h; show 3 ≤ 32; decide) 32 rfl ?_
 rintro xs r w0 G0 ⟨s11, s22, y0, h, rfl, rfl⟩ _
 rw [zA3] at h
 refine zAb ?_
 refine zAa (by exact tokW) (by exact gok) [] [] rfl ?_
 show Tri _ _ _ _
 refine zAb ?_
 refine zAb ?_
 refine zAa (by exact tokW) (by exact gok) [] [11, 13] rfl ?_
 intro n3 hn3
 obtain rfl : (s11.length : Int) = n3 := (hn3.trans (congrArg (fun m : Nat => (m : Int)) (rlen Nd.encs_eq s11))).symm
 intro n4 hn4
 obtain rfl : (s22.length : Int) = n4 := (hn4.trans (congrArg (fun m : Nat => (m : Int)) (rlen Nd.encs_eq s22))).symm
 show Tri _ _ _ _
 refine zAe rfl (fun hb => ?_) (fun hb => ?_)
 ·replace h := zAk hb h
  refine zAb ?_
  refine zAa (by exact tokW) (by exact gok) [] [] rfl ?_
  show Tri _ _ _ _
  refine zAi ?_
  have hy := Option.some.inj h
  subst hy
  unfold zAG
  exact ⟨_, Le.refl _ _, rfl, rfl⟩
 ·replace h := zAj hb h
  refine zAg ?_
  show Tri _ _ _ _
  refine zAb ?_
  refine zAb ?_
  refine zAa (by exact tokW) (by exact gok) [] [16] rfl ?_
  intro n5 hn5
  obtain rfl : (s11.length : Int) = n5 := (hn5.trans (congrArg (fun m : Nat => (m : Int)) (rlen Nd.encs_eq s11))).symm
  show Tri _ _ _ _
  obtain ⟨fl, hl, ho1⟩ := zAc h
  refine zCY (fl := fl) (fun z => match z with | _ => ⟨ofL [], fun _ => none, 0⟩) ?_ (fun z σ' hz hle => ?_)
  ·refine zAp (zAJ (X := Nat × Int) (fun y => match y with | (k, x6) => ⟨ofL [(1, .s (.sl 4 (Nd.encs s22))), (2, .s (.fn 87)), (15, .s (.sl 4 (Nd.encs s11))), (16, .s (.int .i64 (s11.length : Int))), (17, .s (.int .i64 x6))], fun _ => none, 0⟩) (fun y => zAW (zCd n) s11 s22 y.1 y.2 = some fl) (fun y => y.1) (n, 0) hl ?_ ?_)
   ·exact (Le.forget _ ⟨rfl, rfl, rfl, rfl, rfl, trivial⟩)
   ·rintro ⟨k, x6⟩ h
    cases k with
    | zero => cases h
    | succ k =>
     replace h : zAW (zCd n) s11 s22 (k+1) x6 = some fl := h
     rw [zAW] at h
     refine zAb ?_
     refine zAa (by exact tokW) (by exact gok) [] [] rfl ?_
     show Tri _ _ _ _
     refine zAb ?_
     refine zAe rfl (fun hb => ?_) (fun hb => ?_)
     ·replace h := zAk hb h
      refine zAg ?_
      show Tri _ _ _ _
      refine zAb ?_
      refine zAp ?_
      refine zAb ?_
      refine zAa (by exact tokW) (by exact gok) [8] [20] rfl ?_
      obtain ⟨⟨e7_kind, e7_text, e7_cols, e7_kids⟩, he7, h⟩ := zAc h
      refine And.intro (zAw Nd.encs_eq he7).1 ?_
      intro r8 hr8
      obtain rfl : [.int .i64 e7_kind, .str e7_text, .int .i64 e7_cols, .sl 4 (Nd.encs e7_kids)] = r8 := (hr8.trans (zAw Nd.encs_eq he7).2.1).symm
      show Tri _ _ _ _
      refine zAm (Le.giveBox 0 [.int .i64 e7_kind, .str e7_text, .int .i64 e7_cols, .sl 4 (Nd.encs e7_kids)] rfl rfl) ?_
      refine zAb ?_
      refine zAa (by exact tokW) (by exact gok) [9] [24] rfl ?_
      obtain ⟨⟨e9_kind, e9_text, e9_cols, e9_kids⟩, he9, h⟩ := zAc h
      refine And.intro (zAw Nd.encs_eq he9).1 ?_
      intro r10 hr10
      obtain rfl : [.int .i64 e9_kind, .str e9_text, .int .i64 e9_cols, .sl 4 (Nd.encs e9_kids)] = r10 := (hr10.trans (zAw Nd.encs_eq he9).2.1).symm
      show Tri _ _ _ _
      refine zAm (Le.giveBox 1 [.int .i64 e9_kind, .str e9_text, .int .i64 e9_cols, .sl 4 (Nd.encs e9_kids)] rfl rfl) ?_
      refine zAb ?_
      refine zAa (by exact tokW) (by exact gok) [] [] rfl ?_
      obtain ⟨y11, hy11, h⟩ := zAc h
      refine ⟨_, ⟨_, _, _, hy11, rfl, rfl⟩, ?_⟩
      show Tri _ _ _ _
      refine zAe rfl (fun hb => ?_) (fun hb => ?_)
      ·replace h := zAk hb h
       refine zAb ?_
       refine zAa (by exact tokW) (by exact gok) [] [] rfl ?_
       show Tri _ _ _ _
       refine zAi ?_
       cases h
       replace h : some _ = some _ := ho1
       have hy := Option.some.inj h
       subst hy
       unfold zAG
       exact ⟨_, Le.refl _ _, rfl, rfl⟩
      ·replace h := zAj hb h
       refine zAg ?_
       show Tri _ _ _ _
       refine zAa (by exact tokW) (by exact gok) [] [] rfl ?_
       refine ⟨(k, IntKind.i64.wrap (x6 + 1)), h, (Le.rename [] _ [] 0 ⟨rfl, rfl, rfl, rfl, rfl, trivial⟩ trivial rfl rfl rfl rfl rfl), Nat.lt_succ_self k⟩
     ·replace h := zAj hb h
      refine zAL ?_
      cases h
      exact ⟨_, rfl, (Le.forget _ trivial)⟩
  ·subst hz
   obtain _ := z
   replace h := ho1
   show Tri _ _ _ _
   refine zAm hle ?_
   refine zAb ?_
   refine zAa (by exact tokW) (by exact gok) [] [] rfl ?_
   show Tri _ _ _ _
   refine zAi ?_
   have hy := Option.some.inj h
   subst hy
   unfold zAG
   exact ⟨_, Le.refl _ _, rfl, rfl⟩
theorem zJZ : ∀ n, PSound Tryz.prog 87 (zAI (zD6 n)) ∧ PSound Tryz.prog 86 (zAI (zBd n)) := by
 intro n
 induction n with
 | zero =>
  refine ⟨?_, ?_⟩
  ·exact zB5 Tryz.call87 (fun xs r h => by obtain ⟨_, _, _, h, _⟩ := h; rw [zCd] at h; cases h)
  ·exact zB5 Tryz.call86 (fun xs r h => by obtain ⟨_, _, _, h, _⟩ := h; rw [zA3] at h; cases h)
 | succ n ih =>
  obtain ⟨ih_node_Equal, ih_slices_EqualFunc_sNode⟩ := ih
  exact ⟨zKQ n ih_node_Equal ih_slices_EqualFunc_sNode, zE3 n ih_node_Equal ih_slices_EqualFunc_sNode⟩
def zDx : zAy := zAI fun xs r => ∃ n, zBd n xs r
theorem zFu : PSound Tryz.prog 86 zDx := zDe (fun n => (zJZ n).2)
def zNu (n : Nat) (xs : List AV) (r : Ret) : Prop := ∃ (a0 : List Nd) (a1 : List Nd) (y0 : Bool), zCT n a0 a1 = some y0 ∧ xs = [.s (.sl 4 (Nd.encs a0)), .s (.sl 4 (Nd.encs a1))] ∧ r = .val (.s (.bool y0))
def zIP : zAy := zAI fun xs r => ∃ n, zNu n xs r
theorem zMS : PSound Tryz.prog 63 zIP := by
 have gok : ∀ f s, look? f [(86, zDx)] = some s → PSound Tryz.prog f s := zAA (by
  simp only [List.forall_mem_cons]
  exact ⟨zFu, by simp⟩)
 refine zAM tokW Tryz.call63 Tryz.func63 rfl (fun xs r h => by obtain ⟨n, _, _, _, _, rfl, _⟩ := h; show 2 ≤ 8; decide) 8 rfl ?_
 rintro xs r w0 G0 ⟨n, a1, b2, y0, h, rfl, rfl⟩ _
 rw [zCT] at h
 refine zAb ?_
 refine zAa (by exact tokW) (by exact gok) [] [] rfl ?_
 show Tri _ _ _ _
 refine zAb ?_
 refine zAa (by exact tokW) (by exact gok) [] [] rfl ?_
 obtain ⟨y3, hy3, h⟩ := zAc h
 refine ⟨_, ⟨_, _, _, _, hy3, rfl, rfl⟩, ?_⟩
 show Tri _ _ _ _
 refine zAi ?_
 have hy := Option.some.inj h
 subst hy
 unfold zAG
 exact ⟨_, Le.refl _ _, rfl, rfl⟩
def zNo (n : Nat) (xs : List AV) (r : Ret) : Prop := ∃ (a0 : List Nd) (y0 : List Nd), zBF n a0 = some y0 ∧ xs = [.s (.sl 4 (Nd.encs a0))] ∧ r = .row 24 4 (Nd.encs y0)
def zGg : zAy := zAI fun xs r => ∃ n, zNo n xs r
theorem zH7 : PSound Tryz.prog 64 zGg := by
 have gok : ∀ f s, look? f [(88, zJN)] = some s → PSound Tryz.prog f s := zAA (by
  simp only [List.forall_mem_cons]
  exact ⟨zOq, by simp⟩)
 refine zAM tokW Tryz.call64 Tryz.func64 rfl (fun xs r h => by obtain ⟨n, _, _, _, rfl, _⟩ := h; show 1 ≤ 20; decide) 20 rfl ?_
 rintro xs r w0 G0 ⟨n, l1, y0, h, rfl, rfl⟩ _
 rw [zBF] at h
 refine zAb ?_
 refine zAa (by exact tokW) (by exact gok) [2] [] rfl ?_
 show Tri _ _ _ _
 refine zAm (Le.rename [] [(0, .s (.sl 4 (Nd.encs l1)))] [] 0 ⟨rfl, trivial⟩ trivial rfl rfl rfl rfl rfl) ?_
 refine zAb ?_
 refine zAa (by exact tokW) (by exact gok) [3] [] rfl ?_
 show Tri _ _ _ _
 refine zAm (Le.rename [(0, 0)] [(0, .s (.sl 4 (Nd.encs l1))), (3, .orow 0)] [(0, .row 24 4 (Nd.encs []))] 1 ⟨rfl, rfl, trivial⟩ ⟨rfl, ⟨_, rfl, congrArg (Ob.row 24 4) (by simp [List.map_append, List.map_take, List.map_drop, irow, brow, zAK, List.map_cons, List.map_nil, zAD, Nd.encs_eq, Nd.enc, zAn, zAh, zAl, zAu, zAv, zAr, zAB])⟩, trivial⟩ rfl rfl rfl rfl rfl) ?_
 refine zAb ?_
 refine zAb ?_
 refine zAa (by exact tokW) (by exact gok) [] [6] rfl ?_
 intro n2 hn2
 obtain rfl : (l1.length : Int) = n2 := (hn2.trans (congrArg (fun m : Nat => (m : Int)) (rlen Nd.encs_eq l1))).symm
 show Tri _ _ _ _
 obtain ⟨l6, hl, h⟩ := zAc h
 refine zAq ⟨ofL [(3, .orow 0)], ofH [(0, .row 24 4 (Nd.encs l6))], 1⟩ ?_ (fun σ' hle => ?_)
 ·refine zAp (zAJ (X := Nat × Int × (List Nd)) (fun y => match y with | (k, x4, l5) => ⟨ofL [(0, .s (.sl 4 (Nd.encs l1))), (3, .orow 0), (6, .s (.int .i64 (l1.length : Int))), (7, .s (.int .i64 x4))], ofH [(0, .row 24 4 (Nd.encs l5))], 1⟩) (fun y => zBZ l1 y.1 y.2.1 y.2.2 = some l6) (fun y => y.1) (n, 0, []) hl ?_ ?_)
  ·exact (Le.rename [(0, 0)] _ _ _ ⟨rfl, rfl, rfl, rfl, trivial⟩ ⟨rfl, ⟨_, rfl, rfl⟩, trivial⟩ rfl rfl rfl rfl rfl)
  ·rintro ⟨k, x4, l5⟩ h
   cases k with
   | zero => cases h
   | succ k =>
    replace h : zBZ l1 (k+1) x4 l5 = some l6 := h
    rw [zBZ] at h
    refine zAb ?_
    refine zAa (by exact tokW) (by exact gok) [] [] rfl ?_
    show Tri _ _ _ _
    refine zAb ?_
    refine zAe rfl (fun hb => ?_) (fun hb => ?_)
    ·replace h := zAk hb h
     refine zAg ?_
     show Tri _ _ _ _
     refine zAb ?_
     refine zAp ?_
     refine zAb ?_
     refine zAa (by exact tokW) (by exact gok) [] [] rfl ?_
     show Tri _ _ _ _
     refine zAa (by exact tokW) (by exact gok) [17] [13, 16] rfl ?_
     obtain ⟨⟨e7_kind, e7_text, e7_cols, e7_kids⟩, he7, h⟩ := zAc h
     refine And.intro (zAw Nd.encs_eq he7).1 ?_
     intro r8 hr8
     obtain rfl : [.int .i64 e7_kind, .str e7_text, .int .i64 e7_cols, .sl 4 (Nd.encs e7_kids)] = r8 := (hr8.trans (zAw Nd.encs_eq he7).2.1).symm
     obtain ⟨⟨y9_kind, y9_text, y9_cols, y9_kids⟩, hy9, h⟩ := zAc h
     refine ⟨_, ⟨_, _, hy9, rfl, rfl⟩, ?_⟩
     intro r10 hr10
     obtain rfl : Nd.encs [Nd.mk y9_kind y9_text y9_cols y9_kids] = r10 := (hr10.trans (by simp [List.map_append, List.map_take, List.map_drop, irow, brow, zAK, List.map_cons, List.map_nil, zAD, Nd.encs_eq, Nd.enc, zAn, zAh, zAl, zAu, zAv, zAr, zAB])).symm
     obtain ⟨hq, h⟩ := zAN h
     refine And.intro (show ((Nd.encs l5).length + (Nd.encs [Nd.mk y9_kind y9_text y9_cols y9_kids]).length) * 56 ≤ 140737488355328 ∧ (Nd.encs l5).length + (Nd.encs [Nd.mk y9_kind y9_text y9_cols y9_kids]).length ≤ 9223372036854775807 from by simp only [List.length_append, List.length_cons, List.length_nil, List.length_map, rlen Nd.encs_eq] at hq ⊢; omega) ?_
     show Tri _ _ _ _
     refine zAm (Le.rename [(1, 0)] [(0, .s (.sl 4 (Nd.encs l1))), (3, .orow 0), (6, .s (.int .i64 (l1.length : Int))), (7, .s (.int .i64 x4))] [(0, .row 24 4 (Nd.encs (l5 ++ [Nd.mk y9_kind y9_text y9_cols y9_kids])))] 1 ⟨rfl, rfl, rfl, rfl, trivial⟩ ⟨rfl, ⟨_, rfl, congrArg (Ob.row 24 4) (by simp [List.map_append, List.map_take, List.map_drop, irow, brow, zAK, List.map_cons, List.map_nil, zAD, Nd.encs_eq, Nd.enc, zAn, zAh, zAl, zAu, zAv, zAr, zAB])⟩, trivial⟩ rfl rfl rfl rfl rfl) ?_
     refine zAa (by exact tokW) (by exact gok) [] [] rfl ?_
     refine ⟨(k, IntKind.i64.wrap (x4 + 1), l5 ++ [Nd.mk y9_kind y9_text y9_cols y9_kids]), h, (Le.rename [(0, 0)] _ _ _ ⟨rfl, rfl, rfl, rfl, trivial⟩ ⟨rfl, ⟨_, rfl, rfl⟩, trivial⟩ rfl rfl rfl rfl rfl), Nat.lt_succ_self k⟩
    ·replace h := zAj hb h
     refine zAL ?_
     cases h
     exact (Le.rename [(0, 0)] _ _ _ ⟨rfl, trivial⟩ ⟨rfl, ⟨_, rfl, rfl⟩, trivial⟩ rfl rfl rfl rfl rfl)
 ·show Tri _ _ _ _
  refine zAm hle ?_
  refine zAb ?_
  refine zAa (by exact tokW) (by exact gok) [] [] rfl ?_
  show Tri _ _ _ _
  refine zAi ?_
  have hy := Option.some.inj h
  subst hy
  unfold zAG
  exact ⟨_, Le.refl _ _, 0, rfl, rfl⟩
def zPb (xs : List AV) (r : Ret) : Prop := ∃ (a0 : List Int) (y0 : List Int), zEV a0 = some y0 ∧ xs = [.s (.sl 1 ((List.map (irow .i64)) a0))] ∧ r = .val (.s (.sl 1 ((List.map (irow .i64)) y0)))
def zJM : zAy := zAI fun xs r => zPb xs r
theorem zOp : PSound Tryz.prog 89 zJM := by
 have gok : ∀ f s, look? f [(102, zEN)] = some s → PSound Tryz.prog f s := zAA (by
  simp only [List.forall_mem_cons]
  exact ⟨zGZ, by simp⟩)
 refine zAM tokW Tryz.call89 Tryz.func89 rfl (fun xs r h => by obtain ⟨_, _, _, rfl, _⟩ := h; show 1 ≤ 5; decide) 5 rfl ?_
 rintro xs r w0 G0 ⟨l1, y0, h, rfl, rfl⟩ _
 rw [zEV] at h
 refine zAb ?_
 refine zAa (by exact tokW) (by exact gok) [] [] rfl ?_
 show Tri _ _ _ _
 refine zAb ?_
 refine zAa (by exact tokW) (by exact gok) [] [] rfl ?_
 obtain ⟨y2, hy2, h⟩ := zAc h
 refine ⟨_, ⟨_, _, hy2, rfl, rfl⟩, ?_⟩
 show Tri _ _ _ _
 refine zAi ?_
 have hy := Option.some.inj h
 subst hy
 unfold zAG
 exact ⟨_, Le.refl _ _, rfl, rfl⟩
def zAd (p : (List Int × Int × Int × List Nd × List Nd)) : List S := [.sl 1 ((List.map (irow .i64)) p.1), .int .i64 p.2.1, .int .i64 p.2.2.1, .sl 4 (Nd.encs p.2.2.2.1), .sl 4 (Nd.encs p.2.2.2.2)]
def zAz (p : (List Nd × List Nd × List Nd)) : List S := [.sl 4 (Nd.encs p.1), .sl 4 (Nd.encs p.2.1), .sl 4 (Nd.encs p.2.2)]
def zAt (p : (Int × List (List Int × Int × Int × List Nd × List Nd))) : List S := [.int .i64 p.1, .sl 5 ((List.map zAd) p.2)]
def zFT (n : Nat) (xs : List AV) (os : List Ob) (x : AV) (os' : List (Option Ob)) : Prop := ∃ (a0 : (Int × List (List Int × Int × Int × List Nd × List Nd))) (a1 : List Int) (a2 : Int) (a3 : (List Nd × List Nd × List Nd)) (y0 : List Nd) (z0 : (Int × List (List Int × Int × Int × List Nd × List Nd))), zBh n a0 a1 a2 a3 = some (y0, z0) ∧ xs = [.op 0 0, .s (.sl 1 ((List.map (irow .i64)) a1)), .s (.int .i64 a2), .agg ((zAz a3).map .s)] ∧ os = [.box 47 (((zAt a0).map .s).set 1 (.orow 1)), .row 52 5 ((List.map zAd) a0.2)] ∧ x = .s (.sl 4 (Nd.encs y0)) ∧ os' = [some (.box 47 (((zAt z0).map .s).set 1 (.orow 2))), none, some (.row 52 5 ((List.map zAd) z0.2))]
def zCv : zAy := zCm (fun xs os x os' => ∃ n, zFT n xs os x os')
theorem zDD : PSound Tryz.prog 65 zCv := by
 have gok : ∀ f s, look? f [(89, zJM), (64, zGg)] = some s → PSound Tryz.prog f s := zAA (by
  simp only [List.forall_mem_cons]
  exact ⟨zOp, zH7, by simp⟩)
 refine PSound.withNil (zFj tokW Tryz.call65 Tryz.func65 rfl (fun xs os x os' h => by obtain ⟨n, _, _, _, _, _, _, _, rfl, rfl, _, rfl⟩ := h; exact ⟨by show 4 ≤ 40; decide, by show 2 ≤ 3; decide⟩) 40 rfl ?_) _
 rintro xs os x os' w0 G0 B0 ⟨n, ⟨o1_take, o1_conflicts⟩, path2, from3, ⟨part4_0, part4_1, part4_2⟩, y0, z0, h, rfl, rfl, rfl, rfl⟩ _
 rw [zBh] at h
 refine zAb ?_
 refine zAa (by exact tokW) (by exact gok) [] [] rfl ?_
 show Tri _ _ _ _
 refine zAb ?_
 refine zAC (by exact tokW) (by exact gok) (by exact mixed) [30] [20, 29] [4, 21, 24] rfl (by decide +kernel) ?_
 obtain ⟨y5, hy5, h⟩ := zAc h
 refine ⟨_, ⟨_, _, hy5, rfl, rfl⟩, ?_⟩
 refine And.intro (by decide) ?_
 intro n6 hn6
 obtain rfl : (part4_0.length : Int) = n6 := (hn6.trans (congrArg (fun m : Nat => (m : Int)) (rlen Nd.encs_eq part4_0))).symm
 refine And.intro (by decide) ?_
 obtain ⟨y7, hy7, h⟩ := zAc h
 refine ⟨_, ⟨_, _, _, hy7, rfl, rfl⟩, ?_⟩
 refine And.intro (by decide) ?_
 obtain ⟨y8, hy8, h⟩ := zAc h
 refine ⟨_, ⟨_, _, _, hy8, rfl, rfl⟩, ?_⟩
 intro r9 hr9
 obtain rfl : (List.map zAd) [(y5, from3, IntKind.i64.wrap (from3 + (part4_0.length : Int)), y7, y8)] = r9 := (hr9.trans (by simp [List.map_append, List.map_take, List.map_drop, irow, brow, zAK, List.map_cons, List.map_nil, zAD, Nd.encs_eq, Nd.enc, zAn, zAh, zAl, zAu, zAv, zAr, zAB, zAd])).symm
 obtain ⟨hq, h⟩ := zAN h
 refine And.intro (show (((List.map zAd) o1_conflicts).length + ((List.map zAd) [(y5, from3, IntKind.i64.wrap (from3 + (part4_0.length : Int)), y7, y8)]).length) * 88 ≤ 140737488355328 ∧ ((List.map zAd) o1_conflicts).length + ((List.map zAd) [(y5, from3, IntKind.i64.wrap (from3 + (part4_0.length : Int)), y7, y8)]).length ≤ 9223372036854775807 from by simp only [List.length_append, List.length_cons, List.length_nil, List.length_map, rlen (fun _ => rfl)] at hq ⊢; omega) ?_
 show Tri _ _ _ _
 refine zAm (Le.rename [(0, 0), (2, 2)] [(0, .op 0 0), (7, .s (.pt [.sl 4 (Nd.encs part4_0), .sl 4 (Nd.encs part4_1), .sl 4 (Nd.encs part4_2)]))] [(0, .box 47 [.s (.int .i64 o1_take), .orow 2]), (2, .row 52 5 ((List.map zAd) (o1_conflicts ++ [(y5, from3, IntKind.i64.wrap (from3 + (part4_0.length : Int)), y7, y8)])))] 3 ⟨rfl, rfl, trivial⟩ ⟨rfl, ⟨_, rfl, rfl⟩, rfl, ⟨_, rfl, congrArg (Ob.row 52 5) (by simp [List.map_append, List.map_take, List.map_drop, irow, brow, zAK, List.map_cons, List.map_nil, zAD, Nd.encs_eq, Nd.enc, zAn, zAh, zAl, zAu, zAv, zAr, zAB, zAd])⟩, trivial⟩ rfl rfl rfl rfl rfl) ?_
 refine zAb ?_
 refine zAa (by exact tokW) (by exact gok) [] [36] rfl ?_
 intro vsp hvsp
 cases hc : (o1_take == 0) with
 | true =>
  replace h := zAk hc h
  obtain rfl : (0 : Int) = vsp := (hvsp.trans (eq_of_beq hc)).symm
  refine And.intro (by decide) ?_
  obtain ⟨y10, hy10, h⟩ := zAc h
  refine ⟨_, ⟨_, _, _, hy10, rfl, rfl⟩, ?_⟩
  show Tri _ _ _ _
  refine zAi ?_
  obtain ⟨hj1, hk1⟩ := Prod.mk.inj (Option.some.inj h)
  subst hj1
  subst hk1
  unfold zBV
  exact ⟨_, (Le.rename [(0, 0), (2, 2)] [(8, .s (.sl 4 (Nd.encs y10)))] [(0, .box 47 [.s (.int .i64 o1_take), .orow 2]), (2, .row 52 5 ((List.map zAd) (o1_conflicts ++ [(y5, from3, IntKind.i64.wrap (from3 + (part4_0.length : Int)), y7, y8)])))] 3 ⟨rfl, trivial⟩ ⟨rfl, ⟨_, rfl, rfl⟩, rfl, ⟨_, rfl, rfl⟩, trivial⟩ rfl rfl rfl rfl rfl), rfl, rfl, rfl, rfl, rfl, rfl, trivial⟩
 | false =>
  replace h := zAj hc h
  cases hc : (o1_take == 1) with
  | true =>
   replace h := zAk hc h
   obtain rfl : (1 : Int) = vsp := (hvsp.trans (eq_of_beq hc)).symm
   refine And.intro (by decide) ?_
   obtain ⟨y11, hy11, h⟩ := zAc h
   refine ⟨_, ⟨_, _, _, hy11, rfl, rfl⟩, ?_⟩
   show Tri _ _ _ _
   refine zAi ?_
   obtain ⟨hj1, hk1⟩ := Prod.mk.inj (Option.some.inj h)
   subst hj1
   subst hk1
   unfold zBV
   exact ⟨_, (Le.rename [(0, 0), (2, 2)] [(8, .s (.sl 4 (Nd.encs y11)))] [(0, .box 47 [.s (.int .i64 o1_take), .orow 2]), (2, .row 52 5 ((List.map zAd) (o1_conflicts ++ [(y5, from3, IntKind.i64.wrap (from3 + (part4_0.length : Int)), y7, y8)])))] 3 ⟨rfl, trivial⟩ ⟨rfl, ⟨_, rfl, rfl⟩, rfl, ⟨_, rfl, rfl⟩, trivial⟩ rfl rfl rfl rfl rfl), rfl, rfl, rfl, rfl, rfl, rfl, trivial⟩
  | false =>
   replace h := zAj hc h
   cases hc : (o1_take == 2) with
   | true =>
    replace h := zAk hc h
    obtain rfl : (2 : Int) = vsp := (hvsp.trans (eq_of_beq hc)).symm
    refine And.intro (by decide) ?_
    obtain ⟨y12, hy12, h⟩ := zAc h
    refine ⟨_, ⟨_, _, _, hy12, rfl, rfl⟩, ?_⟩
    show Tri _ _ _ _
    refine zAi ?_
    obtain ⟨hj1, hk1⟩ := Prod.mk.inj (Option.some.inj h)
    subst hj1
    subst hk1
    unfold zBV
    exact ⟨_, (Le.rename [(0, 0), (2, 2)] [(8, .s (.sl 4 (Nd.encs y12)))] [(0, .box 47 [.s (.int .i64 o1_take), .orow 2]), (2, .row 52 5 ((List.map zAd) (o1_conflicts ++ [(y5, from3, IntKind.i64.wrap (from3 + (part4_0.length : Int)), y7, y8)])))] 3 ⟨rfl, trivial⟩ ⟨rfl, ⟨_, rfl, rfl⟩, rfl, ⟨_, rfl, rfl⟩, trivial⟩ rfl rfl rfl rfl rfl), rfl, rfl, rfl, rfl, rfl, rfl, trivial⟩
   | false =>
    replace h := zAj hc h
    cases h
def zHj (n : Nat) (xs : List AV) (os : List Ob) (x : AV) (os' : List (Option Ob)) : Prop := ∃ (a0 : (Int × List (List Int × Int × Int × List Nd × List Nd))) (a1 : List Int) (a2 : Int) (a3 : (List Nd × List Nd × List Nd)) (y0 : List Nd) (z0 : (Int × List (List Int × Int × Int × List Nd × List Nd))), zBl n a0 a1 a2 a3 = some (y0, z0) ∧ xs = [.op 0 0, .s (.sl 1 ((List.map (irow .i64)) a1)), .s (.int .i64 a2), .agg ((zAz a3).map .s)] ∧ os = [.box 47 (((zAt a0).map .s).set 1 (.orow 1)), .row 52 5 ((List.map zAd) a0.2)] ∧ x = .s (.sl 4 (Nd.encs y0)) ∧ os' = [some (.box 47 (((zAt z0).map .s).set 1 (.orow 2))), none, some (.row 52 5 ((List.map zAd) z0.2))]
def zEI : zAy := zCm (fun xs os x os' => ∃ n, zHj n xs os x os')
theorem zGW : PSound Tryz.prog 41 zEI := by
 have gok : ∀ f s, look? f [(63, zIP), (64, zGg), (65, zCv)] = some s → PSound Tryz.prog f s := zAA (by
  simp only [List.forall_mem_cons]
  exact ⟨zMS, zH7, zDD, by simp⟩)
 refine PSound.withNil (zFj tokW Tryz.call41 Tryz.func41 rfl (fun xs os x os' h => by obtain ⟨n, _, _, _, _, _, _, _, rfl, rfl, _, rfl⟩ := h; exact ⟨by show 4 ≤ 40; decide, by show 2 ≤ 3; decide⟩) 40 rfl ?_) _
 rintro xs os x os' w0 G0 B0 ⟨n, ⟨o1_take, o1_conflicts⟩, path2, from3, ⟨part4_0, part4_1, part4_2⟩, y0, z0, h, rfl, rfl, rfl, rfl⟩ _
 rw [zBl] at h
 refine zAb ?_
 refine zAa (by exact tokW) (by exact gok) [] [] rfl ?_
 show Tri _ _ _ _
 refine zAb ?_
 refine zAC (by exact tokW) (by exact gok) (by exact mixed) [] [] [] rfl (by decide +kernel) ?_
 refine And.intro (by decide) ?_
 refine And.intro (by decide) ?_
 refine And.intro (by decide) ?_
 show Tri _ _ _ _
 refine zAb ?_
 refine zAp ?_
 refine zAb ?_
 refine zAa (by exact tokW) (by exact gok) [] [] rfl ?_
 obtain ⟨y5, hy5, h⟩ := zAc h
 refine ⟨_, ⟨_, _, _, _, hy5, rfl, rfl⟩, ?_⟩
 show Tri _ _ _ _
 refine zAe rfl (fun hb => ?_) (fun hb => ?_)
 ·replace h := zAk hb h
  refine zAb ?_
  refine zAa (by exact tokW) (by exact gok) [] [] rfl ?_
  obtain ⟨y6, hy6, h⟩ := zAc h
  refine ⟨_, ⟨_, _, _, hy6, rfl, rfl⟩, ?_⟩
  show Tri _ _ _ _
  refine zAi ?_
  obtain ⟨hj1, hk1⟩ := Prod.mk.inj (Option.some.inj h)
  subst hj1
  subst hk1
  unfold zBV
  exact ⟨_, (Le.rename [(0, 0), (1, 2)] [(8, .s (.sl 4 (Nd.encs y6)))] [(0, .box 47 [.s (.int .i64 o1_take), .orow 2]), (2, .row 52 5 ((List.map zAd) o1_conflicts))] 3 ⟨rfl, trivial⟩ ⟨rfl, ⟨_, rfl, rfl⟩, rfl, ⟨_, rfl, rfl⟩, trivial⟩ rfl rfl rfl rfl rfl), rfl, rfl, rfl, rfl, rfl, rfl, trivial⟩
 ·replace h := zAj hb h
  refine zAb ?_
  obtain ⟨x7, hj, h⟩ := zAc h
  refine zAq ⟨ofL [(0, .op 0 0), (1, .s (.sl 1 ((List.map (irow .i64)) path2))), (2, .s (.int .i64 from3)), (7, .s (.pt [.sl 4 (Nd.encs part4_0), .sl 4 (Nd.encs part4_1), .sl 4 (Nd.encs part4_2)])), (10, .s (.sl 4 (Nd.encs part4_1))), (24, .s (.bool x7))], ofH [(0, .box 47 [.s (.int .i64 o1_take), .orow 2]), (2, .row 52 5 ((List.map zAd) o1_conflicts))], 3⟩ ?_ (fun σ' hle => ?_)
  ·replace h := hj
   refine zAa (by exact tokW) (by exact gok) [] [28] rfl ?_
   obtain ⟨y8, hy8, h⟩ := zAc h
   refine ⟨_, ⟨_, _, _, _, hy8, rfl, rfl⟩, ?_⟩
   intro b hb
   cases b with
   | true =>
    replace h := zAk hb.symm h
    cases h
    exact (Le.rename [(0, 0), (1, 2)] _ _ _ ⟨rfl, rfl, rfl, rfl, rfl, rfl, trivial⟩ ⟨rfl, ⟨_, rfl, rfl⟩, rfl, ⟨_, rfl, rfl⟩, trivial⟩ rfl rfl rfl rfl rfl)
   | false =>
    replace h := zAj hb.symm h
    obtain ⟨y9, hy9, h⟩ := zAc h
    refine ⟨_, ⟨_, _, _, _, hy9, rfl, rfl⟩, ?_⟩
    cases h
    exact (Le.rename [(0, 0), (1, 2)] _ _ _ ⟨rfl, rfl, rfl, rfl, rfl, rfl, trivial⟩ ⟨rfl, ⟨_, rfl, rfl⟩, rfl, ⟨_, rfl, rfl⟩, trivial⟩ rfl rfl rfl rfl rfl)
  ·show Tri _ _ _ _
   refine zAm hle ?_
   refine zAe rfl (fun hb => ?_) (fun hb => ?_)
   ·replace h := zAk hb h
    refine zAb ?_
    refine zAa (by exact tokW) (by exact gok) [] [] rfl ?_
    obtain ⟨y10, hy10, h⟩ := zAc h
    refine ⟨_, ⟨_, _, _, hy10, rfl, rfl⟩, ?_⟩
    show Tri _ _ _ _
    refine zAi ?_
    obtain ⟨hj1, hk1⟩ := Prod.mk.inj (Option.some.inj h)
    subst hj1
    subst hk1
    unfold zBV
    exact ⟨_, (Le.rename [(0, 0), (2, 2)] [(8, .s (.sl 4 (Nd.encs y10)))] [(0, .box 47 [.s (.int .i64 o1_take), .orow 2]), (2, .row 52 5 ((List.map zAd) o1_conflicts))] 3 ⟨rfl, trivial⟩ ⟨rfl, ⟨_, rfl, rfl⟩, rfl, ⟨_, rfl, rfl⟩, trivial⟩ rfl rfl rfl rfl rfl), rfl, rfl, rfl, rfl, rfl, rfl, trivial⟩
   ·replace h := zAj hb h
    refine zAg ?_
    show Tri _ _ _ _
    refine zAb ?_
    refine zAa (by exact tokW) (by exact gok) [] [] rfl ?_
    obtain ⟨⟨y11, ⟨w12_take, w12_conflicts⟩⟩, hy11, h⟩ := zAc h
    refine ⟨_, _, ⟨_, _, _, _, _, _, _, hy11, rfl, rfl, rfl, rfl⟩, ?_⟩
    show Tri _ _ _ _
    refine zAi ?_
    obtain ⟨hj1, hk1⟩ := Prod.mk.inj (Option.some.inj h)
    subst hj1
    subst hk1
    unfold zBV
    exact ⟨_, (Le.rename [(0, 0), (3, 2)] [(8, .s (.sl 4 (Nd.encs y11)))] [(0, .box 47 [.s (.int .i64 w12_take), .orow 2]), (2, .row 52 5 ((List.map zAd) w12_conflicts))] 3 ⟨rfl, trivial⟩ ⟨rfl, ⟨_, rfl, rfl⟩, rfl, ⟨_, rfl, rfl⟩, trivial⟩ rfl rfl rfl rfl rfl), rfl, rfl, rfl, rfl, rfl, rfl, trivial⟩
def zGV (n : Nat) (xs : List AV) (r : Ret) : Prop := ∃ (a0 : List (List Int)) (y0 : List Int), zBM n a0 = some y0 ∧ xs = [.s (.sl 1 ((List.map zAv) a0))] ∧ r = .row 3 1 ((List.map (irow .i64)) y0)
def zEp : zAy := zAI fun xs r => ∃ n, zGV n xs r
theorem zGA : PSound Tryz.prog 66 zEp := by
 have gok : ∀ f s, look? f [(90, zFa)] = some s → PSound Tryz.prog f s := zAA (by
  simp only [List.forall_mem_cons]
  exact ⟨zHD, by simp⟩)
 refine zAM tokW Tryz.call66 Tryz.func66 rfl (fun xs r h => by obtain ⟨n, _, _, _, rfl, _⟩ := h; show 1 ≤ 36; decide) 36 rfl ?_
 rintro xs r w0 G0 ⟨n, slices1, y0, h, rfl, rfl⟩ _
 rw [zBM] at h
 refine zAb ?_
 refine zAa (by exact tokW) (by exact gok) [2] [] rfl ?_
 show Tri _ _ _ _
 refine zAm (Le.rename [] [(0, .s (.sl 1 ((List.map zAv) slices1)))] [] 0 ⟨rfl, trivial⟩ trivial rfl rfl rfl rfl rfl) ?_
 refine zAb ?_
 refine zAa (by exact tokW) (by exact gok) [] [] rfl ?_
 show Tri _ _ _ _
 refine zAb ?_
 refine zAb ?_
 refine zAa (by exact tokW) (by exact gok) [] [10] rfl ?_
 intro n2 hn2
 obtain rfl : (slices1.length : Int) = n2 := (hn2.trans (congrArg (fun m : Nat => (m : Int)) (rlen (fun _ => rfl) slices1))).symm
 show Tri _ _ _ _
 obtain ⟨size5, hl, h⟩ := zAc h
 refine zAq ⟨ofL [(0, .s (.sl 1 ((List.map zAv) slices1))), (3, .s (.int .i64 size5))], fun _ => none, 0⟩ ?_ (fun σ' hle => ?_)
 ·refine zAp (zAJ (X := Nat × Int × Int) (fun y => match y with | (k, x3, size4) => ⟨ofL [(0, .s (.sl 1 ((List.map zAv) slices1))), (3, .s (.int .i64 size4)), (9, .s (.sl 1 ((List.map zAv) slices1))), (10, .s (.int .i64 (slices1.length : Int))), (11, .s (.int .i64 x3))], fun _ => none, 0⟩) (fun y => zAS slices1 y.1 y.2.1 y.2.2 = some size5) (fun y => y.1) (n, 0, 0) hl ?_ ?_)
  ·exact (Le.forget _ ⟨rfl, rfl, rfl, rfl, rfl, trivial⟩)
  ·rintro ⟨k, x3, size4⟩ h
   cases k with
   | zero => cases h
   | succ k =>
    replace h : zAS slices1 (k+1) x3 size4 = some size5 := h
    rw [zAS] at h
    refine zAb ?_
    refine zAa (by exact tokW) (by exact gok) [] [] rfl ?_
    show Tri _ _ _ _
    refine zAb ?_
    refine zAe rfl (fun hb => ?_) (fun hb => ?_)
    ·replace h := zAk hb h
     refine zAg ?_
     show Tri _ _ _ _
     refine zAb ?_
     refine zAp ?_
     refine zAb ?_
     refine zAa (by exact tokW) (by exact gok) [] [13] rfl ?_
     obtain ⟨e6, he6, h⟩ := zAc h
     refine And.intro (zAw (fun _ => rfl) he6).1 ?_
     intro r7 hr7
     obtain rfl : [.sl 1 ((List.map (irow .i64)) e6)] = r7 := (hr7.trans (zAw (fun _ => rfl) he6).2.1).symm
     show Tri _ _ _ _
     refine zAb ?_
     refine zAa (by exact tokW) (by exact gok) [] [17] rfl ?_
     intro n8 hn8
     obtain rfl : (e6.length : Int) = n8 := (hn8.trans (congrArg (fun m : Nat => (m : Int)) (rlen (fun _ => rfl) e6))).symm
     show Tri _ _ _ _
     refine zAb ?_
     refine zAa (by exact tokW) (by exact gok) [] [] rfl ?_
     show Tri _ _ _ _
     refine zAe rfl (fun hb => ?_) (fun hb => ?_)
     ·replace h := zAk hb h
      cases h
     ·replace h := zAj hb h
      refine zAg ?_
      show Tri _ _ _ _
      refine zAa (by exact tokW) (by exact gok) [] [] rfl ?_
      refine ⟨(k, IntKind.i64.wrap (x3 + 1), IntKind.i64.wrap (size4 + (e6.length : Int))), h, (Le.forget _ ⟨rfl, rfl, rfl, rfl, rfl, trivial⟩), Nat.lt_succ_self k⟩
    ·replace h := zAj hb h
     refine zAL ?_
     cases h
     exact (Le.forget _ ⟨rfl, rfl, trivial⟩)
 ·show Tri _ _ _ _
  refine zAm hle ?_
  refine zAb ?_
  refine zAa (by exact tokW) (by exact gok) [24] [] rfl ?_
  obtain ⟨y9, hy9, h⟩ := zAc h
  refine ⟨_, ⟨_, _, hy9, rfl, rfl⟩, ?_⟩
  show Tri _ _ _ _
  refine zAb ?_
  refine zAb ?_
  refine zAa (by exact tokW) (by exact gok) [] [26] rfl ?_
  intro n10 hn10
  obtain rfl : (slices1.length : Int) = n10 := (hn10.trans (congrArg (fun m : Nat => (m : Int)) (rlen (fun _ => rfl) slices1))).symm
  show Tri _ _ _ _
  obtain ⟨l14, hl, h⟩ := zAc h
  refine zAq ⟨ofL [(6, .orow 0)], ofH [(0, .row 3 1 ((List.map (irow .i64)) l14))], 1⟩ ?_ (fun σ' hle => ?_)
  ·refine zAp (zAJ (X := Nat × Int × (List Int)) (fun y => match y with | (k, x11, l13) => ⟨ofL [(6, .orow 0), (25, .s (.sl 1 ((List.map zAv) slices1))), (26, .s (.int .i64 (slices1.length : Int))), (27, .s (.int .i64 x11))], ofH [(0, .row 3 1 ((List.map (irow .i64)) l13))], 1⟩) (fun y => zAT slices1 y.1 y.2.1 y.2.2 = some l14) (fun y => y.1) (n, 0, y9) hl ?_ ?_)
   ·exact (Le.rename [(0, 0)] _ _ _ ⟨rfl, rfl, rfl, rfl, trivial⟩ ⟨rfl, ⟨_, rfl, rfl⟩, trivial⟩ rfl rfl rfl rfl rfl)
   ·rintro ⟨k, x11, l13⟩ h
    cases k with
    | zero => cases h
    | succ k =>
     replace h : zAT slices1 (k+1) x11 l13 = some l14 := h
     rw [zAT] at h
     refine zAb ?_
     refine zAa (by exact tokW) (by exact gok) [] [] rfl ?_
     show Tri _ _ _ _
     refine zAb ?_
     refine zAe rfl (fun hb => ?_) (fun hb => ?_)
     ·replace h := zAk hb h
      refine zAg ?_
      show Tri _ _ _ _
      refine zAb ?_
      refine zAp ?_
      refine zAb ?_
      refine zAa (by exact tokW) (by exact gok) [] [29] rfl ?_
      obtain ⟨e15, he15, h⟩ := zAc h
      refine And.intro (zAw (fun _ => rfl) he15).1 ?_
      intro r16 hr16
      obtain rfl : [.sl 1 ((List.map (irow .i64)) e15)] = r16 := (hr16.trans (zAw (fun _ => rfl) he15).2.1).symm
      show Tri _ _ _ _
      refine zAa (by exact tokW) (by exact gok) [33] [] rfl ?_
      obtain ⟨hq, h⟩ := zAN h
      refine And.intro (show (((List.map (irow .i64)) l13).length + ((List.map (irow .i64)) e15).length) * 8 ≤ 140737488355328 ∧ ((List.map (irow .i64)) l13).length + ((List.map (irow .i64)) e15).length ≤ 9223372036854775807 from by simp only [List.length_append, List.length_cons, List.length_nil, List.length_map, rlen (fun _ => rfl)] at hq ⊢; omega) ?_
      show Tri _ _ _ _
      refine zAm (Le.rename [(1, 0)] [(6, .orow 0), (25, .s (.sl 1 ((List.map zAv) slices1))), (26, .s (.int .i64 (slices1.length : Int))), (27, .s (.int .i64 x11))] [(0, .row 3 1 ((List.map (irow .i64)) (l13 ++ e15)))] 1 ⟨rfl, rfl, rfl, rfl, trivial⟩ ⟨rfl, ⟨_, rfl, congrArg (Ob.row 3 1) (by simp [List.map_append, List.map_take, List.map_drop, irow, brow, zAK, List.map_cons, List.map_nil, zAD, Nd.encs_eq, Nd.enc, zAn, zAh, zAl, zAu, zAv, zAr, zAB, zAd, zAz, zAt])⟩, trivial⟩ rfl rfl rfl rfl rfl) ?_
      refine zAa (by exact tokW) (by exact gok) [] [] rfl ?_
      refine ⟨(k, IntKind.i64.wrap (x11 + 1), l13 ++ e15), h, (Le.rename [(0, 0)] _ _ _ ⟨rfl, rfl, rfl, rfl, trivial⟩ ⟨rfl, ⟨_, rfl, rfl⟩, trivial⟩ rfl rfl rfl rfl rfl), Nat.lt_succ_self k⟩
     ·replace h := zAj hb h
      refine zAL ?_
      cases h
      exact (Le.rename [(0, 0)] _ _ _ ⟨rfl, trivial⟩ ⟨rfl, ⟨_, rfl, rfl⟩, trivial⟩ rfl rfl rfl rfl rfl)
  ·show Tri _ _ _ _
   refine zAm hle ?_
   refine zAb ?_
   refine zAa (by exact tokW) (by exact gok) [] [] rfl ?_
   show Tri _ _ _ _
   refine zAi ?_
   have hy := Option.some.inj h
   subst hy
   unfold zAG
   exact ⟨_, Le.refl _ _, 0, rfl, rfl⟩
def zBW (n : Nat) (xs : List AV) (os : List Ob) (x : AV) (os' : List (Option Ob)) : Prop := ∃ (a0 : (Int × List (List Int × Int × Int × List Nd × List Nd))) (a1 : List Int) (a2 : Int) (a3 : Nd) (a4 : Nd) (a5 : Nd) (y0 : List Nd) (z0 : (Int × List (List Int × Int × Int × List Nd × List Nd))), zA9 n a0 a1 a2 a3 a4 a5 = some (y0, z0) ∧ xs = [.op 0 0, .s (.sl 1 ((List.map (irow .i64)) a1)), .s (.int .i64 a2), .agg ((Nd.enc a3).map .s), .agg ((Nd.enc a4).map .s), .agg ((Nd.enc a5).map .s)] ∧ os = [.box 47 (((zAt a0).map .s).set 1 (.orow 1)), .row 52 5 ((List.map zAd) a0.2)] ∧ x = .s (.sl 4 (Nd.encs y0)) ∧ os' = [some (.box 47 (((zAt z0).map .s).set 1 (.orow 2))), none, some (.row 52 5 ((List.map zAd) z0.2))]
def zBJ (n : Nat) (xs : List AV) (os : List Ob) (x : AV) (os' : List (Option Ob)) : Prop := ∃ (a0 : (Int × List (List Int × Int × Int × List Nd × List Nd))) (a1 : List Int) (a2 : List Nd) (a3 : List Nd) (a4 : List Nd) (y0 : List Nd) (z0 : (Int × List (List Int × Int × Int × List Nd × List Nd))), zAY n a0 a1 a2 a3 a4 = some (y0, z0) ∧ xs = [.op 0 0, .s (.sl 1 ((List.map (irow .i64)) a1)), .s (.sl 4 (Nd.encs a2)), .s (.sl 4 (Nd.encs a3)), .s (.sl 4 (Nd.encs a4))] ∧ os = [.box 47 (((zAt a0).map .s).set 1 (.orow 1)), .row 52 5 ((List.map zAd) a0.2)] ∧ x = .orow 3 ∧ os' = [some (.box 47 (((zAt z0).map .s).set 1 (.orow 2))), none, some (.row 52 5 ((List.map zAd) z0.2)), some (.row 24 4 (Nd.encs y0))]
theorem zGc (n : Nat) (ih_merge_merger_item : PSound Tryz.prog 42 (zCm (zBW n))) (ih_merge_merger_row : PSound Tryz.prog 28 (zCm (zBJ n))) : PSound Tryz.prog 42 (zCm (zBW (n + 1))) := by
 have gok : ∀ f s, look? f [(65, zCv), (66, zEp), (28, zCm (zBJ n))] = some s → PSound Tryz.prog f s := zAA (by
  simp only [List.forall_mem_cons]
  exact ⟨zDD, zGA, ih_merge_merger_row, by simp⟩)
 refine PSound.withNil (zFj tokW Tryz.call42 Tryz.func42 rfl (fun xs os x os' h => by obtain ⟨_, _, _, _, _, _, _, _, _, rfl, rfl, _, rfl⟩ := h; exact ⟨by show 6 ≤ 99; decide, by show 2 ≤ 3; decide⟩) 99 rfl ?_) _
 rintro xs os x os' w0 G0 B0 ⟨⟨o1_take, o1_conflicts⟩, a2, a3, ⟨a4_kind, a4_text, a4_cols, a4_kids⟩, ⟨a5_kind, a5_text, a5_cols, a5_kids⟩, ⟨a6_kind, a6_text, a6_cols, a6_kids⟩, y0, z0, h, rfl, rfl, rfl, rfl⟩ _
 rw [zA9] at h
 refine zAb ?_
 refine zAa (by exact tokW) (by exact gok) [] [] rfl ?_
 show Tri _ _ _ _
 refine zAb ?_
 refine zAa (by exact tokW) (by exact gok) [13] [] rfl ?_
 show Tri _ _ _ _
 refine zAb ?_
 obtain ⟨fl, hj, ho1⟩ := zAc h
 refine zCY (fl := fl) (fun z => match z with | x7 => ⟨ofL [(0, .op 0 0), (1, .s (.sl 1 ((List.map (irow .i64)) a2))), (2, .s (.int .i64 a3)), (9, .s (.pt [.int .i64 a4_kind, .str a4_text, .int .i64 a4_cols, .sl 4 (Nd.encs a4_kids)])), (10, .s (.pt [.int .i64 a5_kind, .str a5_text, .int .i64 a5_cols, .sl 4 (Nd.encs a5_kids)])), (11, .s (.pt [.int .i64 a6_kind, .str a6_text, .int .i64 a6_cols, .sl 4 (Nd.encs a6_kids)])), (13, .op 3 0)], ofH [(0, .box 47 [.s (.int .i64 o1_take), .orow 2]), (2, .row 52 5 ((List.map zAd) o1_conflicts)), (3, .box 24 [.s (.int .i64 a4_kind), .s (.str x7), .s (.int .i64 a4_cols), .nl 4])], 4⟩) ?_ (fun x7 σ' hz hle => ?_)
 ·replace h := hj
  refine zAp ?_
  refine zAb ?_
  refine zAa (by exact tokW) (by exact gok) [] [] rfl ?_
  show Tri _ _ _ _
  refine zAe rfl (fun hb => ?_) (fun hb => ?_)
  ·replace h := zAk hb h
   refine zAa (by exact tokW) (by exact gok) [] [] rfl ?_
   cases h
   exact ⟨_, rfl, (Le.rename [(0, 0), (1, 2), (2, 3)] _ _ _ ⟨rfl, rfl, rfl, rfl, rfl, rfl, rfl, trivial⟩ ⟨rfl, ⟨_, rfl, rfl⟩, rfl, ⟨_, rfl, rfl⟩, rfl, ⟨_, rfl, rfl⟩, trivial⟩ rfl rfl rfl rfl rfl)⟩
  ·replace h := zAj hb h
   refine zAb ?_
   obtain ⟨x8, hj, h⟩ := zAc h
   refine zAq ⟨ofL [(0, .op 0 0), (1, .s (.sl 1 ((List.map (irow .i64)) a2))), (2, .s (.int .i64 a3)), (9, .s (.pt [.int .i64 a4_kind, .str a4_text, .int .i64 a4_cols, .sl 4 (Nd.encs a4_kids)])), (10, .s (.pt [.int .i64 a5_kind, .str a5_text, .int .i64 a5_cols, .sl 4 (Nd.encs a5_kids)])), (11, .s (.pt [.int .i64 a6_kind, .str a6_text, .int .i64 a6_cols, .sl 4 (Nd.encs a6_kids)])), (13, .op 3 0), (41, .s (.bool x8))], ofH [(0, .box 47 [.s (.int .i64 o1_take), .orow 2]), (2, .row 52 5 ((List.map zAd) o1_conflicts)), (3, .box 24 [.s (.int .i64 a4_kind), .s (.str []), .s (.int .i64 a4_cols), .nl 4])], 4⟩ ?_ (fun σ' hle => ?_)
   ·replace h := hj
    refine zAa (by exact tokW) (by exact gok) [] [47] rfl ?_
    intro b hb
    cases b with
    | true =>
     replace h := zAk hb.symm h
     cases h
     exact (Le.rename [(0, 0), (1, 2), (2, 3)] _ _ _ ⟨rfl, rfl, rfl, rfl, rfl, rfl, rfl, rfl, trivial⟩ ⟨rfl, ⟨_, rfl, rfl⟩, rfl, ⟨_, rfl, rfl⟩, rfl, ⟨_, rfl, rfl⟩, trivial⟩ rfl rfl rfl rfl rfl)
    | false =>
     replace h := zAj hb.symm h
     cases h
     exact (Le.rename [(0, 0), (1, 2), (2, 3)] _ _ _ ⟨rfl, rfl, rfl, rfl, rfl, rfl, rfl, rfl, trivial⟩ ⟨rfl, ⟨_, rfl, rfl⟩, rfl, ⟨_, rfl, rfl⟩, rfl, ⟨_, rfl, rfl⟩, trivial⟩ rfl rfl rfl rfl rfl)
   ·show Tri _ _ _ _
    refine zAm hle ?_
    refine zAe rfl (fun hb => ?_) (fun hb => ?_)
    ·replace h := zAk hb h
     refine zAa (by exact tokW) (by exact gok) [] [] rfl ?_
     cases h
     exact ⟨_, rfl, (Le.rename [(0, 0), (2, 2), (3, 3)] _ _ _ ⟨rfl, rfl, rfl, rfl, rfl, rfl, rfl, trivial⟩ ⟨rfl, ⟨_, rfl, rfl⟩, rfl, ⟨_, rfl, rfl⟩, rfl, ⟨_, rfl, rfl⟩, trivial⟩ rfl rfl rfl rfl rfl)⟩
    ·replace h := zAj hb h
     refine zAb ?_
     refine zAa (by exact tokW) (by exact gok) [] [25, 27, 29] rfl ?_
     intro r9 hr9
     obtain rfl : Nd.encs [Nd.mk a4_kind a4_text a4_cols a4_kids] = r9 := (hr9.trans (by simp [List.map_append, List.map_take, List.map_drop, irow, brow, zAK, List.map_cons, List.map_nil, zAD, Nd.encs_eq, Nd.enc, zAn, zAh, zAl, zAu, zAv, zAr, zAB, zAd, zAz, zAt])).symm
     intro r10 hr10
     obtain rfl : Nd.encs [Nd.mk a5_kind a5_text a5_cols a5_kids] = r10 := (hr10.trans (by simp [List.map_append, List.map_take, List.map_drop, irow, brow, zAK, List.map_cons, List.map_nil, zAD, Nd.encs_eq, Nd.enc, zAn, zAh, zAl, zAu, zAv, zAr, zAB, zAd, zAz, zAt])).symm
     intro r11 hr11
     obtain rfl : Nd.encs [Nd.mk a6_kind a6_text a6_cols a6_kids] = r11 := (hr11.trans (by simp [List.map_append, List.map_take, List.map_drop, irow, brow, zAK, List.map_cons, List.map_nil, zAD, Nd.encs_eq, Nd.enc, zAn, zAh, zAl, zAu, zAv, zAr, zAB, zAd, zAz, zAt])).symm
     obtain ⟨⟨y12, ⟨w13_take, w13_conflicts⟩⟩, hy12, h⟩ := zAc h
     refine ⟨_, _, ⟨_, _, _, _, _, _, _, hy12, rfl, rfl, rfl, rfl⟩, ?_⟩
     show Tri _ _ _ _
     refine zAi ?_
     cases h
     replace h : some _ = some _ := ho1
     obtain ⟨hj1, hk1⟩ := Prod.mk.inj (Option.some.inj h)
     subst hj1
     subst hk1
     unfold zBV
     exact ⟨_, (Le.rename [(0, 0), (4, 2)] [(12, .s (.sl 4 (Nd.encs y12)))] [(0, .box 47 [.s (.int .i64 w13_take), .orow 2]), (2, .row 52 5 ((List.map zAd) w13_conflicts))] 3 ⟨rfl, trivial⟩ ⟨rfl, ⟨_, rfl, rfl⟩, rfl, ⟨_, rfl, rfl⟩, trivial⟩ rfl rfl rfl rfl rfl), rfl, rfl, rfl, rfl, rfl, rfl, trivial⟩
 ·subst hz
  replace h := ho1
  show Tri _ _ _ _
  refine zAm hle ?_
  refine zAb ?_
  refine zAb ?_
  refine zAa (by exact tokW) (by exact gok) [] [59] rfl ?_
  intro n14 hn14
  obtain rfl : (a4_kids.length : Int) = n14 := (hn14.trans (congrArg (fun m : Nat => (m : Int)) (rlen Nd.encs_eq a4_kids))).symm
  show Tri _ _ _ _
  obtain ⟨⟨x21, l22, l23⟩, hl, h⟩ := zAc h
  refine zAq ⟨ofL [(13, .op 3 0)], ofH [(0, .box 47 [.s (.int .i64 x21), .orow 2]), (2, .row 52 5 ((List.map zAd) l22)), (3, .box 24 [.s (.int .i64 a4_kind), .s (.str x7), .s (.int .i64 a4_cols), .orow 4]), (4, .row 24 4 (Nd.encs l23))], 5⟩ ?_ (fun σ' hle => ?_)
  ·refine zAp (zAJ (X := Nat × Int × Int × (List (List Int × Int × Int × List Nd × List Nd)) × (List Nd)) (fun y => match y with | (k, x15, x18, l19, l20) => ⟨ofL [(0, .op 0 0), (1, .s (.sl 1 ((List.map (irow .i64)) a2))), (2, .s (.int .i64 a3)), (9, .s (.pt [.int .i64 a4_kind, .str a4_text, .int .i64 a4_cols, .sl 4 (Nd.encs a4_kids)])), (10, .s (.pt [.int .i64 a5_kind, .str a5_text, .int .i64 a5_cols, .sl 4 (Nd.encs a5_kids)])), (11, .s (.pt [.int .i64 a6_kind, .str a6_text, .int .i64 a6_cols, .sl 4 (Nd.encs a6_kids)])), (13, .op 3 0), (59, .s (.int .i64 (a4_kids.length : Int))), (60, .s (.int .i64 x18))], ofH [(0, .box 47 [.s (.int .i64 x15), .orow 2]), (2, .row 52 5 ((List.map zAd) l19)), (3, .box 24 [.s (.int .i64 a4_kind), .s (.str x7), .s (.int .i64 a4_cols), .orow 4]), (4, .row 24 4 (Nd.encs l20))], 5⟩) (fun y => zA0 (zAY n) n a2 a3 a4_kids a5_kids a6_kids y.1 y.2.1 y.2.2.1 y.2.2.2.1 y.2.2.2.2 = some (x21, l22, l23)) (fun y => y.1) (n, o1_take, 0, o1_conflicts, []) hl ?_ ?_)
   ·exact (Le.trans (Le.trans (Le.rename [(0, 0), (2, 2), (3, 3)] [(0, .op 0 0), (1, .s (.sl 1 ((List.map (irow .i64)) a2))), (2, .s (.int .i64 a3)), (9, .s (.pt [.int .i64 a4_kind, .str a4_text, .int .i64 a4_cols, .sl 4 (Nd.encs a4_kids)])), (10, .s (.pt [.int .i64 a5_kind, .str a5_text, .int .i64 a5_cols, .sl 4 (Nd.encs a5_kids)])), (11, .s (.pt [.int .i64 a6_kind, .str a6_text, .int .i64 a6_cols, .sl 4 (Nd.encs a6_kids)])), (13, .op 3 0), (59, .s (.int .i64 (a4_kids.length : Int))), (60, .s (.int .i64 0))] [(0, .box 47 [.s (.int .i64 o1_take), .orow 2]), (2, .row 52 5 ((List.map zAd) o1_conflicts)), (3, .box 24 [.s (.int .i64 a4_kind), .s (.str x7), .s (.int .i64 a4_cols), .nl 4])] 4 ⟨rfl, rfl, rfl, rfl, rfl, rfl, rfl, rfl, rfl, trivial⟩ ⟨rfl, ⟨_, rfl, rfl⟩, rfl, ⟨_, rfl, rfl⟩, rfl, ⟨_, rfl, rfl⟩, trivial⟩ rfl rfl rfl rfl rfl) (Le.takeNil 3 3 24 rfl rfl (by decide))) (Le.rename [(0, 0), (2, 2), (3, 3), (4, 4)] _ _ _ ⟨rfl, rfl, rfl, rfl, rfl, rfl, rfl, rfl, rfl, trivial⟩ ⟨rfl, ⟨_, rfl, rfl⟩, rfl, ⟨_, rfl, rfl⟩, rfl, ⟨_, rfl, rfl⟩, rfl, ⟨_, rfl, congrArg (Ob.row 24 4) (by simp [List.map_append, List.map_take, List.map_drop, irow, brow, zAK, List.map_cons, List.map_nil, zAD, Nd.encs_eq, Nd.enc, zAn, zAh, zAl, zAu, zAv, zAr, zAB, zAd, zAz, zAt])⟩, trivial⟩ rfl rfl rfl rfl rfl))
   ·rintro ⟨k, x15, x18, l19, l20⟩ h
    cases k with
    | zero => cases h
    | succ k =>
     replace h : zA0 (zAY n) n a2 a3 a4_kids a5_kids a6_kids (k+1) x15 x18 l19 l20 = some (x21, l22, l23) := h
     rw [zA0] at h
     refine zAb ?_
     refine zAa (by exact tokW) (by exact gok) [] [] rfl ?_
     show Tri _ _ _ _
     refine zAb ?_
     refine zAe rfl (fun hb => ?_) (fun hb => ?_)
     ·replace h := zAk hb h
      refine zAg ?_
      show Tri _ _ _ _
      refine zAb ?_
      refine zAp ?_
      refine zAb ?_
      refine zAa (by exact tokW) (by exact gok) [] [] rfl ?_
      show Tri _ _ _ _
      refine zAb ?_
      refine zAC (by exact tokW) (by exact gok) (by exact mixed) [] [67, 68, 73, 79, 85] [25] rfl (by decide +kernel) ?_
      intro r24 hr24
      obtain rfl : (List.map (irow .i64)) [a3, x18] = r24 := (hr24.trans (by simp [List.map_append, List.map_take, List.map_drop, irow, brow, zAK, List.map_cons, List.map_nil, zAD, Nd.encs_eq, Nd.enc, zAn, zAh, zAl, zAu, zAv, zAr, zAB, zAd, zAz, zAt])).symm
      intro r25 hr25
      obtain rfl : (List.map zAv) [a2, [a3, x18]] = r25 := (hr25.trans (by simp [List.map_append, List.map_take, List.map_drop, irow, brow, zAK, List.map_cons, List.map_nil, zAD, Nd.encs_eq, Nd.enc, zAn, zAh, zAl, zAu, zAv, zAr, zAB, zAd, zAz, zAt])).symm
      obtain ⟨y26, hy26, h⟩ := zAc h
      refine ⟨_, ⟨_, _, _, hy26, rfl, rfl⟩, ?_⟩
      obtain ⟨⟨e27_kind, e27_text, e27_cols, e27_kids⟩, he27, h⟩ := zAc h
      refine And.intro (zAw Nd.encs_eq he27).1 ?_
      intro r28 hr28
      obtain rfl : [.int .i64 e27_kind, .str e27_text, .int .i64 e27_cols, .sl 4 (Nd.encs e27_kids)] = r28 := (hr28.trans (zAw Nd.encs_eq he27).2.1).symm
      obtain ⟨⟨e29_kind, e29_text, e29_cols, e29_kids⟩, he29, h⟩ := zAc h
      refine And.intro (zAw Nd.encs_eq he29).1 ?_
      intro r30 hr30
      obtain rfl : [.int .i64 e29_kind, .str e29_text, .int .i64 e29_cols, .sl 4 (Nd.encs e29_kids)] = r30 := (hr30.trans (zAw Nd.encs_eq he29).2.1).symm
      obtain ⟨⟨e31_kind, e31_text, e31_cols, e31_kids⟩, he31, h⟩ := zAc h
      refine And.intro (zAw Nd.encs_eq he31).1 ?_
      intro r32 hr32
      obtain rfl : [.int .i64 e31_kind, .str e31_text, .int .i64 e31_cols, .sl 4 (Nd.encs e31_kids)] = r32 := (hr32.trans (zAw Nd.encs_eq he31).2.1).symm
      obtain ⟨⟨y33, ⟨w34_take, w34_conflicts⟩⟩, hy33, h⟩ := zAc h
      refine ⟨_, _, ⟨_, _, _, _, _, _, _, hy33, rfl, rfl, rfl, rfl⟩, ?_⟩
      show Tri _ _ _ _
      refine zAm (Le.trans (Le.rename [(0, 0), (5, 2), (3, 3), (4, 4), (6, 5)] [(0, .op 0 0), (1, .s (.sl 1 ((List.map (irow .i64)) a2))), (2, .s (.int .i64 a3)), (9, .s (.pt [.int .i64 a4_kind, .str a4_text, .int .i64 a4_cols, .sl 4 (Nd.encs a4_kids)])), (10, .s (.pt [.int .i64 a5_kind, .str a5_text, .int .i64 a5_cols, .sl 4 (Nd.encs a5_kids)])), (11, .s (.pt [.int .i64 a6_kind, .str a6_text, .int .i64 a6_cols, .sl 4 (Nd.encs a6_kids)])), (13, .op 3 0), (15, .orow 5), (59, .s (.int .i64 (a4_kids.length : Int))), (60, .s (.int .i64 x18))] [(0, .box 47 [.s (.int .i64 w34_take), .orow 2]), (2, .row 52 5 ((List.map zAd) w34_conflicts)), (3, .box 24 [.s (.int .i64 a4_kind), .s (.str x7), .s (.int .i64 a4_cols), .orow 4]), (4, .row 24 4 (Nd.encs l20)), (5, .row 24 4 (Nd.encs y33))] 6 ⟨rfl, rfl, rfl, rfl, rfl, rfl, rfl, rfl, rfl, rfl, trivial⟩ ⟨rfl, ⟨_, rfl, rfl⟩, rfl, ⟨_, rfl, rfl⟩, rfl, ⟨_, rfl, rfl⟩, rfl, ⟨_, rfl, rfl⟩, rfl, ⟨_, rfl, rfl⟩, trivial⟩ rfl rfl rfl rfl rfl) (Le.giveRow 5 rfl)) ?_
      refine zAa (by exact tokW) (by exact gok) [94] [93] rfl ?_
      intro r35 hr35
      obtain rfl : Nd.encs [Nd.mk 1 [] 0 y33] = r35 := (hr35.trans (by simp [List.map_append, List.map_take, List.map_drop, irow, brow, zAK, List.map_cons, List.map_nil, zAD, Nd.encs_eq, Nd.enc, zAn, zAh, zAl, zAu, zAv, zAr, zAB, zAd, zAz, zAt])).symm
      obtain ⟨hq, h⟩ := zAN h
      refine And.intro (show ((Nd.encs l20).length + (Nd.encs [Nd.mk 1 [] 0 y33]).length) * 56 ≤ 140737488355328 ∧ (Nd.encs l20).length + (Nd.encs [Nd.mk 1 [] 0 y33]).length ≤ 9223372036854775807 from by simp only [List.length_append, List.length_cons, List.length_nil, List.length_map, rlen Nd.encs_eq] at hq ⊢; omega) ?_
      show Tri _ _ _ _
      refine zAm (Le.rename [(0, 0), (2, 2), (3, 3), (6, 4)] [(0, .op 0 0), (1, .s (.sl 1 ((List.map (irow .i64)) a2))), (2, .s (.int .i64 a3)), (9, .s (.pt [.int .i64 a4_kind, .str a4_text, .int .i64 a4_cols, .sl 4 (Nd.encs a4_kids)])), (10, .s (.pt [.int .i64 a5_kind, .str a5_text, .int .i64 a5_cols, .sl 4 (Nd.encs a5_kids)])), (11, .s (.pt [.int .i64 a6_kind, .str a6_text, .int .i64 a6_cols, .sl 4 (Nd.encs a6_kids)])), (13, .op 3 0), (59, .s (.int .i64 (a4_kids.length : Int))), (60, .s (.int .i64 x18))] [(0, .box 47 [.s (.int .i64 w34_take), .orow 2]), (2, .row 52 5 ((List.map zAd) w34_conflicts)), (3, .box 24 [.s (.int .i64 a4_kind), .s (.str x7), .s (.int .i64 a4_cols), .orow 4]), (4, .row 24 4 (Nd.encs (l20 ++ [Nd.mk 1 [] 0 y33])))] 5 ⟨rfl, rfl, rfl, rfl, rfl, rfl, rfl, rfl, rfl, trivial⟩ ⟨rfl, ⟨_, rfl, rfl⟩, rfl, ⟨_, rfl, rfl⟩, rfl, ⟨_, rfl, rfl⟩, rfl, ⟨_, rfl, congrArg (Ob.row 24 4) (by simp [List.map_append, List.map_take, List.map_drop, irow, brow, zAK, List.map_cons, List.map_nil, zAD, Nd.encs_eq, Nd.enc, zAn, zAh, zAl, zAu, zAv, zAr, zAB, zAd, zAz, zAt])⟩, trivial⟩ rfl rfl rfl rfl rfl) ?_
      refine zAa (by exact tokW) (by exact gok) [] [] rfl ?_
      refine ⟨(k, w34_take, IntKind.i64.wrap (x18 + 1), w34_conflicts, l20 ++ [Nd.mk 1 [] 0 y33]), h, (Le.rename [(0, 0), (2, 2), (3, 3), (4, 4)] _ _ _ ⟨rfl, rfl, rfl, rfl, rfl, rfl, rfl, rfl, rfl, trivial⟩ ⟨rfl, ⟨_, rfl, rfl⟩, rfl, ⟨_, rfl, rfl⟩, rfl, ⟨_, rfl, rfl⟩, rfl, ⟨_, rfl, rfl⟩, trivial⟩ rfl rfl rfl rfl rfl), Nat.lt_succ_self k⟩
     ·replace h := zAj hb h
      refine zAL ?_
      cases h
      exact (Le.rename [(0, 0), (2, 2), (3, 3), (4, 4)] _ _ _ ⟨rfl, trivial⟩ ⟨rfl, ⟨_, rfl, rfl⟩, rfl, ⟨_, rfl, rfl⟩, rfl, ⟨_, rfl, rfl⟩, rfl, ⟨_, rfl, rfl⟩, trivial⟩ rfl rfl rfl rfl rfl)
  ·show Tri _ _ _ _
   refine zAm hle ?_
   refine zAb ?_
   refine zAm (Le.trans (Le.rename [(0, 0), (2, 2), (3, 3), (4, 4)] [(13, .op 3 0)] [(0, .box 47 [.s (.int .i64 x21), .orow 2]), (2, .row 52 5 ((List.map zAd) l22)), (3, .box 24 [.s (.int .i64 a4_kind), .s (.str x7), .s (.int .i64 a4_cols), .orow 4]), (4, .row 24 4 (Nd.encs l23))] 5 ⟨rfl, trivial⟩ ⟨rfl, ⟨_, rfl, rfl⟩, rfl, ⟨_, rfl, rfl⟩, rfl, ⟨_, rfl, rfl⟩, rfl, ⟨_, rfl, rfl⟩, trivial⟩ rfl rfl rfl rfl rfl) (Le.giveRow 4 rfl)) ?_
   refine zAm (Le.trans (Le.rename [(0, 0), (2, 2), (3, 3)] [(13, .op 3 0)] [(0, .box 47 [.s (.int .i64 x21), .orow 2]), (2, .row 52 5 ((List.map zAd) l22)), (3, .box 24 [.s (.int .i64 a4_kind), .s (.str x7), .s (.int .i64 a4_cols), .s (.sl 4 (Nd.encs l23))])] 4 ⟨rfl, trivial⟩ ⟨rfl, ⟨_, rfl, rfl⟩, rfl, ⟨_, rfl, rfl⟩, rfl, ⟨_, rfl, rfl⟩, trivial⟩ rfl rfl rfl rfl rfl) (Le.giveBox 3 [.int .i64 a4_kind, .str x7, .int .i64 a4_cols, .sl 4 (Nd.encs l23)] rfl rfl)) ?_
   refine zAa (by exact tokW) (by exact gok) [] [98] rfl ?_
   intro r36 hr36
   obtain rfl : Nd.encs [Nd.mk a4_kind x7 a4_cols l23] = r36 := (hr36.trans (by simp [List.map_append, List.map_take, List.map_drop, irow, brow, zAK, List.map_cons, List.map_nil, zAD, Nd.encs_eq, Nd.enc, zAn, zAh, zAl, zAu, zAv, zAr, zAB, zAd, zAz, zAt])).symm
   show Tri _ _ _ _
   refine zAi ?_
   obtain ⟨hj1, hk1⟩ := Prod.mk.inj (Option.some.inj h)
   subst hj1
   subst hk1
   unfold zBV
   exact ⟨_, (Le.rename [(0, 0), (2, 2)] [(12, .s (.sl 4 (Nd.encs [Nd.mk a4_kind x7 a4_cols l23])))] [(0, .box 47 [.s (.int .i64 x21), .orow 2]), (2, .row 52 5 ((List.map zAd) l22))] 3 ⟨rfl, trivial⟩ ⟨rfl, ⟨_, rfl, rfl⟩, rfl, ⟨_, rfl, rfl⟩, trivial⟩ rfl rfl rfl rfl rfl), rfl, rfl, rfl, rfl, rfl, rfl, trivial⟩
theorem zGM (n : Nat) (ih_merge_merger_item : PSound Tryz.prog 42 (zCm (zBW n))) (ih_merge_merger_row : PSound Tryz.prog 28 (zCm (zBJ n))) : PSound Tryz.prog 28 (zCm (zBJ (n + 1))) := by
 have gok : ∀ f s, look? f [(40, zF9), (41, zEI), (42, zCm (zBW n))] = some s → PSound Tryz.prog f s := zAA (by
  simp only [List.forall_mem_cons]
  exact ⟨zIx, zGW, ih_merge_merger_item, by simp⟩)
 refine PSound.withNil (zFj tokW Tryz.call28 Tryz.func28 rfl (fun xs os x os' h => by obtain ⟨_, _, _, _, _, _, _, _, rfl, rfl, _, rfl⟩ := h; exact ⟨by show 5 ≤ 121; decide, by show 2 ≤ 4; decide⟩) 121 rfl ?_) _
 rintro xs os x os' w0 G0 B0 ⟨⟨o1_take, o1_conflicts⟩, a2, a3, a4, a5, y0, z0, h, rfl, rfl, rfl, rfl⟩ _
 rw [zAY] at h
 refine zAb ?_
 refine zAa (by exact tokW) (by exact gok) [10] [] rfl ?_
 show Tri _ _ _ _
 refine zAm (Le.rename [(0, 0), (1, 2)] [(0, .op 0 0), (1, .s (.sl 1 ((List.map (irow .i64)) a2))), (2, .s (.sl 4 (Nd.encs a3))), (3, .s (.sl 4 (Nd.encs a4))), (4, .s (.sl 4 (Nd.encs a5)))] [(0, .box 47 [.s (.int .i64 o1_take), .orow 2]), (2, .row 52 5 ((List.map zAd) o1_conflicts))] 3 ⟨rfl, rfl, rfl, rfl, rfl, trivial⟩ ⟨rfl, ⟨_, rfl, rfl⟩, rfl, ⟨_, rfl, rfl⟩, trivial⟩ rfl rfl rfl rfl rfl) ?_
 refine zAb ?_
 refine zAa (by exact tokW) (by exact gok) [] [] rfl ?_
 obtain ⟨y6, hy6, h⟩ := zAc h
 refine ⟨_, ⟨_, _, _, _, hy6, rfl, rfl⟩, ?_⟩
 obtain ⟨y7, hy7, h⟩ := zAc h
 refine ⟨_, ⟨_, _, _, _, hy7, rfl, rfl⟩, ?_⟩
 show Tri _ _ _ _
 refine zAb ?_
 refine zAa (by exact tokW) (by exact gok) [13] [] rfl ?_
 show Tri _ _ _ _
 refine zAm (Le.rename [(0, 0), (2, 2), (3, 3)] [(0, .op 0 0), (1, .s (.sl 1 ((List.map (irow .i64)) a2))), (2, .s (.sl 4 (Nd.encs a3))), (3, .s (.sl 4 (Nd.encs a4))), (4, .s (.sl 4 (Nd.encs a5))), (11, .s (.sl 1 ((List.map (irow .i64)) y6))), (12, .s (.sl 1 ((List.map (irow .i64)) y7))), (13, .orow 3)] [(0, .box 47 [.s (.int .i64 o1_take), .orow 2]), (2, .row 52 5 ((List.map zAd) o1_conflicts)), (3, .row 24 4 (Nd.encs []))] 4 ⟨rfl, rfl, rfl, rfl, rfl, rfl, rfl, rfl, trivial⟩ ⟨rfl, ⟨_, rfl, rfl⟩, rfl, ⟨_, rfl, rfl⟩, rfl, ⟨_, rfl, congrArg (Ob.row 24 4) (by simp [List.map_append, List.map_take, List.map_drop, irow, brow, zAK, List.map_cons, List.map_nil, zAD, Nd.encs_eq, Nd.enc, zAn, zAh, zAl, zAu, zAv, zAr, zAB, zAd, zAz, zAt])⟩, trivial⟩ rfl rfl rfl rfl rfl) ?_
 refine zAb ?_
 refine zAa (by exact tokW) (by exact gok) [] [] rfl ?_
 show Tri _ _ _ _
 refine zAb ?_
 refine zAb ?_
 refine zAa (by exact tokW) (by exact gok) [] [26] rfl ?_
 intro n8 hn8
 obtain rfl : (a3.length : Int) = n8 := (hn8.trans (congrArg (fun m : Nat => (m : Int)) (rlen Nd.encs_eq a3))).symm
 show Tri _ _ _ _
 obtain ⟨⟨x18, x19, x20, x21, l22, l23⟩, hl, h⟩ := zAc h
 refine zAq ⟨ofL [(0, .op 0 0), (1, .s (.sl 1 ((List.map (irow .i64)) a2))), (2, .s (.sl 4 (Nd.encs a3))), (3, .s (.sl 4 (Nd.encs a4))), (4, .s (.sl 4 (Nd.encs a5))), (13, .orow 3), (14, .s (.int .i64 x18)), (15, .s (.int .i64 x19)), (16, .s (.int .i64 x20))], ofH [(0, .box 47 [.s (.int .i64 x21), .orow 2]), (2, .row 52 5 ((List.map zAd) l22)), (3, .row 24 4 (Nd.encs l23))], 4⟩ ?_ (fun σ' hle => ?_)
 ·refine zAp (zAJ (X := Nat × Int × Int × Int × Int × Int × (List (List Int × Int × Int × List Nd × List Nd)) × (List Nd)) (fun y => match y with | (k, x9, x12, x13, x14, x15, l16, l17) => ⟨ofL [(0, .op 0 0), (1, .s (.sl 1 ((List.map (irow .i64)) a2))), (2, .s (.sl 4 (Nd.encs a3))), (3, .s (.sl 4 (Nd.encs a4))), (4, .s (.sl 4 (Nd.encs a5))), (11, .s (.sl 1 ((List.map (irow .i64)) y6))), (12, .s (.sl 1 ((List.map (irow .i64)) y7))), (13, .orow 3), (14, .s (.int .i64 x12)), (15, .s (.int .i64 x13)), (16, .s (.int .i64 x14)), (26, .s (.int .i64 (a3.length : Int))), (27, .s (.int .i64 x15))], ofH [(0, .box 47 [.s (.int .i64 x9), .orow 2]), (2, .row 52 5 ((List.map zAd) l16)), (3, .row 24 4 (Nd.encs l17))], 4⟩) (fun y => zAZ (zA9 n) n a2 a3 a4 a5 y6 y7 y.1 y.2.1 y.2.2.1 y.2.2.2.1 y.2.2.2.2.1 y.2.2.2.2.2.1 y.2.2.2.2.2.2.1 y.2.2.2.2.2.2.2 = some (x18, x19, x20, x21, l22, l23)) (fun y => y.1) (n, o1_take, 0, 0, 0, 0, o1_conflicts, []) hl ?_ ?_)
  ·exact (Le.rename [(0, 0), (2, 2), (3, 3)] _ _ _ ⟨rfl, rfl, rfl, rfl, rfl, rfl, rfl, rfl, rfl, rfl, rfl, rfl, rfl, trivial⟩ ⟨rfl, ⟨_, rfl, rfl⟩, rfl, ⟨_, rfl, rfl⟩, rfl, ⟨_, rfl, rfl⟩, trivial⟩ rfl rfl rfl rfl rfl)
  ·rintro ⟨k, x9, x12, x13, x14, x15, l16, l17⟩ h
   cases k with
   | zero => cases h
   | succ k =>
    replace h : zAZ (zA9 n) n a2 a3 a4 a5 y6 y7 (k+1) x9 x12 x13 x14 x15 l16 l17 = some (x18, x19, x20, x21, l22, l23) := h
    rw [zAZ] at h
    refine zAb ?_
    refine zAa (by exact tokW) (by exact gok) [] [] rfl ?_
    show Tri _ _ _ _
    refine zAb ?_
    refine zAe rfl (fun hb => ?_) (fun hb => ?_)
    ·replace h := zAk hb h
     refine zAg ?_
     show Tri _ _ _ _
     refine zAb ?_
     obtain ⟨⟨x24, x25, x26, x27, l28, l29⟩, hj, h⟩ := zAc h
     refine zAq ⟨ofL [(0, .op 0 0), (1, .s (.sl 1 ((List.map (irow .i64)) a2))), (2, .s (.sl 4 (Nd.encs a3))), (3, .s (.sl 4 (Nd.encs a4))), (4, .s (.sl 4 (Nd.encs a5))), (11, .s (.sl 1 ((List.map (irow .i64)) y6))), (12, .s (.sl 1 ((List.map (irow .i64)) y7))), (13, .orow 3), (14, .s (.int .i64 x24)), (15, .s (.int .i64 x25)), (16, .s (.int .i64 x26)), (26, .s (.int .i64 (a3.length : Int))), (27, .s (.int .i64 x15))], ofH [(0, .box 47 [.s (.int .i64 x27), .orow 2]), (2, .row 52 5 ((List.map zAd) l28)), (3, .row 24 4 (Nd.encs l29))], 4⟩ ?_ (fun σ' hle => ?_)
     ·replace h := hj
      refine zAp ?_
      refine zAb ?_
      refine zAa (by exact tokW) (by exact gok) [] [] rfl ?_
      show Tri _ _ _ _
      refine zAb ?_
      refine zAb ?_
      obtain ⟨x30, hj, h⟩ := zAc h
      refine zAq ⟨ofL [(0, .op 0 0), (1, .s (.sl 1 ((List.map (irow .i64)) a2))), (2, .s (.sl 4 (Nd.encs a3))), (3, .s (.sl 4 (Nd.encs a4))), (4, .s (.sl 4 (Nd.encs a5))), (11, .s (.sl 1 ((List.map (irow .i64)) y6))), (12, .s (.sl 1 ((List.map (irow .i64)) y7))), (13, .orow 3), (14, .s (.int .i64 x12)), (15, .s (.int .i64 x13)), (16, .s (.int .i64 x14)), (17, .s (.int .i64 x15)), (26, .s (.int .i64 (a3.length : Int))), (27, .s (.int .i64 x15)), (41, .s (.bool x30))], ofH [(0, .box 47 [.s (.int .i64 x9), .orow 2]), (2, .row 52 5 ((List.map zAd) l16)), (3, .row 24 4 (Nd.encs l17))], 4⟩ ?_ (fun σ' hle => ?_)
      ·replace h := hj
       refine zAa (by exact tokW) (by exact gok) [] [32, 35, 38] rfl ?_
       obtain ⟨e31, he31, h⟩ := zAc h
       refine And.intro (zAw (fun _ => rfl) he31).1 ?_
       intro r32 hr32
       obtain rfl : [.int .i64 e31] = r32 := (hr32.trans (zAw (fun _ => rfl) he31).2.1).symm
       intro b hb
       cases b with
       | true =>
        replace h := zAk hb.symm h
        cases h
        exact (Le.rename [(0, 0), (2, 2), (3, 3)] _ _ _ ⟨rfl, rfl, rfl, rfl, rfl, rfl, rfl, rfl, rfl, rfl, rfl, rfl, rfl, rfl, rfl, trivial⟩ ⟨rfl, ⟨_, rfl, rfl⟩, rfl, ⟨_, rfl, rfl⟩, rfl, ⟨_, rfl, rfl⟩, trivial⟩ rfl rfl rfl rfl rfl)
       | false =>
        replace h := zAj hb.symm h
        obtain ⟨e33, he33, h⟩ := zAc h
        refine And.intro (zAw (fun _ => rfl) he33).1 ?_
        intro r34 hr34
        obtain rfl : [.int .i64 e33] = r34 := (hr34.trans (zAw (fun _ => rfl) he33).2.1).symm
        cases h
        exact (Le.rename [(0, 0), (2, 2), (3, 3)] _ _ _ ⟨rfl, rfl, rfl, rfl, rfl, rfl, rfl, rfl, rfl, rfl, rfl, rfl, rfl, rfl, rfl, trivial⟩ ⟨rfl, ⟨_, rfl, rfl⟩, rfl, ⟨_, rfl, rfl⟩, rfl, ⟨_, rfl, rfl⟩, trivial⟩ rfl rfl rfl rfl rfl)
      ·show Tri _ _ _ _
       refine zAm hle ?_
       refine zAe rfl (fun hb => ?_) (fun hb => ?_)
       ·replace h := zAk hb h
        refine zAL ?_
        cases h
        exact (Le.rename [(0, 0), (2, 2), (3, 3)] _ _ _ ⟨rfl, rfl, rfl, rfl, rfl, rfl, rfl, rfl, rfl, rfl, rfl, rfl, rfl, trivial⟩ ⟨rfl, ⟨_, rfl, rfl⟩, rfl, ⟨_, rfl, rfl⟩, rfl, ⟨_, rfl, rfl⟩, trivial⟩ rfl rfl rfl rfl rfl)
       ·replace h := zAj hb h
        refine zAg ?_
        show Tri _ _ _ _
        refine zAb ?_
        refine zD0 (by exact tokW) (by exact gok) (by exact mixed) [18] [45, 50, 52, 57, 59] [19, 20] [] rfl (by decide +kernel) ?_
        obtain ⟨hq, h⟩ := zAN h
        refine And.intro ⟨hq.1, hq.2.1, Int.le_trans hq.2.2 (Int.ofNat_le.2 (Nat.le_of_eq (rlen Nd.encs_eq _).symm))⟩ ?_
        intro r35 hr35
        obtain rfl : Nd.encs ((a3.take x15.toNat).drop x12.toNat) = r35 := (hr35.trans (rcut Nd.encs_eq _ _ _)).symm
        obtain ⟨e36, he36, h⟩ := zAc h
        refine And.intro (zAw (fun _ => rfl) he36).1 ?_
        intro r37 hr37
        obtain rfl : [.int .i64 e36] = r37 := (hr37.trans (zAw (fun _ => rfl) he36).2.1).symm
        obtain ⟨hq, h⟩ := zAN h
        refine And.intro ⟨hq.1, hq.2.1, Int.le_trans hq.2.2 (Int.ofNat_le.2 (Nat.le_of_eq (rlen Nd.encs_eq _).symm))⟩ ?_
        intro r38 hr38
        obtain rfl : Nd.encs ((a4.take e36.toNat).drop x13.toNat) = r38 := (hr38.trans (rcut Nd.encs_eq _ _ _)).symm
        obtain ⟨e39, he39, h⟩ := zAc h
        refine And.intro (zAw (fun _ => rfl) he39).1 ?_
        intro r40 hr40
        obtain rfl : [.int .i64 e39] = r40 := (hr40.trans (zAw (fun _ => rfl) he39).2.1).symm
        obtain ⟨hq, h⟩ := zAN h
        refine And.intro ⟨hq.1, hq.2.1, Int.le_trans hq.2.2 (Int.ofNat_le.2 (Nat.le_of_eq (rlen Nd.encs_eq _).symm))⟩ ?_
        intro r41 hr41
        obtain rfl : Nd.encs ((a5.take e39.toNat).drop x14.toNat) = r41 := (hr41.trans (rcut Nd.encs_eq _ _ _)).symm
        show Tri _ _ _ _
        refine zAm (Le.giveBox 4 [.sl 4 (Nd.encs ((a3.take x15.toNat).drop x12.toNat)), .sl 4 (Nd.encs ((a4.take e36.toNat).drop x13.toNat)), .sl 4 (Nd.encs ((a5.take e39.toNat).drop x14.toNat))] rfl rfl) ?_
        refine zAb ?_
        refine zAa (by exact tokW) (by exact gok) [67] [] rfl ?_
        obtain ⟨⟨y42, ⟨w43_take, w43_conflicts⟩⟩, hy42, h⟩ := zAc h
        refine ⟨_, _, ⟨_, _, _, _, _, _, _, hy42, rfl, rfl, rfl, rfl⟩, ?_⟩
        obtain ⟨hq, h⟩ := zAN h
        refine And.intro (show ((Nd.encs l17).length + (Nd.encs y42).length) * 56 ≤ 140737488355328 ∧ (Nd.encs l17).length + (Nd.encs y42).length ≤ 9223372036854775807 from by simp only [List.length_append, List.length_cons, List.length_nil, List.length_map, rlen Nd.encs_eq] at hq ⊢; omega) ?_
        show Tri _ _ _ _
        refine zAm (Le.rename [(0, 0), (5, 2), (6, 3)] [(0, .op 0 0), (1, .s (.sl 1 ((List.map (irow .i64)) a2))), (2, .s (.sl 4 (Nd.encs a3))), (3, .s (.sl 4 (Nd.encs a4))), (4, .s (.sl 4 (Nd.encs a5))), (11, .s (.sl 1 ((List.map (irow .i64)) y6))), (12, .s (.sl 1 ((List.map (irow .i64)) y7))), (13, .orow 3), (17, .s (.int .i64 x15)), (26, .s (.int .i64 (a3.length : Int))), (27, .s (.int .i64 x15))] [(0, .box 47 [.s (.int .i64 w43_take), .orow 2]), (2, .row 52 5 ((List.map zAd) w43_conflicts)), (3, .row 24 4 (Nd.encs (l17 ++ y42)))] 4 ⟨rfl, rfl, rfl, rfl, rfl, rfl, rfl, rfl, rfl, rfl, rfl, trivial⟩ ⟨rfl, ⟨_, rfl, rfl⟩, rfl, ⟨_, rfl, rfl⟩, rfl, ⟨_, rfl, congrArg (Ob.row 24 4) (by simp [List.map_append, List.map_take, List.map_drop, irow, brow, zAK, List.map_cons, List.map_nil, zAD, Nd.encs_eq, Nd.enc, zAn, zAh, zAl, zAu, zAv, zAr, zAB, zAd, zAz, zAt])⟩, trivial⟩ rfl rfl rfl rfl rfl) ?_
        refine zAb ?_
        refine zAC (by exact tokW) (by exact gok) (by exact mixed) [91] [74, 79, 81, 86, 88] [22, 23] rfl (by decide +kernel) ?_
        obtain ⟨⟨e44_kind, e44_text, e44_cols, e44_kids⟩, he44, h⟩ := zAc h
        refine And.intro (zAw Nd.encs_eq he44).1 ?_
        intro r45 hr45
        obtain rfl : [.int .i64 e44_kind, .str e44_text, .int .i64 e44_cols, .sl 4 (Nd.encs e44_kids)] = r45 := (hr45.trans (zAw Nd.encs_eq he44).2.1).symm
        obtain ⟨e46, he46, h⟩ := zAc h
        refine And.intro (zAw (fun _ => rfl) he46).1 ?_
        intro r47 hr47
        obtain rfl : [.int .i64 e46] = r47 := (hr47.trans (zAw (fun _ => rfl) he46).2.1).symm
        obtain ⟨⟨e48_kind, e48_text, e48_cols, e48_kids⟩, he48, h⟩ := zAc h
        refine And.intro (zAw Nd.encs_eq he48).1 ?_
        intro r49 hr49
        obtain rfl : [.int .i64 e48_kind, .str e48_text, .int .i64 e48_cols, .sl 4 (Nd.encs e48_kids)] = r49 := (hr49.trans (zAw Nd.encs_eq he48).2.1).symm
        obtain ⟨e50, he50, h⟩ := zAc h
        refine And.intro (zAw (fun _ => rfl) he50).1 ?_
        intro r51 hr51
        obtain rfl : [.int .i64 e50] = r51 := (hr51.trans (zAw (fun _ => rfl) he50).2.1).symm
        obtain ⟨⟨e52_kind, e52_text, e52_cols, e52_kids⟩, he52, h⟩ := zAc h
        refine And.intro (zAw Nd.encs_eq he52).1 ?_
        intro r53 hr53
        obtain rfl : [.int .i64 e52_kind, .str e52_text, .int .i64 e52_cols, .sl 4 (Nd.encs e52_kids)] = r53 := (hr53.trans (zAw Nd.encs_eq he52).2.1).symm
        obtain ⟨⟨y54, ⟨w55_take, w55_conflicts⟩⟩, hy54, h⟩ := zAc h
        refine ⟨_, _, ⟨_, _, _, _, _, _, _, _, hy54, rfl, rfl, rfl, rfl⟩, ?_⟩
        obtain ⟨hq, h⟩ := zAN h
        refine And.intro (show ((Nd.encs (l17 ++ y42)).length + (Nd.encs y54).length) * 56 ≤ 140737488355328 ∧ (Nd.encs (l17 ++ y42)).length + (Nd.encs y54).length ≤ 9223372036854775807 from by simp only [List.length_append, List.length_cons, List.length_nil, List.length_map, rlen Nd.encs_eq] at hq ⊢; omega) ?_
        show Tri _ _ _ _
        refine zAm (Le.rename [(0, 0), (4, 2), (5, 3)] [(0, .op 0 0), (1, .s (.sl 1 ((List.map (irow .i64)) a2))), (2, .s (.sl 4 (Nd.encs a3))), (3, .s (.sl 4 (Nd.encs a4))), (4, .s (.sl 4 (Nd.encs a5))), (11, .s (.sl 1 ((List.map (irow .i64)) y6))), (12, .s (.sl 1 ((List.map (irow .i64)) y7))), (13, .orow 3), (17, .s (.int .i64 x15)), (26, .s (.int .i64 (a3.length : Int))), (27, .s (.int .i64 x15))] [(0, .box 47 [.s (.int .i64 w55_take), .orow 2]), (2, .row 52 5 ((List.map zAd) w55_conflicts)), (3, .row 24 4 (Nd.encs ((l17 ++ y42) ++ y54)))] 4 ⟨rfl, rfl, rfl, rfl, rfl, rfl, rfl, rfl, rfl, rfl, rfl, trivial⟩ ⟨rfl, ⟨_, rfl, rfl⟩, rfl, ⟨_, rfl, rfl⟩, rfl, ⟨_, rfl, congrArg (Ob.row 24 4) (by simp [List.map_append, List.map_take, List.map_drop, irow, brow, zAK, List.map_cons, List.map_nil, zAD, Nd.encs_eq, Nd.enc, zAn, zAh, zAl, zAu, zAv, zAr, zAB, zAd, zAz, zAt])⟩, trivial⟩ rfl rfl rfl rfl rfl) ?_
        refine zAC (by exact tokW) (by exact gok) (by exact mixed) [] [96, 101] [] rfl (by decide +kernel) ?_
        obtain ⟨e56, he56, h⟩ := zAc h
        refine And.intro (zAw (fun _ => rfl) he56).1 ?_
        intro r57 hr57
        obtain rfl : [.int .i64 e56] = r57 := (hr57.trans (zAw (fun _ => rfl) he56).2.1).symm
        obtain ⟨e58, he58, h⟩ := zAc h
        refine And.intro (zAw (fun _ => rfl) he58).1 ?_
        intro r59 hr59
        obtain rfl : [.int .i64 e58] = r59 := (hr59.trans (zAw (fun _ => rfl) he58).2.1).symm
        cases h
        exact (Le.rename [(0, 0), (2, 2), (3, 3)] _ _ _ ⟨rfl, rfl, rfl, rfl, rfl, rfl, rfl, rfl, rfl, rfl, rfl, rfl, rfl, trivial⟩ ⟨rfl, ⟨_, rfl, rfl⟩, rfl, ⟨_, rfl, rfl⟩, rfl, ⟨_, rfl, rfl⟩, trivial⟩ rfl rfl rfl rfl rfl)
     ·show Tri _ _ _ _
      refine zAm hle ?_
      refine zAa (by exact tokW) (by exact gok) [] [] rfl ?_
      refine ⟨(k, x27, x24, x25, x26, IntKind.i64.wrap (x15 + 1), l28, l29), h, (Le.rename [(0, 0), (2, 2), (3, 3)] _ _ _ ⟨rfl, rfl, rfl, rfl, rfl, rfl, rfl, rfl, rfl, rfl, rfl, rfl, rfl, trivial⟩ ⟨rfl, ⟨_, rfl, rfl⟩, rfl, ⟨_, rfl, rfl⟩, rfl, ⟨_, rfl, rfl⟩, trivial⟩ rfl rfl rfl rfl rfl), Nat.lt_succ_self k⟩
    ·replace h := zAj hb h
     refine zAL ?_
     cases h
     exact (Le.rename [(0, 0), (2, 2), (3, 3)] _ _ _ ⟨rfl, rfl, rfl, rfl, rfl, rfl, rfl, rfl, rfl, trivial⟩ ⟨rfl, ⟨_, rfl, rfl⟩, rfl, ⟨_, rfl, rfl⟩, rfl, ⟨_, rfl, rfl⟩, trivial⟩ rfl rfl rfl rfl rfl)
 ·show Tri _ _ _ _
  refine zAm hle ?_
  refine zAb ?_
  refine zAC (by exact tokW) (by exact gok) (by exact mixed) [120] [111, 114, 117] [14, 15] rfl (by decide +kernel) ?_
  obtain ⟨hq, h⟩ := zAN h
  refine And.intro ⟨hq.1, Int.le_trans hq.2.1 (Int.ofNat_le.2 (Nat.le_of_eq (rlen Nd.encs_eq _).symm)), Int.le_refl _⟩ ?_
  intro r60 hr60
  obtain rfl : Nd.encs ((a3.take (a3.length : Int).toNat).drop x18.toNat) = r60 := (hr60.trans ((congrArg (fun m : Nat => ((Nd.encs a3).take m).drop x18.toNat) (rlen Nd.encs_eq _)).trans (rcut Nd.encs_eq _ _ _))).symm
  obtain ⟨hq, h⟩ := zAN h
  refine And.intro ⟨hq.1, Int.le_trans hq.2.1 (Int.ofNat_le.2 (Nat.le_of_eq (rlen Nd.encs_eq _).symm)), Int.le_refl _⟩ ?_
  intro r61 hr61
  obtain rfl : Nd.encs ((a4.take (a4.length : Int).toNat).drop x19.toNat) = r61 := (hr61.trans ((congrArg (fun m : Nat => ((Nd.encs a4).take m).drop x19.toNat) (rlen Nd.encs_eq _)).trans (rcut Nd.encs_eq _ _ _))).symm
  obtain ⟨hq, h⟩ := zAN h
  refine And.intro ⟨hq.1, Int.le_trans hq.2.1 (Int.ofNat_le.2 (Nat.le_of_eq (rlen Nd.encs_eq _).symm)), Int.le_refl _⟩ ?_
  intro r62 hr62
  obtain rfl : Nd.encs ((a5.take (a5.length : Int).toNat).drop x20.toNat) = r62 := (hr62.trans ((congrArg (fun m : Nat => ((Nd.encs a5).take m).drop x20.toNat) (rlen Nd.encs_eq _)).trans (rcut Nd.encs_eq _ _ _))).symm
  obtain ⟨⟨y63, ⟨w64_take, w64_conflicts⟩⟩, hy63, h⟩ := zAc h
  refine ⟨_, _, ⟨_, _, _, _, _, _, _, hy63, rfl, rfl, rfl, rfl⟩, ?_⟩
  obtain ⟨hq, h⟩ := zAN h
  refine And.intro (show ((Nd.encs l23).length + (Nd.encs y63).length) * 56 ≤ 140737488355328 ∧ (Nd.encs l23).length + (Nd.encs y63).length ≤ 9223372036854775807 from by simp only [List.length_append, List.length_cons, List.length_nil, List.length_map, rlen Nd.encs_eq] at hq ⊢; omega) ?_
  show Tri _ _ _ _
  refine zAm (Le.rename [(0, 0), (4, 2), (5, 3)] [(10, .orow 3)] [(0, .box 47 [.s (.int .i64 w64_take), .orow 2]), (2, .row 52 5 ((List.map zAd) w64_conflicts)), (3, .row 24 4 (Nd.encs (l23 ++ y63)))] 4 ⟨rfl, trivial⟩ ⟨rfl, ⟨_, rfl, rfl⟩, rfl, ⟨_, rfl, rfl⟩, rfl, ⟨_, rfl, congrArg (Ob.row 24 4) (by simp [List.map_append, List.map_take, List.map_drop, irow, brow, zAK, List.map_cons, List.map_nil, zAD, Nd.encs_eq, Nd.enc, zAn, zAh, zAl, zAu, zAv, zAr, zAB, zAd, zAz, zAt])⟩, trivial⟩ rfl rfl rfl rfl rfl) ?_
  refine zAi ?_
  obtain ⟨hj1, hk1⟩ := Prod.mk.inj (Option.some.inj h)
  subst hj1
  subst hk1
  unfold zBV
  exact ⟨_, (Le.rename [(0, 0), (2, 2), (3, 3)] [(10, .orow 3)] [(0, .box 47 [.s (.int .i64 w64_take), .orow 2]), (2, .row 52 5 ((List.map zAd) w64_conflicts)), (3, .row 24 4 (Nd.encs (l23 ++ y63)))] 4 ⟨rfl, trivial⟩ ⟨rfl, ⟨_, rfl, rfl⟩, rfl, ⟨_, rfl, rfl⟩, rfl, ⟨_, rfl, rfl⟩, trivial⟩ rfl rfl rfl rfl rfl), rfl, rfl, rfl, rfl, rfl, rfl, rfl, rfl, trivial⟩
theorem zGa : ∀ n, PSound Tryz.prog 42 (zCm (zBW n)) ∧ PSound Tryz.prog 28 (zCm (zBJ n)) := by
 intro n
 induction n with
 | zero =>
  refine ⟨?_, ?_⟩
  ·exact zHF Tryz.call42 (fun xs os x os' h => by obtain ⟨_, _, _, _, _, _, _, _, h, _⟩ := h; rw [zA9] at h; cases h) _
  ·exact zHF Tryz.call28 (fun xs os x os' h => by obtain ⟨_, _, _, _, _, _, _, h, _⟩ := h; rw [zAY] at h; cases h) _
 | succ n ih =>
  obtain ⟨ih_merge_merger_item, ih_merge_merger_row⟩ := ih
  exact ⟨zGc n ih_merge_merger_item ih_merge_merger_row, zGM n ih_merge_merger_item ih_merge_merger_row⟩
def zE7 : zAy := zCm (fun xs os x os' => ∃ n, zBJ n xs os x os')
theorem zHA : PSound Tryz.prog 28 zE7 := zLZ (fun n => (zGa n).2) _
def zHk (n : Nat) (xs : List AV) (os : List Ob) (x : AV) (os' : List (Option Ob)) : Prop := ∃ (a0 : (Int × List (List Int × Int × Int × List Nd × List Nd))) (a1 : Nd) (a2 : Nd) (a3 : Nd) (y0 : Nd) (y1 : Int) (z0 : (Int × List (List Int × Int × Int × List Nd × List Nd))), zBz n a0 a1 a2 a3 = some (y0, y1, z0) ∧ xs = [.op 0 0, .agg ((Nd.enc a1).map .s), .agg ((Nd.enc a2).map .s), .agg ((Nd.enc a3).map .s)] ∧ os = [.box 47 (((zAt a0).map .s).set 1 (.orow 1)), .row 52 5 ((List.map zAd) a0.2)] ∧ x = .tup [.agg ((Nd.enc y0).map .s), .s (.int .i64 y1)] ∧ os' = [some (.box 47 (((zAt z0).map .s).set 1 (.orow 2))), none, some (.row 52 5 ((List.map zAd) z0.2))]
def zEJ : zAy := zCm (fun xs os x os' => ∃ n, zHk n xs os x os')
theorem zGX : PSound Tryz.prog 20 zEJ := by
 have gok : ∀ f s, look? f [(27, zGi), (28, zE7)] = some s → PSound Tryz.prog f s := zAA (by
  simp only [List.forall_mem_cons]
  exact ⟨zH9, zHA, by simp⟩)
 refine PSound.withNil (zFj tokW Tryz.call20 Tryz.func20 rfl (fun xs os x os' h => by obtain ⟨n, _, _, _, _, _, _, _, _, rfl, rfl, _, rfl⟩ := h; exact ⟨by show 4 ≤ 39; decide, by show 2 ≤ 3; decide⟩) 39 rfl ?_) _
 rintro xs os x os' w0 G0 B0 ⟨n, ⟨o1_take, o1_conflicts⟩, ⟨base2_kind, base2_text, base2_cols, base2_kids⟩, ⟨x3_kind, x3_text, x3_cols, x3_kids⟩, ⟨y4_kind, y4_text, y4_cols, y4_kids⟩, y0, y1, z0, h, rfl, rfl, rfl, rfl⟩ _
 rw [zBz] at h
 refine zAb ?_
 refine zAa (by exact tokW) (by exact gok) [8] [] rfl ?_
 show Tri _ _ _ _
 refine zAb ?_
 refine zAb ?_
 obtain ⟨x5, hj, h⟩ := zAc h
 refine zAq ⟨ofL [(0, .op 0 0), (5, .s (.pt [.int .i64 base2_kind, .str base2_text, .int .i64 base2_cols, .sl 4 (Nd.encs base2_kids)])), (6, .s (.pt [.int .i64 x3_kind, .str x3_text, .int .i64 x3_cols, .sl 4 (Nd.encs x3_kids)])), (7, .s (.pt [.int .i64 y4_kind, .str y4_text, .int .i64 y4_cols, .sl 4 (Nd.encs y4_kids)])), (8, .op 3 0), (23, .s (.bool x5))], ofH [(0, .box 47 [.s (.int .i64 o1_take), .orow 2]), (2, .row 52 5 ((List.map zAd) o1_conflicts)), (3, .box 24 [.s (.int .i64 0), .s (.str []), .s (.int .i64 0), .nl 4])], 4⟩ ?_ (fun σ' hle => ?_)
 ·replace h := hj
  refine zAa (by exact tokW) (by exact gok) [] [14, 19] rfl ?_
  obtain ⟨y6, hy6, h⟩ := zAc h
  refine ⟨_, ⟨_, _, _, hy6, rfl, rfl⟩, ?_⟩
  intro b hb
  cases b with
  | true =>
   replace h := zAk hb.symm h
   intro b hb
   subst hb
   cases h
   exact (Le.rename [(0, 0), (1, 2), (2, 3)] _ _ _ ⟨rfl, rfl, rfl, rfl, rfl, rfl, trivial⟩ ⟨rfl, ⟨_, rfl, rfl⟩, rfl, ⟨_, rfl, rfl⟩, rfl, ⟨_, rfl, rfl⟩, trivial⟩ rfl rfl rfl rfl rfl)
  | false =>
   replace h := zAj hb.symm h
   obtain ⟨y7, hy7, h⟩ := zAc h
   refine ⟨_, ⟨_, _, _, hy7, rfl, rfl⟩, ?_⟩
   intro b hb
   cases b with
   | true =>
    replace h := zAk hb.symm h
    cases h
    exact (Le.rename [(0, 0), (1, 2), (2, 3)] _ _ _ ⟨rfl, rfl, rfl, rfl, rfl, rfl, trivial⟩ ⟨rfl, ⟨_, rfl, rfl⟩, rfl, ⟨_, rfl, rfl⟩, rfl, ⟨_, rfl, rfl⟩, trivial⟩ rfl rfl rfl rfl rfl)
   | false =>
    replace h := zAj hb.symm h
    obtain ⟨y8, hy8, h⟩ := zAc h
    refine ⟨_, ⟨_, _, _, hy8, rfl, rfl⟩, ?_⟩
    cases h
    exact (Le.rename [(0, 0), (1, 2), (2, 3)] _ _ _ ⟨rfl, rfl, rfl, rfl, rfl, rfl, trivial⟩ ⟨rfl, ⟨_, rfl, rfl⟩, rfl, ⟨_, rfl, rfl⟩, rfl, ⟨_, rfl, rfl⟩, trivial⟩ rfl rfl rfl rfl rfl)
 ·show Tri _ _ _ _
  refine zAm hle ?_
  refine zAe rfl (fun hb => ?_) (fun hb => ?_)
  ·replace h := zAk hb h
   refine zAb ?_
   refine zAa (by exact tokW) (by exact gok) [] [] rfl ?_
   show Tri _ _ _ _
   refine zAi ?_
   obtain ⟨hj1, hk1⟩ := Prod.mk.inj (Option.some.inj h)
   subst hj1
   obtain ⟨hj2, hk2⟩ := Prod.mk.inj hk1
   subst hj2
   subst hk2
   unfold zBV
   exact ⟨_, (Le.rename [(0, 0), (2, 2), (3, 3)] [(8, .op 3 0), (9, .s (.int .i64 1))] [(0, .box 47 [.s (.int .i64 o1_take), .orow 2]), (2, .row 52 5 ((List.map zAd) o1_conflicts)), (3, .box 24 [.s (.int .i64 0), .s (.str []), .s (.int .i64 0), .nl 4])] 4 ⟨rfl, rfl, trivial⟩ ⟨rfl, ⟨_, rfl, rfl⟩, rfl, ⟨_, rfl, rfl⟩, rfl, ⟨_, rfl, rfl⟩, trivial⟩ rfl rfl rfl rfl rfl), rfl, rfl, rfl, rfl, rfl, rfl, trivial⟩
  ·replace h := zAj hb h
   refine zAg ?_
   show Tri _ _ _ _
   refine zAb ?_
   refine zAa (by exact tokW) (by exact gok) [10] [] rfl ?_
   obtain ⟨⟨y9, ⟨w10_take, w10_conflicts⟩⟩, hy9, h⟩ := zAc h
   refine ⟨_, _, ⟨_, _, _, _, _, _, _, _, hy9, rfl, rfl, rfl, rfl⟩, ?_⟩
   show Tri _ _ _ _
   refine zAb ?_
   refine zAb ?_
   refine zAa (by exact tokW) (by exact gok) [] [] rfl ?_
   obtain ⟨y11, hy11, h⟩ := zAc h
   refine ⟨_, ⟨_, _, _, hy11, rfl, rfl⟩, ?_⟩
   show Tri _ _ _ _
   refine zAe rfl (fun hb => ?_) (fun hb => ?_)
   ·replace h := zAk hb h
    refine zAb ?_
    refine zAa (by exact tokW) (by exact gok) [] [] rfl ?_
    show Tri _ _ _ _
    refine zAi ?_
    obtain ⟨hj1, hk1⟩ := Prod.mk.inj (Option.some.inj h)
    subst hj1
    obtain ⟨hj2, hk2⟩ := Prod.mk.inj hk1
    subst hj2
    subst hk2
    unfold zBV
    exact ⟨_, (Le.rename [(0, 0), (4, 2), (3, 3)] [(8, .op 3 0), (9, .s (.int .i64 6))] [(0, .box 47 [.s (.int .i64 w10_take), .orow 2]), (2, .row 52 5 ((List.map zAd) w10_conflicts)), (3, .box 24 [.s (.int .i64 0), .s (.str []), .s (.int .i64 0), .nl 4])] 4 ⟨rfl, rfl, trivial⟩ ⟨rfl, ⟨_, rfl, rfl⟩, rfl, ⟨_, rfl, rfl⟩, rfl, ⟨_, rfl, rfl⟩, trivial⟩ rfl rfl rfl rfl rfl), rfl, rfl, rfl, rfl, rfl, rfl, trivial⟩
   ·replace h := zAj hb h
    refine zAg ?_
    show Tri _ _ _ _
    refine zAb ?_
    refine zAa (by exact tokW) (by exact gok) [] [] rfl ?_
    show Tri _ _ _ _
    refine zAi ?_
    obtain ⟨hj1, hk1⟩ := Prod.mk.inj (Option.some.inj h)
    subst hj1
    obtain ⟨hj2, hk2⟩ := Prod.mk.inj hk1
    subst hj2
    subst hk2
    unfold zBV
    exact ⟨_, (Le.trans (Le.rename [(0, 0), (4, 2), (3, 3), (5, 4)] [(8, .op 3 0), (9, .s (.int .i64 0))] [(0, .box 47 [.s (.int .i64 w10_take), .orow 2]), (2, .row 52 5 ((List.map zAd) w10_conflicts)), (3, .box 24 [.s (.int .i64 1), .s (.str []), .s (.int .i64 0), .orow 4]), (4, .row 24 4 (Nd.encs y9))] 5 ⟨rfl, rfl, trivial⟩ ⟨rfl, ⟨_, rfl, rfl⟩, rfl, ⟨_, rfl, rfl⟩, rfl, ⟨_, rfl, rfl⟩, rfl, ⟨_, rfl, rfl⟩, trivial⟩ rfl rfl rfl rfl rfl) (Le.giveRow 4 rfl)), rfl, rfl, rfl, rfl, rfl, rfl, trivial⟩
def zMi (n : Nat) (xs : List AV) (r : Ret) : Prop := ∃ (a0 : Nd) (a1 : Nd) (a2 : Nd) (y0 : Nd) (y1 : List (List Int × Int × Int × List Nd × List Nd)) (y2 : Int), zBN n a0 a1 a2 = some (y0, y1, y2) ∧ xs = [.agg ((Nd.enc a0).map .s), .agg ((Nd.enc a1).map .s), .agg ((Nd.enc a2).map .s)] ∧ r = .val (.tup [.agg ((Nd.enc y0).map .s), .s (.sl 5 ((List.map zAd) y1)), .s (.int .i64 y2)])
def zEr : zAy := zAI fun xs r => ∃ n, zMi n xs r
theorem zFt : PSound Tryz.prog 8 zEr := by
 have gok : ∀ f s, look? f [(20, zEJ)] = some s → PSound Tryz.prog f s := zAA (by
  simp only [List.forall_mem_cons]
  exact ⟨zGX, by simp⟩)
 refine zAM tokW Tryz.call8 Tryz.func8 rfl (fun xs r h => by obtain ⟨n, _, _, _, _, _, _, _, rfl, _⟩ := h; show 3 ≤ 31; decide) 31 rfl ?_
 rintro xs r w0 G0 ⟨n, ⟨base1_kind, base1_text, base1_cols, base1_kids⟩, ⟨x2_kind, x2_text, x2_cols, x2_kids⟩, ⟨y3_kind, y3_text, y3_cols, y3_kids⟩, y0, y1, y2, h, rfl, rfl⟩ _
 rw [zBN] at h
 refine zAb ?_
 refine zAa (by exact tokW) (by exact gok) [6] [] rfl ?_
 show Tri _ _ _ _
 refine zAb ?_
 refine zAa (by exact tokW) (by exact gok) [13] [] rfl ?_
 show Tri _ _ _ _
 refine zAm (Le.trans (Le.rename [(0, 0), (1, 1)] [(3, .s (.pt [.int .i64 base1_kind, .str base1_text, .int .i64 base1_cols, .sl 4 (Nd.encs base1_kids)])), (4, .s (.pt [.int .i64 x2_kind, .str x2_text, .int .i64 x2_cols, .sl 4 (Nd.encs x2_kids)])), (5, .s (.pt [.int .i64 y3_kind, .str y3_text, .int .i64 y3_cols, .sl 4 (Nd.encs y3_kids)])), (6, .op 0 0), (9, .op 1 0)] [(0, .box 24 [.s (.int .i64 0), .s (.str []), .s (.int .i64 0), .nl 4]), (1, .box 47 [.s (.int .i64 0), .nl 5])] 2 ⟨rfl, rfl, rfl, rfl, rfl, trivial⟩ ⟨rfl, ⟨_, rfl, rfl⟩, rfl, ⟨_, rfl, rfl⟩, trivial⟩ rfl rfl rfl rfl rfl) (Le.takeNil 1 1 52 rfl rfl (by decide))) ?_
 refine zAb ?_
 refine zAa (by exact tokW) (by exact gok) [10] [] rfl ?_
 obtain ⟨⟨⟨y4_kind, y4_text, y4_cols, y4_kids⟩, y5, ⟨w6_take, w6_conflicts⟩⟩, hy4, h⟩ := zAc h
 refine ⟨_, _, ⟨_, _, _, _, _, _, _, _, hy4, rfl, rfl, rfl, rfl⟩, ?_⟩
 show Tri _ _ _ _
 refine zAm (Le.giveBox 4 [.int .i64 y4_kind, .str y4_text, .int .i64 y4_cols, .sl 4 (Nd.encs y4_kids)] rfl rfl) ?_
 refine zAb ?_
 refine zAb ?_
 refine zAa (by exact tokW) (by exact gok) [] [] rfl ?_
 show Tri _ _ _ _
 refine zAe rfl (fun hb => ?_) (fun hb => ?_)
 ·replace h := zAk hb h
  refine zAb ?_
  refine zAa (by exact tokW) (by exact gok) [] [] rfl ?_
  show Tri _ _ _ _
  refine zAi ?_
  obtain ⟨hj1, hk1⟩ := Prod.mk.inj (Option.some.inj h)
  subst hj1
  obtain ⟨hj2, hk2⟩ := Prod.mk.inj hk1
  subst hj2
  subst hk2
  unfold zAG
  exact ⟨_, Le.refl _ _, rfl, rfl⟩
 ·replace h := zAj hb h
  refine zAg ?_
  show Tri _ _ _ _
  refine zAb ?_
  refine zAm (Le.trans (Le.rename [(0, 0), (1, 1), (3, 2)] [(6, .op 0 0), (9, .op 1 0), (10, .s (.pt [.int .i64 y4_kind, .str y4_text, .int .i64 y4_cols, .sl 4 (Nd.encs y4_kids)]))] [(0, .box 24 [.s (.int .i64 0), .s (.str []), .s (.int .i64 0), .nl 4]), (1, .box 47 [.s (.int .i64 w6_take), .orow 2]), (2, .row 52 5 ((List.map zAd) w6_conflicts))] 3 ⟨rfl, rfl, rfl, trivial⟩ ⟨rfl, ⟨_, rfl, rfl⟩, rfl, ⟨_, rfl, rfl⟩, rfl, ⟨_, rfl, rfl⟩, trivial⟩ rfl rfl rfl rfl rfl) (Le.giveRow 2 rfl)) ?_
  refine zAm (Le.trans (Le.rename [(0, 0), (1, 1)] [(6, .op 0 0), (9, .op 1 0), (10, .s (.pt [.int .i64 y4_kind, .str y4_text, .int .i64 y4_cols, .sl 4 (Nd.encs y4_kids)]))] [(0, .box 24 [.s (.int .i64 0), .s (.str []), .s (.int .i64 0), .nl 4]), (1, .box 47 [.s (.int .i64 w6_take), .s (.sl 5 ((List.map zAd) w6_conflicts))])] 2 ⟨rfl, rfl, rfl, trivial⟩ ⟨rfl, ⟨_, rfl, rfl⟩, rfl, ⟨_, rfl, rfl⟩, trivial⟩ rfl rfl rfl rfl rfl) (Le.giveBox 1 [.int .i64 w6_take, .sl 5 ((List.map zAd) w6_conflicts)] rfl rfl)) ?_
  refine zAC (by exact tokW) (by exact gok) (by exact mixed) [] [] [5] rfl (by decide +kernel) ?_
  show Tri _ _ _ _
  refine zAi ?_
  obtain ⟨hj1, hk1⟩ := Prod.mk.inj (Option.some.inj h)
  subst hj1
  obtain ⟨hj2, hk2⟩ := Prod.mk.inj hk1
  subst hj2
  subst hk2
  unfold zAG
  exact ⟨_, Le.refl _ _, rfl, rfl⟩
def zDU (n : Nat) (xs : List AV) (r : Ret) : Prop := ∃ (a0 : Nd) (a1 : Nd) (y0 : Bool), zBo n a0 a1 = some y0 ∧ xs = [.agg ((Nd.enc a0).map .s), .agg ((Nd.enc a1).map .s)] ∧ r = .val (.s (.bool y0))
def zCn (n : Nat) (xs : List AV) (r : Ret) : Prop := ∃ (a0 : List Nd) (a1 : List Nd) (y0 : Bool), zB3 n a0 a1 = some y0 ∧ xs = [.s (.sl 4 (Nd.encs a0)), .s (.sl 4 (Nd.encs a1))] ∧ r = .val (.s (.bool y0))
theorem zLr (n : Nat) (ih_r09_Equal : PSound Tryz.prog 10 (zAI (zDU n))) (ih_r09_SameItems : PSound Tryz.prog 22 (zAI (zCn n))) : PSound Tryz.prog 10 (zAI (zDU (n + 1))) := by
 have gok : ∀ f s, look? f [(22, zAI (zCn n))] = some s → PSound Tryz.prog f s := zAA (by
  simp only [List.forall_mem_cons]
  exact ⟨ih_r09_SameItems, by simp⟩)
 refine zAM tokW Tryz.call10 Tryz.func10 rfl (fun xs r h => by obtain ⟨_, _, _, _, rfl, _⟩ := h; show 2 ≤ 31; decide) 31 rfl ?_
 rintro xs r w0 G0 ⟨⟨a1_kind, a1_text, a1_cols, a1_kids⟩, ⟨b2_kind, b2_text, b2_cols, b2_kids⟩, y0, h, rfl, rfl⟩ _
 rw [zBo] at h
 refine zAb ?_
 refine zAa (by exact tokW) (by exact gok) [] [] rfl ?_
 show Tri _ _ _ _
 refine zAb ?_
 obtain ⟨x3, hj, h⟩ := zAc h
 refine zAq ⟨ofL [(4, .s (.bool x3))], fun _ => none, 0⟩ ?_ (fun σ' hle => ?_)
 ·replace h := hj
  refine zAa (by exact tokW) (by exact gok) [] [10, 17, 24] rfl ?_
  intro b hb
  cases b with
  | true =>
   replace h := zAk hb.symm h
   intro b hb
   cases b with
   | true =>
    replace h := zAk hb.symm h
    intro b hb
    cases b with
    | true =>
     replace h := zAk hb.symm h
     obtain ⟨y4, hy4, h⟩ := zAc h
     refine ⟨_, ⟨_, _, _, hy4, rfl, rfl⟩, ?_⟩
     cases h
     exact (Le.forget _ ⟨rfl, trivial⟩)
    | false =>
     replace h := zAj hb.symm h
     cases h
     exact (Le.forget _ ⟨rfl, trivial⟩)
   | false =>
    replace h := zAj hb.symm h
    intro b hb
    subst hb
    cases h
    exact (Le.forget _ ⟨rfl, trivial⟩)
  | false =>
   replace h := zAj hb.symm h
   intro b hb
   subst hb
   intro b hb
   subst hb
   cases h
   exact (Le.forget _ ⟨rfl, trivial⟩)
 ·show Tri _ _ _ _
  refine zAm hle ?_
  refine zAi ?_
  have hy := Option.some.inj h
  subst hy
  unfold zAG
  exact ⟨_, Le.refl _ _, rfl, rfl⟩
theorem zIk (n : Nat) (ih_r09_Equal : PSound Tryz.prog 10 (zAI (zDU n))) (ih_r09_SameItems : PSound Tryz.prog 22 (zAI (zCn n))) : PSound Tryz.prog 22 (zAI (zCn (n + 1))) := by
 have gok : ∀ f s, look? f [(10, zAI (zDU n))] = some s → PSound Tryz.prog f s := zAA (by
  simp only [List.forall_mem_cons]
  exact ⟨ih_r09_Equal, by simp⟩)
 refine zAM tokW Tryz.call22 Tryz.func22 rfl (fun xs r h => by obtain ⟨_, _, _, _, rfl, _⟩ := h; show 2 ≤ 27; decide) 27 rfl ?_
 rintro xs r w0 G0 ⟨a1, b2, y0, h, rfl, rfl⟩ _
 rw [zB3] at h
 refine zAb ?_
 refine zAa (by exact tokW) (by exact gok) [] [] rfl ?_
 show Tri _ _ _ _
 refine zAb ?_
 refine zAb ?_
 refine zAa (by exact tokW) (by exact gok) [] [7, 9] rfl ?_
 intro n3 hn3
 obtain rfl : (a1.length : Int) = n3 := (hn3.trans (congrArg (fun m : Nat => (m : Int)) (rlen Nd.encs_eq a1))).symm
 intro n4 hn4
 obtain rfl : (b2.length : Int) = n4 := (hn4.trans (congrArg (fun m : Nat => (m : Int)) (rlen Nd.encs_eq b2))).symm
 show Tri _ _ _ _
 refine zAe rfl (fun hb => ?_) (fun hb => ?_)
 ·replace h := zAk hb h
  refine zAb ?_
  refine zAa (by exact tokW) (by exact gok) [] [] rfl ?_
  show Tri _ _ _ _
  refine zAi ?_
  have hy := Option.some.inj h
  subst hy
  unfold zAG
  exact ⟨_, Le.refl _ _, rfl, rfl⟩
 ·replace h := zAj hb h
  refine zAg ?_
  show Tri _ _ _ _
  refine zAb ?_
  refine zAb ?_
  refine zAa (by exact tokW) (by exact gok) [] [] rfl ?_
  show Tri _ _ _ _
  obtain ⟨fl, hl, ho1⟩ := zAc h
  refine zCY (fl := fl) (fun z => match z with | _ => ⟨ofL [], fun _ => none, 0⟩) ?_ (fun z σ' hz hle => ?_)
  ·refine zAp (zAJ (X := Nat × Int) (fun y => match y with | (k, i5) => ⟨ofL [(0, .s (.sl 4 (Nd.encs a1))), (1, .s (.sl 4 (Nd.encs b2))), (5, .s (.int .i64 i5))], fun _ => none, 0⟩) (fun y => zBu (zBo n) a1 b2 y.1 y.2 = some fl) (fun y => y.1) (n, 0) hl ?_ ?_)
   ·exact (Le.forget _ ⟨rfl, rfl, rfl, trivial⟩)
   ·rintro ⟨k, i5⟩ h
    cases k with
    | zero => cases h
    | succ k =>
     replace h : zBu (zBo n) a1 b2 (k+1) i5 = some fl := h
     rw [zBu] at h
     refine zAb ?_
     refine zAb ?_
     refine zAa (by exact tokW) (by exact gok) [] [13] rfl ?_
     intro n6 hn6
     obtain rfl : (a1.length : Int) = n6 := (hn6.trans (congrArg (fun m : Nat => (m : Int)) (rlen Nd.encs_eq a1))).symm
     show Tri _ _ _ _
     refine zAe rfl (fun hb => ?_) (fun hb => ?_)
     ·replace h := zAk hb h
      refine zAg ?_
      show Tri _ _ _ _
      refine zAb ?_
      refine zAp ?_
      refine zAb ?_
      refine zAC (by exact tokW) (by exact gok) (by exact mixed) [] [19, 23] [] rfl (by decide +kernel) ?_
      obtain ⟨⟨e7_kind, e7_text, e7_cols, e7_kids⟩, he7, h⟩ := zAc h
      refine And.intro (zAw Nd.encs_eq he7).1 ?_
      intro r8 hr8
      obtain rfl : [.int .i64 e7_kind, .str e7_text, .int .i64 e7_cols, .sl 4 (Nd.encs e7_kids)] = r8 := (hr8.trans (zAw Nd.encs_eq he7).2.1).symm
      obtain ⟨⟨e9_kind, e9_text, e9_cols, e9_kids⟩, he9, h⟩ := zAc h
      refine And.intro (zAw Nd.encs_eq he9).1 ?_
      intro r10 hr10
      obtain rfl : [.int .i64 e9_kind, .str e9_text, .int .i64 e9_cols, .sl 4 (Nd.encs e9_kids)] = r10 := (hr10.trans (zAw Nd.encs_eq he9).2.1).symm
      obtain ⟨y11, hy11, h⟩ := zAc h
      refine ⟨_, ⟨_, _, _, hy11, rfl, rfl⟩, ?_⟩
      show Tri _ _ _ _
      refine zAe rfl (fun hb => ?_) (fun hb => ?_)
      ·replace h := zAk hb h
       refine zAb ?_
       refine zAa (by exact tokW) (by exact gok) [] [] rfl ?_
       show Tri _ _ _ _
       refine zAi ?_
       cases h
       replace h : some _ = some _ := ho1
       have hy := Option.some.inj h
       subst hy
       unfold zAG
       exact ⟨_, Le.refl _ _, rfl, rfl⟩
      ·replace h := zAj hb h
       refine zAg ?_
       show Tri _ _ _ _
       refine zAa (by exact tokW) (by exact gok) [] [] rfl ?_
       refine ⟨(k, IntKind.i64.wrap (i5 + 1)), h, (Le.forget _ ⟨rfl, rfl, rfl, trivial⟩), Nat.lt_succ_self k⟩
     ·replace h := zAj hb h
      refine zAL ?_
      cases h
      exact ⟨_, rfl, (Le.forget _ trivial)⟩
  ·subst hz
   obtain _ := z
   replace h := ho1
   show Tri _ _ _ _
   refine zAm hle ?_
   refine zAb ?_
   refine zAa (by exact tokW) (by exact gok) [] [] rfl ?_
   show Tri _ _ _ _
   refine zAi ?_
   have hy := Option.some.inj h
   subst hy
   unfold zAG
   exact ⟨_, Le.refl _ _, rfl, rfl⟩
theorem zG8 : ∀ n, PSound Tryz.prog 10 (zAI (zDU n)) ∧ PSound Tryz.prog 22 (zAI (zCn n)) := by
 intro n
 induction n with
 | zero =>
  refine ⟨?_, ?_⟩
  ·exact zB5 Tryz.call10 (fun xs r h => by obtain ⟨_, _, _, h, _⟩ := h; rw [zBo] at h; cases h)
  ·exact zB5 Tryz.call22 (fun xs r h => by obtain ⟨_, _, _, h, _⟩ := h; rw [zB3] at h; cases h)
 | succ n ih =>
  obtain ⟨ih_r09_Equal, ih_r09_SameItems⟩ := ih
  exact ⟨zLr n ih_r09_Equal ih_r09_SameItems, zIk n ih_r09_Equal ih_r09_SameItems⟩
def zFW : zAy := zAI fun xs r => ∃ n, zDU n xs r
theorem zGy : PSound Tryz.prog 10 zFW := zDe (fun n => (zG8 n).1)
def zGn : zAy := zAI fun xs r => ∃ n, zCn n xs r
theorem zJt : PSound Tryz.prog 22 zGn := zDe (fun n => (zG8 n).2)
def zPd (n : Nat) (xs : List AV) (r : Ret) : Prop := ∃ (y0 : Bool), zF1 n = some y0 ∧ xs = [] ∧ r = .val (.s (.bool y0))
def zJP : zAy := zAI fun xs r => ∃ n, zPd n xs r
theorem zOs : PSound Tryz.prog 6 zJP := by
 have gok : ∀ f s, look? f [(19, zHN), (8, zEr), (10, zFW)] = some s → PSound Tryz.prog f s := zAA (by
  simp only [List.forall_mem_cons]
  exact ⟨zLc, zFt, zGy, by simp⟩)
 refine zAM tokW Tryz.call6 Tryz.func6 rfl (fun xs r h => by obtain ⟨n, _, _, rfl, _⟩ := h; show 0 ≤ 24; decide) 24 rfl ?_
 rintro xs r w0 G0 ⟨n, y0, h, rfl, rfl⟩ _
 rw [zF1] at h
 refine zAb ?_
 refine zAa (by exact tokW) (by exact gok) [] [] rfl ?_
 show Tri _ _ _ _
 refine zAb ?_
 refine zAa (by exact tokW) (by exact gok) [1] [] rfl ?_
 obtain ⟨⟨y1_kind, y1_text, y1_cols, y1_kids⟩, hy1, h⟩ := zAc h
 refine ⟨_, ⟨_, _, _, hy1, rfl, rfl⟩, ?_⟩
 obtain ⟨⟨y2_kind, y2_text, y2_cols, y2_kids⟩, hy2, h⟩ := zAc h
 refine ⟨_, ⟨_, _, _, hy2, rfl, rfl⟩, ?_⟩
 obtain ⟨⟨y3_kind, y3_text, y3_cols, y3_kids⟩, hy3, h⟩ := zAc h
 refine ⟨_, ⟨_, _, _, hy3, rfl, rfl⟩, ?_⟩
 obtain ⟨⟨⟨y4_kind, y4_text, y4_cols, y4_kids⟩, y5, y6⟩, hy4, h⟩ := zAc h
 refine ⟨_, ⟨_, _, _, _, _, _, _, hy4, rfl, rfl⟩, ?_⟩
 show Tri _ _ _ _
 refine zAm (Le.giveBox 0 [.int .i64 y4_kind, .str y4_text, .int .i64 y4_cols, .sl 4 (Nd.encs y4_kids)] rfl rfl) ?_
 refine zAb ?_
 obtain ⟨x7, hj, h⟩ := zAc h
 refine zAq ⟨ofL [(0, .s (.bool x7))], fun _ => none, 0⟩ ?_ (fun σ' hle => ?_)
 ·replace h := hj
  refine zAC (by exact tokW) (by exact gok) (by exact mixed) [] [14, 16, 19] [] rfl (by decide +kernel) ?_
  intro b hb
  cases b with
  | true =>
   replace h := zAk hb.symm h
   intro n8 hn8
   obtain rfl : (y5.length : Int) = n8 := (hn8.trans (congrArg (fun m : Nat => (m : Int)) (rlen (fun _ => rfl) y5))).symm
   intro b hb
   cases b with
   | true =>
    replace h := zAk hb.symm h
    obtain ⟨⟨y9_kind, y9_text, y9_cols, y9_kids⟩, hy9, h⟩ := zAc h
    refine ⟨_, ⟨_, _, _, hy9, rfl, rfl⟩, ?_⟩
    obtain ⟨y10, hy10, h⟩ := zAc h
    refine ⟨_, ⟨_, _, _, _, hy10, rfl, rfl⟩, ?_⟩
    cases h
    exact (Le.rename [] _ [] 0 ⟨rfl, trivial⟩ trivial rfl rfl rfl rfl rfl)
   | false =>
    replace h := zAj hb.symm h
    cases h
    exact (Le.rename [] _ [] 0 ⟨rfl, trivial⟩ trivial rfl rfl rfl rfl rfl)
  | false =>
   replace h := zAj hb.symm h
   intro b hb
   subst hb
   cases h
   exact (Le.rename [] _ [] 0 ⟨rfl, trivial⟩ trivial rfl rfl rfl rfl rfl)
 ·show Tri _ _ _ _
  refine zAm hle ?_
  refine zAi ?_
  have hy := Option.some.inj h
  subst hy
  unfold zAG
  exact ⟨_, Le.refl _ _, rfl, rfl⟩
def zFz (n : Nat) (xs : List AV) (r : Ret) : Prop := ∃ (a0 : Nd) (a1 : Int) (y0 : Int), zDc n a0 a1 = some y0 ∧ xs = [.agg ((Nd.enc a0).map .s), .s (.int .i64 a1)] ∧ r = .val (.s (.int .i64 y0))
theorem zNg (n : Nat) (ih : PSound Tryz.prog 23 (zAI (zFz n))) : PSound Tryz.prog 23 (zAI (zFz (n + 1))) := by
 have gok : ∀ f s, look? f [(23, zAI (zFz n))] = some s → PSound Tryz.prog f s := zAA (by
  simp only [List.forall_mem_cons]
  exact ⟨ih, by simp⟩)
 refine zAM tokW Tryz.call23 Tryz.func23 rfl (fun xs r h => by obtain ⟨_, _, _, _, rfl, _⟩ := h; show 2 ≤ 27; decide) 27 rfl ?_
 rintro xs r w0 G0 ⟨⟨n1_kind, n1_text, n1_cols, n1_kids⟩, most2, y0, h, rfl, rfl⟩ _
 rw [zDc] at h
 refine zAb ?_
 refine zAa (by exact tokW) (by exact gok) [] [] rfl ?_
 show Tri _ _ _ _
 refine zAb ?_
 refine zAa (by exact tokW) (by exact gok) [] [] rfl ?_
 show Tri _ _ _ _
 refine zAb ?_
 refine zAb ?_
 refine zAa (by exact tokW) (by exact gok) [] [] rfl ?_
 show Tri _ _ _ _
 obtain ⟨most5, hl, h⟩ := zAc h
 refine zAq ⟨ofL [(1, .s (.int .i64 most5))], fun _ => none, 0⟩ ?_ (fun σ' hle => ?_)
 ·refine zAp (zAJ (X := Nat × Int × Int) (fun y => match y with | (k, most3, i4) => ⟨ofL [(1, .s (.int .i64 most3)), (2, .s (.pt [.int .i64 n1_kind, .str n1_text, .int .i64 n1_cols, .sl 4 (Nd.encs n1_kids)])), (5, .s (.int .i64 i4))], fun _ => none, 0⟩) (fun y => zCf (zDc n) n1_kids y.1 y.2.1 y.2.2 = some most5) (fun y => y.1) (n, IntKind.i64.wrap (most2 - 1), 0) hl ?_ ?_)
  ·exact (Le.forget _ ⟨rfl, rfl, rfl, trivial⟩)
  ·rintro ⟨k, most3, i4⟩ h
   cases k with
   | zero => cases h
   | succ k =>
    replace h : zCf (zDc n) n1_kids (k+1) most3 i4 = some most5 := h
    rw [zCf] at h
    refine zAb ?_
    refine zAb ?_
    obtain ⟨x6, hj, h⟩ := zAc h
    refine zAq ⟨ofL [(1, .s (.int .i64 most3)), (2, .s (.pt [.int .i64 n1_kind, .str n1_text, .int .i64 n1_cols, .sl 4 (Nd.encs n1_kids)])), (5, .s (.int .i64 i4)), (16, .s (.bool x6))], fun _ => none, 0⟩ ?_ (fun σ' hle => ?_)
    ·replace h := hj
     refine zAa (by exact tokW) (by exact gok) [] [11, 13] rfl ?_
     intro n7 hn7
     obtain rfl : (n1_kids.length : Int) = n7 := (hn7.trans (congrArg (fun m : Nat => (m : Int)) (rlen Nd.encs_eq n1_kids))).symm
     intro b hb
     cases b with
     | true =>
      replace h := zAk hb.symm h
      cases h
      exact (Le.forget _ ⟨rfl, rfl, rfl, rfl, trivial⟩)
     | false =>
      replace h := zAj hb.symm h
      cases h
      exact (Le.forget _ ⟨rfl, rfl, rfl, rfl, trivial⟩)
    ·show Tri _ _ _ _
     refine zAm hle ?_
     refine zAe rfl (fun hb => ?_) (fun hb => ?_)
     ·replace h := zAk hb h
      refine zAg ?_
      show Tri _ _ _ _
      refine zAb ?_
      refine zAp ?_
      refine zAa (by exact tokW) (by exact gok) [] [22] rfl ?_
      obtain ⟨⟨e8_kind, e8_text, e8_cols, e8_kids⟩, he8, h⟩ := zAc h
      refine And.intro (zAw Nd.encs_eq he8).1 ?_
      intro r9 hr9
      obtain rfl : [.int .i64 e8_kind, .str e8_text, .int .i64 e8_cols, .sl 4 (Nd.encs e8_kids)] = r9 := (hr9.trans (zAw Nd.encs_eq he8).2.1).symm
      obtain ⟨y10, hy10, h⟩ := zAc h
      refine ⟨_, ⟨_, _, _, hy10, rfl, rfl⟩, ?_⟩
      show Tri _ _ _ _
      refine zAa (by exact tokW) (by exact gok) [] [] rfl ?_
      refine ⟨(k, y10, IntKind.i64.wrap (i4 + 1)), h, (Le.forget _ ⟨rfl, rfl, rfl, trivial⟩), Nat.lt_succ_self k⟩
     ·replace h := zAj hb h
      refine zAL ?_
      cases h
      exact (Le.forget _ ⟨rfl, trivial⟩)
 ·show Tri _ _ _ _
  refine zAm hle ?_
  refine zAb ?_
  refine zAa (by exact tokW) (by exact gok) [] [] rfl ?_
  show Tri _ _ _ _
  refine zAi ?_
  have hy := Option.some.inj h
  subst hy
  unfold zAG
  exact ⟨_, Le.refl _ _, rfl, rfl⟩
theorem zNP : ∀ n, PSound Tryz.prog 23 (zAI (zFz n)) := by
 intro n
 induction n with
 | zero => exact zB5 Tryz.call23 (fun xs r h => by obtain ⟨_, _, _, h, _⟩ := h; cases h)
 | succ n ih => exact zNg n ih
def zLy : zAy := zAI fun xs r => ∃ n, zFz n xs r
theorem zPG : PSound Tryz.prog 23 zLy := zDe zNP
def zRj (n : Nat) (xs : List AV) (r : Ret) : Prop := ∃ (a0 : Nd) (a1 : Int) (y0 : Bool), zDK n a0 a1 = some y0 ∧ xs = [.agg ((Nd.enc a0).map .s), .s (.int .i64 a1)] ∧ r = .val (.s (.bool y0))
def zHS : zAy := zAI fun xs r => ∃ n, zRj n xs r
theorem zIy : PSound Tryz.prog 13 zHS := by
 have gok : ∀ f s, look? f [(23, zLy)] = some s → PSound Tryz.prog f s := zAA (by
  simp only [List.forall_mem_cons]
  exact ⟨zPG, by simp⟩)
 refine zAM tokW Tryz.call13 Tryz.func13 rfl (fun xs r h => by obtain ⟨n, _, _, _, _, rfl, _⟩ := h; show 2 ≤ 9; decide) 9 rfl ?_
 rintro xs r w0 G0 ⟨n, ⟨n1_kind, n1_text, n1_cols, n1_kids⟩, most2, y0, h, rfl, rfl⟩ _
 rw [zDK] at h
 refine zAb ?_
 refine zAa (by exact tokW) (by exact gok) [] [] rfl ?_
 show Tri _ _ _ _
 refine zAb ?_
 refine zAa (by exact tokW) (by exact gok) [] [] rfl ?_
 obtain ⟨y3, hy3, h⟩ := zAc h
 refine ⟨_, ⟨_, _, _, _, hy3, rfl, rfl⟩, ?_⟩
 show Tri _ _ _ _
 refine zAi ?_
 have hy := Option.some.inj h
 subst hy
 unfold zAG
 exact ⟨_, Le.refl _ _, rfl, rfl⟩
def zPh (xs : List AV) (r : Ret) : Prop := ∃ (a0 : List Nd) (y0 : Nd), zCz a0 = some y0 ∧ xs = [.s (.sl 4 (Nd.encs a0))] ∧ r = .val (.agg ((Nd.enc y0).map .s))
def zEL : zAy := zAI fun xs r => zPh xs r
theorem zFh : PSound Tryz.prog 29 zEL := by
 have gok : ∀ (f : Nat) (s : zAy), (fun _ => none : Nat → Option zAy) f = some s → PSound Tryz.prog f s := fun _ _ h => by cases h
 refine zAM tokW Tryz.call29 Tryz.func29 rfl (fun xs r h => by obtain ⟨_, _, _, rfl, _⟩ := h; show 1 ≤ 5; decide) 5 rfl ?_
 rintro xs r w0 G0 ⟨l1, y0, h, rfl, rfl⟩ _
 rw [zCz] at h
 refine zAb ?_
 refine zAa (by exact tokW) (by exact gok) [2] [] rfl ?_
 show Tri _ _ _ _
 refine zAb ?_
 refine zAa (by exact tokW) (by exact gok) [] [] rfl ?_
 show Tri _ _ _ _
 refine zAi ?_
 have hy := Option.some.inj h
 subst hy
 unfold zAG
 exact ⟨_, Le.refl _ _, rfl, rfl⟩
def zAQ (p : (Int × List Int × Int × Int × List Nd × Int × List UInt8 × List UInt8)) : List S := [.int .i64 p.1, .sl 1 ((List.map (irow .i64)) p.2.1), .int .i64 p.2.2.1, .int .i64 p.2.2.2.1, .sl 4 (Nd.encs p.2.2.2.2.1), .int .i64 p.2.2.2.2.2.1, .str p.2.2.2.2.2.2.1, .str p.2.2.2.2.2.2.2]
def zRm (n : Nat) (xs : List AV) (r : Ret) : Prop := ∃ (a0 : (Int × List Int × Int × Int × List Nd × Int × List UInt8 × List UInt8)) (y0 : Bool), zGv n a0 = some y0 ∧ xs = [.agg ((zAQ a0).map .s)] ∧ r = .val (.s (.bool y0))
def zNL : zAy := zAI fun xs r => ∃ n, zRm n xs r
theorem zQ1 : PSound Tryz.prog 24 zNL := by
 have gok : ∀ f s, look? f [(29, zEL), (13, zHS)] = some s → PSound Tryz.prog f s := zAA (by
  simp only [List.forall_mem_cons]
  exact ⟨zFh, zIy, by simp⟩)
 refine zAM tokW Tryz.call24 Tryz.func24 rfl (fun xs r h => by obtain ⟨n, _, _, _, rfl, _⟩ := h; show 1 ≤ 13; decide) 13 rfl ?_
 rintro xs r w0 G0 ⟨n, ⟨op1_kind, op1_row, op1_at, op1_n, op1_nodes, op1_slot, op1_old, op1_text⟩, y0, h, rfl, rfl⟩ _
 rw [zGv] at h
 refine zAb ?_
 refine zAa (by exact tokW) (by exact gok) [] [] rfl ?_
 show Tri _ _ _ _
 refine zAb ?_
 obtain ⟨x2, hj, h⟩ := zAc h
 refine zAq ⟨ofL [(2, .s (.bool x2))], fun _ => none, 0⟩ ?_ (fun σ' hle => ?_)
 ·replace h := hj
  refine zAa (by exact tokW) (by exact gok) [] [7, 10] rfl ?_
  obtain ⟨⟨y3_kind, y3_text, y3_cols, y3_kids⟩, hy3, h⟩ := zAc h
  refine ⟨_, ⟨_, _, hy3, rfl, rfl⟩, ?_⟩
  obtain ⟨y4, hy4, h⟩ := zAc h
  refine ⟨_, ⟨_, _, _, _, hy4, rfl, rfl⟩, ?_⟩
  intro b hb
  cases b with
  | true =>
   replace h := zAk hb.symm h
   intro n5 hn5
   obtain rfl : (op1_row.length : Int) = n5 := (hn5.trans (congrArg (fun m : Nat => (m : Int)) (rlen (fun _ => rfl) op1_row))).symm
   cases h
   exact (Le.forget _ ⟨rfl, trivial⟩)
  | false =>
   replace h := zAj hb.symm h
   cases h
   exact (Le.forget _ ⟨rfl, trivial⟩)
 ·show Tri _ _ _ _
  refine zAm hle ?_
  refine zAi ?_
  have hy := Option.some.inj h
  subst hy
  unfold zAG
  exact ⟨_, Le.refl _ _, rfl, rfl⟩
def zNt (n : Nat) (xs : List AV) (r : Ret) : Prop := ∃ (a0 : List Int) (a1 : List Int) (y0 : Bool), zCc n a0 a1 = some y0 ∧ xs = [.s (.sl 1 ((List.map (irow .i64)) a0)), .s (.sl 1 ((List.map (irow .i64)) a1))] ∧ r = .val (.s (.bool y0))
def zGh : zAy := zAI fun xs r => ∃ n, zNt n xs r
theorem zH8 : PSound Tryz.prog 15 zGh := by
 have gok : ∀ (f : Nat) (s : zAy), (fun _ => none : Nat → Option zAy) f = some s → PSound Tryz.prog f s := fun _ _ h => by cases h
 refine zAM tokW Tryz.call15 Tryz.func15 rfl (fun xs r h => by obtain ⟨n, _, _, _, _, rfl, _⟩ := h; show 2 ≤ 26; decide) 26 rfl ?_
 rintro xs r w0 G0 ⟨n, l1, m2, y0, h, rfl, rfl⟩ _
 rw [zCc] at h
 refine zAb ?_
 refine zAa (by exact tokW) (by exact gok) [] [] rfl ?_
 show Tri _ _ _ _
 refine zAb ?_
 refine zAb ?_
 refine zAa (by exact tokW) (by exact gok) [] [7, 9] rfl ?_
 intro n3 hn3
 obtain rfl : (l1.length : Int) = n3 := (hn3.trans (congrArg (fun m : Nat => (m : Int)) (rlen (fun _ => rfl) l1))).symm
 intro n4 hn4
 obtain rfl : (m2.length : Int) = n4 := (hn4.trans (congrArg (fun m : Nat => (m : Int)) (rlen (fun _ => rfl) m2))).symm
 show Tri _ _ _ _
 refine zAe rfl (fun hb => ?_) (fun hb => ?_)
 ·replace h := zAk hb h
  refine zAb ?_
  refine zAa (by exact tokW) (by exact gok) [] [] rfl ?_
  show Tri _ _ _ _
  refine zAi ?_
  have hy := Option.some.inj h
  subst hy
  unfold zAG
  exact ⟨_, Le.refl _ _, rfl, rfl⟩
 ·replace h := zAj hb h
  refine zAg ?_
  show Tri _ _ _ _
  refine zAb ?_
  refine zAb ?_
  refine zAa (by exact tokW) (by exact gok) [] [] rfl ?_
  show Tri _ _ _ _
  obtain ⟨fl, hl, ho1⟩ := zAc h
  refine zCY (fl := fl) (fun z => match z with | _ => ⟨ofL [], fun _ => none, 0⟩) ?_ (fun z σ' hz hle => ?_)
  ·refine zAp (zAJ (X := Nat × Int) (fun y => match y with | (k, i5) => ⟨ofL [(0, .s (.sl 1 ((List.map (irow .i64)) l1))), (1, .s (.sl 1 ((List.map (irow .i64)) m2))), (5, .s (.int .i64 i5))], fun _ => none, 0⟩) (fun y => zB1 l1 m2 y.1 y.2 = some fl) (fun y => y.1) (n, 0) hl ?_ ?_)
   ·exact (Le.forget _ ⟨rfl, rfl, rfl, trivial⟩)
   ·rintro ⟨k, i5⟩ h
    cases k with
    | zero => cases h
    | succ k =>
     replace h : zB1 l1 m2 (k+1) i5 = some fl := h
     rw [zB1] at h
     refine zAb ?_
     refine zAb ?_
     refine zAa (by exact tokW) (by exact gok) [] [13] rfl ?_
     intro n6 hn6
     obtain rfl : (m2.length : Int) = n6 := (hn6.trans (congrArg (fun m : Nat => (m : Int)) (rlen (fun _ => rfl) m2))).symm
     show Tri _ _ _ _
     refine zAe rfl (fun hb => ?_) (fun hb => ?_)
     ·replace h := zAk hb h
      refine zAg ?_
      show Tri _ _ _ _
      refine zAb ?_
      refine zAp ?_
      refine zAb ?_
      refine zAC (by exact tokW) (by exact gok) (by exact mixed) [] [19, 23] [] rfl (by decide +kernel) ?_
      obtain ⟨e7, he7, h⟩ := zAc h
      refine And.intro (zAw (fun _ => rfl) he7).1 ?_
      intro r8 hr8
      obtain rfl : [.int .i64 e7] = r8 := (hr8.trans (zAw (fun _ => rfl) he7).2.1).symm
      obtain ⟨e9, he9, h⟩ := zAc h
      refine And.intro (zAw (fun _ => rfl) he9).1 ?_
      intro r10 hr10
      obtain rfl : [.int .i64 e9] = r10 := (hr10.trans (zAw (fun _ => rfl) he9).2.1).symm
      show Tri _ _ _ _
      refine zAe rfl (fun hb => ?_) (fun hb => ?_)
      ·replace h := zAk hb h
       refine zAb ?_
       refine zAa (by exact tokW) (by exact gok) [] [] rfl ?_
       show Tri _ _ _ _
       refine zAi ?_
       cases h
       replace h : some _ = some _ := ho1
       have hy := Option.some.inj h
       subst hy
       unfold zAG
       exact ⟨_, Le.refl _ _, rfl, rfl⟩
      ·replace h := zAj hb h
       refine zAg ?_
       show Tri _ _ _ _
       refine zAa (by exact tokW) (by exact gok) [] [] rfl ?_
       refine ⟨(k, IntKind.i64.wrap (i5 + 1)), h, (Le.forget _ ⟨rfl, rfl, rfl, trivial⟩), Nat.lt_succ_self k⟩
     ·replace h := zAj hb h
      refine zAL ?_
      cases h
      exact ⟨_, rfl, (Le.forget _ trivial)⟩
  ·subst hz
   obtain _ := z
   replace h := ho1
   show Tri _ _ _ _
   refine zAm hle ?_
   refine zAb ?_
   refine zAa (by exact tokW) (by exact gok) [] [] rfl ?_
   show Tri _ _ _ _
   refine zAi ?_
   have hy := Option.some.inj h
   subst hy
   unfold zAG
   exact ⟨_, Le.refl _ _, rfl, rfl⟩
def zAx (p : (List Int × List (Int × List Int × Int × Int × List Nd × Int × List UInt8 × List UInt8))) : List S := [.sl 1 ((List.map (irow .i64)) p.1), .sl 8 ((List.map zAQ) p.2)]
def zHI (n : Nat) (xs : List AV) (r : Ret) : Prop := ∃ (a0 : (List Int × List (Int × List Int × Int × Int × List Nd × Int × List UInt8 × List UInt8))) (y0 : Bool), zBK n a0 = some y0 ∧ xs = [.agg ((zAx a0).map .s)] ∧ r = .val (.s (.bool y0))
def zE6 : zAy := zAI fun xs r => ∃ n, zHI n xs r
theorem zHz : PSound Tryz.prog 14 zE6 := by
 have gok : ∀ f s, look? f [(24, zNL), (15, zGh)] = some s → PSound Tryz.prog f s := zAA (by
  simp only [List.forall_mem_cons]
  exact ⟨zQ1, zH8, by simp⟩)
 refine zAM tokW Tryz.call14 Tryz.func14 rfl (fun xs r h => by obtain ⟨n, _, _, _, rfl, _⟩ := h; show 1 ≤ 40; decide) 40 rfl ?_
 rintro xs r w0 G0 ⟨n, ⟨d1_path, d1_ops⟩, y0, h, rfl, rfl⟩ _
 rw [zBK] at h
 refine zAb ?_
 refine zAa (by exact tokW) (by exact gok) [] [] rfl ?_
 show Tri _ _ _ _
 refine zAb ?_
 refine zAb ?_
 obtain ⟨x2, hj, h⟩ := zAc h
 refine zAq ⟨ofL [(1, .s (.pt [.sl 1 ((List.map (irow .i64)) d1_path), .sl 8 ((List.map zAQ) d1_ops)])), (13, .s (.bool x2))], fun _ => none, 0⟩ ?_ (fun σ' hle => ?_)
 ·replace h := hj
  refine zAa (by exact tokW) (by exact gok) [] [6, 8, 11] rfl ?_
  intro n3 hn3
  obtain rfl : (d1_ops.length : Int) = n3 := (hn3.trans (congrArg (fun m : Nat => (m : Int)) (rlen (fun _ => rfl) d1_ops))).symm
  intro b hb
  cases b with
  | true =>
   replace h := zAk hb.symm h
   cases h
   exact (Le.forget _ ⟨rfl, rfl, trivial⟩)
  | false =>
   replace h := zAj hb.symm h
   intro n4 hn4
   obtain rfl : (d1_path.length : Int) = n4 := (hn4.trans (congrArg (fun m : Nat => (m : Int)) (rlen (fun _ => rfl) d1_path))).symm
   cases h
   exact (Le.forget _ ⟨rfl, rfl, trivial⟩)
 ·show Tri _ _ _ _
  refine zAm hle ?_
  refine zAe rfl (fun hb => ?_) (fun hb => ?_)
  ·replace h := zAk hb h
   refine zAb ?_
   refine zAa (by exact tokW) (by exact gok) [] [] rfl ?_
   show Tri _ _ _ _
   refine zAi ?_
   have hy := Option.some.inj h
   subst hy
   unfold zAG
   exact ⟨_, Le.refl _ _, rfl, rfl⟩
  ·replace h := zAj hb h
   refine zAg ?_
   show Tri _ _ _ _
   refine zAb ?_
   refine zAb ?_
   refine zAa (by exact tokW) (by exact gok) [] [] rfl ?_
   show Tri _ _ _ _
   obtain ⟨fl, hl, ho1⟩ := zAc h
   refine zCY (fl := fl) (fun z => match z with | _ => ⟨ofL [], fun _ => none, 0⟩) ?_ (fun z σ' hz hle => ?_)
   ·refine zAp (zAJ (X := Nat × Int) (fun y => match y with | (k, i5) => ⟨ofL [(1, .s (.pt [.sl 1 ((List.map (irow .i64)) d1_path), .sl 8 ((List.map zAQ) d1_ops)])), (3, .s (.int .i64 i5))], fun _ => none, 0⟩) (fun y => zBf n d1_path d1_ops y.1 y.2 = some fl) (fun y => y.1) (n, 0) hl ?_ ?_)
    ·exact (Le.forget _ ⟨rfl, rfl, trivial⟩)
    ·rintro ⟨k, i5⟩ h
     cases k with
     | zero => cases h
     | succ k =>
      replace h : zBf n d1_path d1_ops (k+1) i5 = some fl := h
      rw [zBf] at h
      refine zAb ?_
      refine zAb ?_
      refine zAa (by exact tokW) (by exact gok) [] [17] rfl ?_
      intro n6 hn6
      obtain rfl : (d1_ops.length : Int) = n6 := (hn6.trans (congrArg (fun m : Nat => (m : Int)) (rlen (fun _ => rfl) d1_ops))).symm
      show Tri _ _ _ _
      refine zAe rfl (fun hb => ?_) (fun hb => ?_)
      ·replace h := zAk hb h
       refine zAg ?_
       show Tri _ _ _ _
       refine zAb ?_
       refine zAp ?_
       refine zAb ?_
       obtain ⟨x7, hj, h⟩ := zAc h
       refine zAq ⟨ofL [(1, .s (.pt [.sl 1 ((List.map (irow .i64)) d1_path), .sl 8 ((List.map zAQ) d1_ops)])), (3, .s (.int .i64 i5)), (39, .s (.bool x7))], fun _ => none, 0⟩ ?_ (fun σ' hle => ?_)
       ·replace h := hj
        refine zAC (by exact tokW) (by exact gok) (by exact mixed) [] [24, 28, 32] [] rfl (by decide +kernel) ?_
        obtain ⟨⟨e8_kind, e8_row, e8_at, e8_n, e8_nodes, e8_slot, e8_old, e8_text⟩, he8, h⟩ := zAc h
        refine And.intro (zAw (fun _ => rfl) he8).1 ?_
        intro r9 hr9
        obtain rfl : [.int .i64 e8_kind, .sl 1 ((List.map (irow .i64)) e8_row), .int .i64 e8_at, .int .i64 e8_n, .sl 4 (Nd.encs e8_nodes), .int .i64 e8_slot, .str e8_old, .str e8_text] = r9 := (hr9.trans (zAw (fun _ => rfl) he8).2.1).symm
        obtain ⟨y10, hy10, h⟩ := zAc h
        refine ⟨_, ⟨_, _, _, hy10, rfl, rfl⟩, ?_⟩
        intro b hb
        cases b with
        | true =>
         replace h := zAk hb.symm h
         cases h
         exact (Le.forget _ ⟨rfl, rfl, rfl, trivial⟩)
        | false =>
         replace h := zAj hb.symm h
         obtain ⟨⟨e11_kind, e11_row, e11_at, e11_n, e11_nodes, e11_slot, e11_old, e11_text⟩, he11, h⟩ := zAc h
         refine And.intro (zAw (fun _ => rfl) he11).1 ?_
         intro r12 hr12
         obtain rfl : [.int .i64 e11_kind, .sl 1 ((List.map (irow .i64)) e11_row), .int .i64 e11_at, .int .i64 e11_n, .sl 4 (Nd.encs e11_nodes), .int .i64 e11_slot, .str e11_old, .str e11_text] = r12 := (hr12.trans (zAw (fun _ => rfl) he11).2.1).symm
         obtain ⟨y13, hy13, h⟩ := zAc h
         refine ⟨_, ⟨_, _, _, _, hy13, rfl, rfl⟩, ?_⟩
         cases h
         exact (Le.forget _ ⟨rfl, rfl, rfl, trivial⟩)
       ·show Tri _ _ _ _
        refine zAm hle ?_
        refine zAe rfl (fun hb => ?_) (fun hb => ?_)
        ·replace h := zAk hb h
         refine zAb ?_
         refine zAa (by exact tokW) (by exact gok) [] [] rfl ?_
         show Tri _ _ _ _
         refine zAi ?_
         cases h
         replace h : some _ = some _ := ho1
         have hy := Option.some.inj h
         subst hy
         unfold zAG
         exact ⟨_, Le.refl _ _, rfl, rfl⟩
        ·replace h := zAj hb h
         refine zAg ?_
         show Tri _ _ _ _
         refine zAa (by exact tokW) (by exact gok) [] [] rfl ?_
         refine ⟨(k, IntKind.i64.wrap (i5 + 1)), h, (Le.forget _ ⟨rfl, rfl, trivial⟩), Nat.lt_succ_self k⟩
      ·replace h := zAj hb h
       refine zAL ?_
       cases h
       exact ⟨_, rfl, (Le.forget _ trivial)⟩
   ·subst hz
    obtain _ := z
    replace h := ho1
    show Tri _ _ _ _
    refine zAm hle ?_
    refine zAb ?_
    refine zAa (by exact tokW) (by exact gok) [] [] rfl ?_
    show Tri _ _ _ _
    refine zAi ?_
    have hy := Option.some.inj h
    subst hy
    unfold zAG
    exact ⟨_, Le.refl _ _, rfl, rfl⟩
def zNB (xs : List AV) (r : Ret) : Prop := ∃ (a0 : Int) (y0 : Bool), zDC a0 = some y0 ∧ xs = [.s (.int .u8 a0)] ∧ r = .val (.s (.bool y0))
def zGl : zAy := zAI fun xs r => zNB xs r
theorem zIb : PSound Tryz.prog 94 zGl := by
 have gok : ∀ (f : Nat) (s : zAy), (fun _ => none : Nat → Option zAy) f = some s → PSound Tryz.prog f s := fun _ _ h => by cases h
 refine zAM tokW Tryz.call94 Tryz.func94 rfl (fun xs r h => by obtain ⟨_, _, _, rfl, _⟩ := h; show 1 ≤ 17; decide) 17 rfl ?_
 rintro xs r w0 G0 ⟨c1, y0, h, rfl, rfl⟩ _
 rw [zDC] at h
 refine zAb ?_
 refine zAa (by exact tokW) (by exact gok) [] [] rfl ?_
 show Tri _ _ _ _
 refine zAb ?_
 obtain ⟨x2, hj, h⟩ := zAc h
 refine zAq ⟨ofL [(2, .s (.bool x2))], fun _ => none, 0⟩ ?_ (fun σ' hle => ?_)
 ·replace h := hj
  refine zAa (by exact tokW) (by exact gok) [] [5, 9, 12] rfl ?_
  intro b hb
  cases b with
  | true =>
   replace h := zAk hb.symm h
   intro b hb
   cases b with
   | true =>
    replace h := zAk hb.symm h
    cases h
    exact (Le.forget _ ⟨rfl, trivial⟩)
   | false =>
    replace h := zAj hb.symm h
    intro b hb
    cases b with
    | true =>
     replace h := zAk hb.symm h
     cases h
     exact (Le.forget _ ⟨rfl, trivial⟩)
    | false =>
     replace h := zAj hb.symm h
     cases h
     exact (Le.forget _ ⟨rfl, trivial⟩)
  | false =>
   replace h := zAj hb.symm h
   intro b hb
   subst hb
   intro b hb
   cases b with
   | true =>
    replace h := zAk hb.symm h
    cases h
    exact (Le.forget _ ⟨rfl, trivial⟩)
   | false =>
    replace h := zAj hb.symm h
    cases h
    exact (Le.forget _ ⟨rfl, trivial⟩)
 ·show Tri _ _ _ _
  refine zAm hle ?_
  refine zAi ?_
  have hy := Option.some.inj h
  subst hy
  unfold zAG
  exact ⟨_, Le.refl _ _, rfl, rfl⟩
def zRl (n : Nat) (xs : List AV) (r : Ret) : Prop := ∃ (a0 : List UInt8) (a1 : Int) (y0 : Bool), zCW n a0 a1 = some y0 ∧ xs = [.s (.str a0), .s (.int .u8 a1)] ∧ r = .val (.s (.bool y0))
def zJV : zAy := zAI fun xs r => ∃ n, zRl n xs r
theorem zLX : PSound Tryz.prog 77 zJV := by
 have gok : ∀ (f : Nat) (s : zAy), (fun _ => none : Nat → Option zAy) f = some s → PSound Tryz.prog f s := fun _ _ h => by cases h
 refine zAM tokW Tryz.call77 Tryz.func77 rfl (fun xs r h => by obtain ⟨n, _, _, _, _, rfl, _⟩ := h; show 2 ≤ 17; decide) 17 rfl ?_
 rintro xs r w0 G0 ⟨n, s1, c2, y0, h, rfl, rfl⟩ _
 rw [zCW] at h
 refine zAb ?_
 refine zAa (by exact tokW) (by exact gok) [] [] rfl ?_
 show Tri _ _ _ _
 refine zAb ?_
 refine zAb ?_
 refine zAa (by exact tokW) (by exact gok) [] [] rfl ?_
 show Tri _ _ _ _
 obtain ⟨fl, hl, ho1⟩ := zAc h
 refine zCY (fl := fl) (fun z => match z with | _ => ⟨ofL [], fun _ => none, 0⟩) ?_ (fun z σ' hz hle => ?_)
 ·refine zAp (zAJ (X := Nat × Int) (fun y => match y with | (k, i3) => ⟨ofL [(0, .s (.str s1)), (1, .s (.int .u8 c2)), (5, .s (.int .i64 i3))], fun _ => none, 0⟩) (fun y => zCs s1 c2 y.1 y.2 = some fl) (fun y => y.1) (n, 0) hl ?_ ?_)
  ·exact (Le.forget _ ⟨rfl, rfl, rfl, trivial⟩)
  ·rintro ⟨k, i3⟩ h
   cases k with
   | zero => cases h
   | succ k =>
    replace h : zCs s1 c2 (k+1) i3 = some fl := h
    rw [zCs] at h
    refine zAb ?_
    refine zAb ?_
    refine zAa (by exact tokW) (by exact gok) [] [] rfl ?_
    show Tri _ _ _ _
    refine zAe rfl (fun hb => ?_) (fun hb => ?_)
    ·replace h := zAk hb h
     refine zAg ?_
     show Tri _ _ _ _
     refine zAb ?_
     refine zAp ?_
     refine zAb ?_
     refine zAa (by exact tokW) (by exact gok) [] [14] rfl ?_
     obtain ⟨c4, hc4, h⟩ := zAc h
     refine And.intro (zBg hc4).1 ?_
     intro v5 hv5
     obtain rfl : (c4.toNat : Int) = v5 := (hv5.trans (zBg hc4).2).symm
     show Tri _ _ _ _
     refine zAe rfl (fun hb => ?_) (fun hb => ?_)
     ·replace h := zAk hb h
      refine zAb ?_
      refine zAa (by exact tokW) (by exact gok) [] [] rfl ?_
      show Tri _ _ _ _
      refine zAi ?_
      cases h
      replace h : some _ = some _ := ho1
      have hy := Option.some.inj h
      subst hy
      unfold zAG
      exact ⟨_, Le.refl _ _, rfl, rfl⟩
     ·replace h := zAj hb h
      refine zAg ?_
      show Tri _ _ _ _
      refine zAa (by exact tokW) (by exact gok) [] [] rfl ?_
      refine ⟨(k, IntKind.i64.wrap (i3 + 1)), h, (Le.forget _ ⟨rfl, rfl, rfl, trivial⟩), Nat.lt_succ_self k⟩
    ·replace h := zAj hb h
     refine zAL ?_
     cases h
     exact ⟨_, rfl, (Le.forget _ trivial)⟩
 ·subst hz
  obtain _ := z
  replace h := ho1
  show Tri _ _ _ _
  refine zAm hle ?_
  refine zAb ?_
  refine zAa (by exact tokW) (by exact gok) [] [] rfl ?_
  show Tri _ _ _ _
  refine zAi ?_
  have hy := Option.some.inj h
  subst hy
  unfold zAG
  exact ⟨_, Le.refl _ _, rfl, rfl⟩
def zJK (n : Nat) (xs : List AV) (r : Ret) : Prop := ∃ (a0 : Int) (y0 : Bool), zDJ n a0 = some y0 ∧ xs = [.s (.int .u8 a0)] ∧ r = .val (.s (.bool y0))
def zGk : zAy := zAI fun xs r => ∃ n, zJK n xs r
theorem zJr : PSound Tryz.prog 93 zGk := by
 have gok : ∀ f s, look? f [(94, zGl), (77, zJV)] = some s → PSound Tryz.prog f s := zAA (by
  simp only [List.forall_mem_cons]
  exact ⟨zIb, zLX, by simp⟩)
 refine zAM tokW Tryz.call93 Tryz.func93 rfl (fun xs r h => by obtain ⟨n, _, _, _, rfl, _⟩ := h; show 1 ≤ 9; decide) 9 rfl ?_
 rintro xs r w0 G0 ⟨n, c1, y0, h, rfl, rfl⟩ _
 rw [zDJ] at h
 refine zAb ?_
 refine zAa (by exact tokW) (by exact gok) [] [] rfl ?_
 show Tri _ _ _ _
 refine zAb ?_
 obtain ⟨x2, hj, h⟩ := zAc h
 refine zAq ⟨ofL [(2, .s (.bool x2))], fun _ => none, 0⟩ ?_ (fun σ' hle => ?_)
 ·replace h := hj
  refine zAa (by exact tokW) (by exact gok) [] [5] rfl ?_
  obtain ⟨y3, hy3, h⟩ := zAc h
  refine ⟨_, ⟨_, _, hy3, rfl, rfl⟩, ?_⟩
  intro b hb
  cases b with
  | true =>
   replace h := zAk hb.symm h
   cases h
   exact (Le.forget _ ⟨rfl, trivial⟩)
  | false =>
   replace h := zAj hb.symm h
   obtain ⟨y4, hy4, h⟩ := zAc h
   refine ⟨_, ⟨_, _, _, _, hy4, rfl, rfl⟩, ?_⟩
   cases h
   exact (Le.forget _ ⟨rfl, trivial⟩)
 ·show Tri _ _ _ _
  refine zAm hle ?_
  refine zAi ?_
  have hy := Option.some.inj h
  subst hy
  unfold zAG
  exact ⟨_, Le.refl _ _, rfl, rfl⟩
def zBx (p : List UInt8) : List S := [.str p]
def zK3 (xs : List AV) (r : Ret) : Prop := ∃ (y0 : List (List UInt8)), zD5 = some y0 ∧ xs = [] ∧ r = .val (.s (.sl 1 ((List.map zBx) y0)))
def zG5 : zAy := zAI fun xs r => zK3 xs r
theorem zKx : PSound Tryz.prog 95 zG5 := by
 have gok : ∀ (f : Nat) (s : zAy), (fun _ => none : Nat → Option zAy) f = some s → PSound Tryz.prog f s := fun _ _ h => by cases h
 refine zAM tokW Tryz.call95 Tryz.func95 rfl (fun xs r h => by obtain ⟨_, _, rfl, _⟩ := h; show 0 ≤ 2; decide) 2 rfl ?_
 rintro xs r w0 G0 ⟨y0, h, rfl, rfl⟩ _
 rw [zD5] at h
 refine zAb ?_
 refine zAa (by exact tokW) (by exact gok) [] [] rfl ?_
 show Tri _ _ _ _
 refine zAb ?_
 refine zAa (by exact tokW) (by exact gok) [] [1] rfl ?_
 intro r1 hr1
 obtain rfl : (List.map zBx) [[102, 114, 97, 99], [114, 111, 111, 116], [109, 97, 116, 114, 105, 120], [102, 101, 110, 99, 101]] = r1 := (hr1.trans (by simp [List.map_append, List.map_take, List.map_drop, irow, brow, zAK, List.map_cons, List.map_nil, zAD, Nd.encs_eq, Nd.enc, zAn, zAh, zAl, zAu, zAv, zAr, zAB, zAd, zAz, zAt, zAQ, zAx, zBx])).symm
 show Tri _ _ _ _
 refine zAi ?_
 have hy := Option.some.inj h
 subst hy
 unfold zAG
 exact ⟨_, Le.refl _ _, rfl, rfl⟩
end Go.Proofs.YtgfneloodabafaaGreatDoor
