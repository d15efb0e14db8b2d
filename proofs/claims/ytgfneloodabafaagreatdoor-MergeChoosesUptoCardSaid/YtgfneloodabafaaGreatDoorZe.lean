/-
  Joined out of: MzVC, MzVD.
-/
import Derived.Test.YtgfneloodabafaaGreatDoorZd
set_option linter.unusedVariables false
set_option linter.unusedSimpArgs false
set_option maxHeartbeats 2000000
set_option maxRecDepth 100000
namespace Go.Proofs.YtgfneloodabafaaGreatDoor
open Go.Abs
def zJA (n : Nat) (xs : List AV) (r : Ret) : Prop:=∃ (a0 : List Nd) (a1 : List Nd) (y0 : List Int),zCd n a0 a1 = some y0 ∧ xs = [.s (.sl 4 (Nd.encs a0)),.s (.sl 4 (Nd.encs a1))] ∧ r = .row 3 1 ((List.map (irow .i64)) y0)
def zGk : zAB:=zAJ fun xs r => ∃ n,zJA n xs r
theorem zIM : PSound Tryz.prog 40 zGk:=by
 have gok : ∀ f s,look? f [(62,zI2)] = some s → PSound Tryz.prog f s:=zAE (by
  simp only [List.forall_mem_cons]
  exact ⟨zMU,by simp⟩)
 refine zAT tokW Tryz.call40 Tryz.func40 rfl (fun xs r h => by obtain ⟨n,_,_,_,_,rfl,_⟩:=h; show 2 ≤ 45; decide) 45 rfl ?_
 rintro xs r w0 G0 ⟨n,base1,other2,y0,h,rfl,rfl⟩ _
 rw [zCd] at h
 refine zAb ?_
 refine zAa (by exact tokW) (by exact gok) [4] [] rfl ?_
 show Tri _ _ _ _
 refine zAk (Le.rename [] [(0,.s (.sl 4 (Nd.encs base1))),(1,.s (.sl 4 (Nd.encs other2)))] [] 0 ⟨rfl,rfl,trivial⟩ trivial rfl rfl rfl rfl rfl) ?_
 refine zAb ?_
 refine zAa (by exact tokW) (by exact gok) [] [] rfl ?_
 obtain ⟨⟨y3,y4⟩,hy3,h⟩:=zAc h
 refine ⟨_,⟨_,_,_,_,_,hy3,rfl,rfl⟩,?_⟩
 show Tri _ _ _ _
 refine zAb ?_
 refine zAa (by exact tokW) (by exact gok) [21] [20] rfl ?_
 intro n5 hn5
 obtain rfl : (base1.length : Int) = n5:=(hn5.trans (congrArg (fun m : Nat => (m : Int)) (rlen Nd.encs_eq base1))).symm
 obtain ⟨hq,h⟩:=zAF h
 refine And.intro (show 0 ≤ (base1.length : Int) ∧ (base1.length : Int) ≤ (base1.length : Int) ∧ (base1.length : Int) * ((8 : Nat) : Int) ≤ 281474976710656 ∧ (base1.length : Int) ≤ 281474976710656 from ⟨hq.1,Int.le_refl _,by have h1:=hq.1; have h2:=hq.2; omega,by have h2:=hq.2; omega⟩) ?_
 show Tri _ _ _ _
 refine zAk (Le.rename [(0,0)] [(5,.s (.sl 2 ((List.map zAt) y3))),(7,.orow 0)] [(0,.row 3 1 ((List.map (irow .i64)) (List.replicate (base1.length : Int).toNat 0)))] 1 ⟨rfl,rfl,trivial⟩ ⟨rfl,⟨_,rfl,congrArg (Ob.row 3 1) (by simp [List.map_append,List.map_take,List.map_drop,irow,brow,zAC,List.map_cons,List.map_nil,zAz,Nd.encs_eq,Nd.enc,zAg,zAe,zAh,zAo,zAw,zAl,zAt])⟩,trivial⟩ rfl rfl rfl rfl rfl) ?_
 refine zAb ?_
 refine zAb ?_
 refine zAa (by exact tokW) (by exact gok) [] [23] rfl ?_
 intro n6 hn6
 obtain rfl : ((List.replicate (base1.length : Int).toNat 0 : List Int).length : Int) = n6:=(hn6.trans (congrArg (fun m : Nat => (m : Int)) (rlen (fun _ => rfl) (List.replicate (base1.length : Int).toNat 0 : List Int)))).symm
 show Tri _ _ _ _
 obtain ⟨l9,hl,h⟩:=zAc h
 refine zAp ⟨ofL [(5,.s (.sl 2 ((List.map zAt) y3))),(7,.orow 0)],ofH [(0,.row 3 1 ((List.map (irow .i64)) l9))],1⟩ ?_ (fun σ' hle => ?_)
 ·refine zAn (zAG (X:=Nat × Int × (List Int)) (fun y => match y with | (k,x7,l8) => ⟨ofL [(5,.s (.sl 2 ((List.map zAt) y3))),(7,.orow 0),(23,.s (.int .i64 ((List.replicate (base1.length : Int).toNat 0 : List Int).length : Int))),(24,.s (.int .i64 x7))],ofH [(0,.row 3 1 ((List.map (irow .i64)) l8))],1⟩) (fun y => zBu base1 y.1 y.2.1 y.2.2 = some l9) (fun y => y.1) (n,0,List.replicate (base1.length : Int).toNat 0) hl ?_ ?_)
  ·exact (Le.rename [(0,0)] _ _ _ ⟨rfl,rfl,rfl,rfl,trivial⟩ ⟨rfl,⟨_,rfl,rfl⟩,trivial⟩ rfl rfl rfl rfl rfl)
  ·rintro ⟨k,x7,l8⟩ h
   cases k with
   | zero => cases h
   | succ k =>
    replace h : zBu base1 (k+1) x7 l8 = some l9:=h
    rw [zBu] at h
    refine zAb ?_
    refine zAa (by exact tokW) (by exact gok) [] [] rfl ?_
    show Tri _ _ _ _
    refine zAb ?_
    refine zAf rfl (fun hb => ?_) (fun hb => ?_)
    ·replace h:=zAs hb h
     refine zAj ?_
     show Tri _ _ _ _
     refine zAb ?_
     refine zAn ?_
     refine zAb ?_
     refine zAa (by exact tokW) (by exact gok) [] [] rfl ?_
     show Tri _ _ _ _
     refine zAa (by exact tokW) (by exact gok) [] [] rfl ?_
     obtain ⟨e10,he10,h⟩:=zAc h
     refine And.intro (zAA (fun _ => rfl) he10).1 ?_
     have hset11:=(rset (R:=(List.map (irow .i64))) (f:=(irow .i64)) (fun _ => rfl) he10 (-1) 0 1 [.int .i64 (-1)] rfl)
     have hat11:=at_set he10 (-1)
     refine And.intro (zAA (fun _ => rfl) he10).2.2 ?_
     show Tri _ _ _ _
     refine zAk (Le.rename [(0,0)] [(5,.s (.sl 2 ((List.map zAt) y3))),(7,.orow 0),(23,.s (.int .i64 ((List.replicate (base1.length : Int).toNat 0 : List Int).length : Int))),(24,.s (.int .i64 x7))] [(0,.row 3 1 ((List.map (irow .i64)) (l8.set x7.toNat (-1))))] 1 ⟨rfl,rfl,rfl,rfl,trivial⟩ ⟨rfl,⟨_,rfl,congrArg (Ob.row 3 1) hset11⟩,trivial⟩ rfl rfl rfl rfl rfl) ?_
     refine zAa (by exact tokW) (by exact gok) [] [] rfl ?_
     refine ⟨(k,IntKind.i64.wrap (x7 + 1),l8.set x7.toNat (-1)),h,(Le.rename [(0,0)] _ _ _ ⟨rfl,rfl,rfl,rfl,trivial⟩ ⟨rfl,⟨_,rfl,rfl⟩,trivial⟩ rfl rfl rfl rfl rfl),Nat.lt_succ_self k⟩
    ·replace h:=zAr hb h
     refine zAK ?_
     cases h
     exact (Le.rename [(0,0)] _ _ _ ⟨rfl,rfl,trivial⟩ ⟨rfl,⟨_,rfl,rfl⟩,trivial⟩ rfl rfl rfl rfl rfl)
 ·show Tri _ _ _ _
  refine zAk hle ?_
  refine zAb ?_
  refine zAb ?_
  refine zAa (by exact tokW) (by exact gok) [] [32] rfl ?_
  intro n12 hn12
  obtain rfl : (y3.length : Int) = n12:=(hn12.trans (congrArg (fun m : Nat => (m : Int)) (rlen (fun _ => rfl) y3))).symm
  show Tri _ _ _ _
  obtain ⟨l15,hl,h⟩:=zAc h
  refine zAp ⟨ofL [(7,.orow 0)],ofH [(0,.row 3 1 ((List.map (irow .i64)) l15))],1⟩ ?_ (fun σ' hle => ?_)
  ·refine zAn (zAG (X:=Nat × Int × (List Int)) (fun y => match y with | (k,x13,l14) => ⟨ofL [(7,.orow 0),(31,.s (.sl 2 ((List.map zAt) y3))),(32,.s (.int .i64 (y3.length : Int))),(33,.s (.int .i64 x13))],ofH [(0,.row 3 1 ((List.map (irow .i64)) l14))],1⟩) (fun y => zBv y3 y.1 y.2.1 y.2.2 = some l15) (fun y => y.1) (n,0,l9) hl ?_ ?_)
   ·exact (Le.rename [(0,0)] _ _ _ ⟨rfl,rfl,rfl,rfl,trivial⟩ ⟨rfl,⟨_,rfl,rfl⟩,trivial⟩ rfl rfl rfl rfl rfl)
   ·rintro ⟨k,x13,l14⟩ h
    cases k with
    | zero => cases h
    | succ k =>
     replace h : zBv y3 (k+1) x13 l14 = some l15:=h
     rw [zBv] at h
     refine zAb ?_
     refine zAa (by exact tokW) (by exact gok) [] [] rfl ?_
     show Tri _ _ _ _
     refine zAb ?_
     refine zAf rfl (fun hb => ?_) (fun hb => ?_)
     ·replace h:=zAs hb h
      refine zAj ?_
      show Tri _ _ _ _
      refine zAb ?_
      refine zAn ?_
      refine zAb ?_
      refine zAa (by exact tokW) (by exact gok) [10] [35] rfl ?_
      obtain ⟨⟨e16_0,e16_1⟩,he16,h⟩:=zAc h
      refine And.intro (zAA (fun _ => rfl) he16).1 ?_
      intro r17 hr17
      obtain rfl : [.int .i64 e16_0,.int .i64 e16_1] = r17:=(hr17.trans (zAA (fun _ => rfl) he16).2.1).symm
      show Tri _ _ _ _
      refine zAk (Le.giveBox 1 [.int .i64 e16_0,.int .i64 e16_1] rfl rfl) ?_
      refine zAa (by exact tokW) (by exact gok) [] [] rfl ?_
      refine And.intro (by decide) ?_
      refine And.intro (by decide) ?_
      obtain ⟨e18,he18,h⟩:=zAc h
      refine And.intro (zAA (fun _ => rfl) he18).1 ?_
      have hset19:=(rset (R:=(List.map (irow .i64))) (f:=(irow .i64)) (fun _ => rfl) he18 e16_1 0 1 [.int .i64 e16_1] rfl)
      have hat19:=at_set he18 e16_1
      refine And.intro (zAA (fun _ => rfl) he18).2.2 ?_
      show Tri _ _ _ _
      refine zAk (Le.rename [(0,0)] [(7,.orow 0),(31,.s (.sl 2 ((List.map zAt) y3))),(32,.s (.int .i64 (y3.length : Int))),(33,.s (.int .i64 x13))] [(0,.row 3 1 ((List.map (irow .i64)) (l14.set e16_0.toNat e16_1)))] 1 ⟨rfl,rfl,rfl,rfl,trivial⟩ ⟨rfl,⟨_,rfl,congrArg (Ob.row 3 1) hset19⟩,trivial⟩ rfl rfl rfl rfl rfl) ?_
      refine zAa (by exact tokW) (by exact gok) [] [] rfl ?_
      refine ⟨(k,IntKind.i64.wrap (x13 + 1),l14.set e16_0.toNat e16_1),h,(Le.rename [(0,0)] _ _ _ ⟨rfl,rfl,rfl,rfl,trivial⟩ ⟨rfl,⟨_,rfl,rfl⟩,trivial⟩ rfl rfl rfl rfl rfl),Nat.lt_succ_self k⟩
     ·replace h:=zAr hb h
      refine zAK ?_
      cases h
      exact (Le.rename [(0,0)] _ _ _ ⟨rfl,trivial⟩ ⟨rfl,⟨_,rfl,rfl⟩,trivial⟩ rfl rfl rfl rfl rfl)
  ·show Tri _ _ _ _
   refine zAk hle ?_
   refine zAb ?_
   refine zAa (by exact tokW) (by exact gok) [] [] rfl ?_
   show Tri _ _ _ _
   refine zAv ?_
   have hy:=Option.some.inj h
   subst hy
   unfold zAQ
   exact ⟨_,Le.refl _ _,0,rfl,rfl⟩
def zEn (n : Nat) (xs : List AV) (r : Ret) : Prop:=∃ (a0 : Nd) (a1 : Nd) (y0 : Bool),zCh n a0 a1 = some y0 ∧ xs = [.agg ((Nd.enc a0).map .s),.agg ((Nd.enc a1).map .s)] ∧ r = .val (.s (.bool y0))
def zBj (n : Nat) (xs : List AV) (r : Ret) : Prop:=∃ (a0 : List Nd) (a1 : List Nd) (y0 : Bool),zA5 n a0 a1 = some y0 ∧ xs = [.s (.sl 4 (Nd.encs a0)),.s (.sl 4 (Nd.encs a1)),.s (.fn 87)] ∧ r = .val (.s (.bool y0))
theorem zKX (n : Nat) (ih_node_Equal : PSound Tryz.prog 87 (zAJ (zEn n))) (ih_slices_EqualFunc_sNode : PSound Tryz.prog 86 (zAJ (zBj n))) : PSound Tryz.prog 87 (zAJ (zEn (n + 1))):=by
 have gok : ∀ f s,look? f [(86,zAJ (zBj n))] = some s → PSound Tryz.prog f s:=zAE (by
  simp only [List.forall_mem_cons]
  exact ⟨ih_slices_EqualFunc_sNode,by simp⟩)
 refine zAT tokW Tryz.call87 Tryz.func87 rfl (fun xs r h => by obtain ⟨_,_,_,_,rfl,_⟩:=h; show 2 ≤ 31; decide) 31 rfl ?_
 rintro xs r w0 G0 ⟨⟨a1_kind,a1_text,a1_cols,a1_kids⟩,⟨b2_kind,b2_text,b2_cols,b2_kids⟩,y0,h,rfl,rfl⟩ _
 rw [zCh] at h
 refine zAb ?_
 refine zAa (by exact tokW) (by exact gok) [] [] rfl ?_
 show Tri _ _ _ _
 refine zAb ?_
 obtain ⟨x3,hj,h⟩:=zAc h
 refine zAp ⟨ofL [(4,.s (.bool x3))],fun _ => none,0⟩ ?_ (fun σ' hle => ?_)
 ·replace h:=hj
  refine zAa (by exact tokW) (by exact gok) [] [10,17,24] rfl ?_
  intro b hb
  cases b with
  | true =>
   replace h:=zAs hb.symm h
   intro b hb
   cases b with
   | true =>
    replace h:=zAs hb.symm h
    intro b hb
    cases b with
    | true =>
     replace h:=zAs hb.symm h
     obtain ⟨y4,hy4,h⟩:=zAc h
     refine ⟨_,⟨_,_,_,hy4,rfl,rfl⟩,?_⟩
     cases h
     exact (Le.forget _ ⟨rfl,trivial⟩)
    | false =>
     replace h:=zAr hb.symm h
     cases h
     exact (Le.forget _ ⟨rfl,trivial⟩)
   | false =>
    replace h:=zAr hb.symm h
    intro b hb
    subst hb
    cases h
    exact (Le.forget _ ⟨rfl,trivial⟩)
  | false =>
   replace h:=zAr hb.symm h
   intro b hb
   subst hb
   intro b hb
   subst hb
   cases h
   exact (Le.forget _ ⟨rfl,trivial⟩)
 ·show Tri _ _ _ _
  refine zAk hle ?_
  refine zAv ?_
  have hy:=Option.some.inj h
  subst hy
  unfold zAQ
  exact ⟨_,Le.refl _ _,rfl,rfl⟩
theorem zFh (n : Nat) (ih_node_Equal : PSound Tryz.prog 87 (zAJ (zEn n))) (ih_slices_EqualFunc_sNode : PSound Tryz.prog 86 (zAJ (zBj n))) : PSound Tryz.prog 86 (zAJ (zBj (n + 1))):=by
 have gok : ∀ f s,look? f [(87,zAJ (zEn n))] = some s → PSound Tryz.prog f s:=zAE (by
  simp only [List.forall_mem_cons]
  exact ⟨ih_node_Equal,by simp⟩)
 refine zAT tokW Tryz.call86 Tryz.func86 rfl (fun xs r h => by obtain ⟨_,_,_,_,rfl,_⟩:=h; show 3 ≤ 32; decide) 32 rfl ?_
 rintro xs r w0 G0 ⟨s11,s22,y0,h,rfl,rfl⟩ _
 rw [zA5] at h
 refine zAb ?_
 refine zAa (by exact tokW) (by exact gok) [] [] rfl ?_
 show Tri _ _ _ _
 refine zAb ?_
 refine zAb ?_
 refine zAa (by exact tokW) (by exact gok) [] [11,13] rfl ?_
 intro n3 hn3
 obtain rfl : (s11.length : Int) = n3:=(hn3.trans (congrArg (fun m : Nat => (m : Int)) (rlen Nd.encs_eq s11))).symm
 intro n4 hn4
 obtain rfl : (s22.length : Int) = n4:=(hn4.trans (congrArg (fun m : Nat => (m : Int)) (rlen Nd.encs_eq s22))).symm
 show Tri _ _ _ _
 refine zAf rfl (fun hb => ?_) (fun hb => ?_)
 ·replace h:=zAs hb h
  refine zAb ?_
  refine zAa (by exact tokW) (by exact gok) [] [] rfl ?_
  show Tri _ _ _ _
  refine zAv ?_
  have hy:=Option.some.inj h
  subst hy
  unfold zAQ
  exact ⟨_,Le.refl _ _,rfl,rfl⟩
 ·replace h:=zAr hb h
  refine zAj ?_
  show Tri _ _ _ _
  refine zAb ?_
  refine zAb ?_
  refine zAa (by exact tokW) (by exact gok) [] [16] rfl ?_
  intro n5 hn5
  obtain rfl : (s11.length : Int) = n5:=(hn5.trans (congrArg (fun m : Nat => (m : Int)) (rlen Nd.encs_eq s11))).symm
  show Tri _ _ _ _
  obtain ⟨fl,hl,ho1⟩:=zAc h
  refine zDY (fl:=fl) (fun z => match z with | _ => ⟨ofL [],fun _ => none,0⟩) ?_ (fun z σ' hz hle => ?_)
  ·refine zAn (zAG (X:=Nat × Int) (fun y => match y with | (k,x6) => ⟨ofL [(1,.s (.sl 4 (Nd.encs s22))),(2,.s (.fn 87)),(15,.s (.sl 4 (Nd.encs s11))),(16,.s (.int .i64 (s11.length : Int))),(17,.s (.int .i64 x6))],fun _ => none,0⟩) (fun y => zAZ (zCh n) s11 s22 y.1 y.2 = some fl) (fun y => y.1) (n,0) hl ?_ ?_)
   ·exact (Le.forget _ ⟨rfl,rfl,rfl,rfl,rfl,trivial⟩)
   ·rintro ⟨k,x6⟩ h
    cases k with
    | zero => cases h
    | succ k =>
     replace h : zAZ (zCh n) s11 s22 (k+1) x6 = some fl:=h
     rw [zAZ] at h
     refine zAb ?_
     refine zAa (by exact tokW) (by exact gok) [] [] rfl ?_
     show Tri _ _ _ _
     refine zAb ?_
     refine zAf rfl (fun hb => ?_) (fun hb => ?_)
     ·replace h:=zAs hb h
      refine zAj ?_
      show Tri _ _ _ _
      refine zAb ?_
      refine zAn ?_
      refine zAb ?_
      refine zAa (by exact tokW) (by exact gok) [8] [20] rfl ?_
      obtain ⟨⟨e7_kind,e7_text,e7_cols,e7_kids⟩,he7,h⟩:=zAc h
      refine And.intro (zAA Nd.encs_eq he7).1 ?_
      intro r8 hr8
      obtain rfl : [.int .i64 e7_kind,.str e7_text,.int .i64 e7_cols,.sl 4 (Nd.encs e7_kids)] = r8:=(hr8.trans (zAA Nd.encs_eq he7).2.1).symm
      show Tri _ _ _ _
      refine zAk (Le.giveBox 0 [.int .i64 e7_kind,.str e7_text,.int .i64 e7_cols,.sl 4 (Nd.encs e7_kids)] rfl rfl) ?_
      refine zAb ?_
      refine zAa (by exact tokW) (by exact gok) [9] [24] rfl ?_
      obtain ⟨⟨e9_kind,e9_text,e9_cols,e9_kids⟩,he9,h⟩:=zAc h
      refine And.intro (zAA Nd.encs_eq he9).1 ?_
      intro r10 hr10
      obtain rfl : [.int .i64 e9_kind,.str e9_text,.int .i64 e9_cols,.sl 4 (Nd.encs e9_kids)] = r10:=(hr10.trans (zAA Nd.encs_eq he9).2.1).symm
      show Tri _ _ _ _
      refine zAk (Le.giveBox 1 [.int .i64 e9_kind,.str e9_text,.int .i64 e9_cols,.sl 4 (Nd.encs e9_kids)] rfl rfl) ?_
      refine zAb ?_
      refine zAa (by exact tokW) (by exact gok) [] [] rfl ?_
      obtain ⟨y11,hy11,h⟩:=zAc h
      refine ⟨_,⟨_,_,_,hy11,rfl,rfl⟩,?_⟩
      show Tri _ _ _ _
      refine zAf rfl (fun hb => ?_) (fun hb => ?_)
      ·replace h:=zAs hb h
       refine zAb ?_
       refine zAa (by exact tokW) (by exact gok) [] [] rfl ?_
       show Tri _ _ _ _
       refine zAv ?_
       cases h
       replace h : some _ = some _:=ho1
       have hy:=Option.some.inj h
       subst hy
       unfold zAQ
       exact ⟨_,Le.refl _ _,rfl,rfl⟩
      ·replace h:=zAr hb h
       refine zAj ?_
       show Tri _ _ _ _
       refine zAa (by exact tokW) (by exact gok) [] [] rfl ?_
       refine ⟨(k,IntKind.i64.wrap (x6 + 1)),h,(Le.rename [] _ [] 0 ⟨rfl,rfl,rfl,rfl,rfl,trivial⟩ trivial rfl rfl rfl rfl rfl),Nat.lt_succ_self k⟩
     ·replace h:=zAr hb h
      refine zAK ?_
      cases h
      exact ⟨_,rfl,(Le.forget _ trivial)⟩
  ·subst hz
   obtain _:=z
   replace h:=ho1
   show Tri _ _ _ _
   refine zAk hle ?_
   refine zAb ?_
   refine zAa (by exact tokW) (by exact gok) [] [] rfl ?_
   show Tri _ _ _ _
   refine zAv ?_
   have hy:=Option.some.inj h
   subst hy
   unfold zAQ
   exact ⟨_,Le.refl _ _,rfl,rfl⟩
theorem zKb : ∀ n,PSound Tryz.prog 87 (zAJ (zEn n)) ∧ PSound Tryz.prog 86 (zAJ (zBj n)):=by
 intro n
 induction n with
 | zero =>
  refine ⟨?_,?_⟩
  ·exact zBF Tryz.call87 (fun xs r h => by obtain ⟨_,_,_,h,_⟩:=h; rw [zCh] at h; cases h)
  ·exact zBF Tryz.call86 (fun xs r h => by obtain ⟨_,_,_,h,_⟩:=h; rw [zA5] at h; cases h)
 | succ n ih =>
  obtain ⟨ih_node_Equal,ih_slices_EqualFunc_sNode⟩:=ih
  exact ⟨zKX n ih_node_Equal ih_slices_EqualFunc_sNode,zFh n ih_node_Equal ih_slices_EqualFunc_sNode⟩
def zDG : zAB:=zAJ fun xs r => ∃ n,zBj n xs r
theorem zFz : PSound Tryz.prog 86 zDG:=zCf (fun n => (zKb n).2)
def zNC (n : Nat) (xs : List AV) (r : Ret) : Prop:=∃ (a0 : List Nd) (a1 : List Nd) (y0 : Bool),zC3 n a0 a1 = some y0 ∧ xs = [.s (.sl 4 (Nd.encs a0)),.s (.sl 4 (Nd.encs a1))] ∧ r = .val (.s (.bool y0))
def zI6 : zAB:=zAJ fun xs r => ∃ n,zNC n xs r
theorem zMY : PSound Tryz.prog 63 zI6:=by
 have gok : ∀ f s,look? f [(86,zDG)] = some s → PSound Tryz.prog f s:=zAE (by
  simp only [List.forall_mem_cons]
  exact ⟨zFz,by simp⟩)
 refine zAT tokW Tryz.call63 Tryz.func63 rfl (fun xs r h => by obtain ⟨n,_,_,_,_,rfl,_⟩:=h; show 2 ≤ 8; decide) 8 rfl ?_
 rintro xs r w0 G0 ⟨n,a1,b2,y0,h,rfl,rfl⟩ _
 rw [zC3] at h
 refine zAb ?_
 refine zAa (by exact tokW) (by exact gok) [] [] rfl ?_
 show Tri _ _ _ _
 refine zAb ?_
 refine zAa (by exact tokW) (by exact gok) [] [] rfl ?_
 obtain ⟨y3,hy3,h⟩:=zAc h
 refine ⟨_,⟨_,_,_,_,hy3,rfl,rfl⟩,?_⟩
 show Tri _ _ _ _
 refine zAv ?_
 have hy:=Option.some.inj h
 subst hy
 unfold zAQ
 exact ⟨_,Le.refl _ _,rfl,rfl⟩
def zNx (n : Nat) (xs : List AV) (r : Ret) : Prop:=∃ (a0 : List Nd) (y0 : List Nd),zBQ n a0 = some y0 ∧ xs = [.s (.sl 4 (Nd.encs a0))] ∧ r = .row 24 4 (Nd.encs y0)
def zGt : zAB:=zAJ fun xs r => ∃ n,zNx n xs r
theorem zIl : PSound Tryz.prog 64 zGt:=by
 have gok : ∀ f s,look? f [(88,zJY)] = some s → PSound Tryz.prog f s:=zAE (by
  simp only [List.forall_mem_cons]
  exact ⟨zOo,by simp⟩)
 refine zAT tokW Tryz.call64 Tryz.func64 rfl (fun xs r h => by obtain ⟨n,_,_,_,rfl,_⟩:=h; show 1 ≤ 20; decide) 20 rfl ?_
 rintro xs r w0 G0 ⟨n,l1,y0,h,rfl,rfl⟩ _
 rw [zBQ] at h
 refine zAb ?_
 refine zAa (by exact tokW) (by exact gok) [2] [] rfl ?_
 show Tri _ _ _ _
 refine zAk (Le.rename [] [(0,.s (.sl 4 (Nd.encs l1)))] [] 0 ⟨rfl,trivial⟩ trivial rfl rfl rfl rfl rfl) ?_
 refine zAb ?_
 refine zAa (by exact tokW) (by exact gok) [3] [] rfl ?_
 show Tri _ _ _ _
 refine zAk (Le.rename [(0,0)] [(0,.s (.sl 4 (Nd.encs l1))),(3,.orow 0)] [(0,.row 24 4 (Nd.encs []))] 1 ⟨rfl,rfl,trivial⟩ ⟨rfl,⟨_,rfl,congrArg (Ob.row 24 4) (by simp [List.map_append,List.map_take,List.map_drop,irow,brow,zAC,List.map_cons,List.map_nil,zAz,Nd.encs_eq,Nd.enc,zAg,zAe,zAh,zAo,zAw,zAl,zAt])⟩,trivial⟩ rfl rfl rfl rfl rfl) ?_
 refine zAb ?_
 refine zAb ?_
 refine zAa (by exact tokW) (by exact gok) [] [6] rfl ?_
 intro n2 hn2
 obtain rfl : (l1.length : Int) = n2:=(hn2.trans (congrArg (fun m : Nat => (m : Int)) (rlen Nd.encs_eq l1))).symm
 show Tri _ _ _ _
 obtain ⟨l6,hl,h⟩:=zAc h
 refine zAp ⟨ofL [(3,.orow 0)],ofH [(0,.row 24 4 (Nd.encs l6))],1⟩ ?_ (fun σ' hle => ?_)
 ·refine zAn (zAG (X:=Nat × Int × (List Nd)) (fun y => match y with | (k,x4,l5) => ⟨ofL [(0,.s (.sl 4 (Nd.encs l1))),(3,.orow 0),(6,.s (.int .i64 (l1.length : Int))),(7,.s (.int .i64 x4))],ofH [(0,.row 24 4 (Nd.encs l5))],1⟩) (fun y => zB9 l1 y.1 y.2.1 y.2.2 = some l6) (fun y => y.1) (n,0,[]) hl ?_ ?_)
  ·exact (Le.rename [(0,0)] _ _ _ ⟨rfl,rfl,rfl,rfl,trivial⟩ ⟨rfl,⟨_,rfl,rfl⟩,trivial⟩ rfl rfl rfl rfl rfl)
  ·rintro ⟨k,x4,l5⟩ h
   cases k with
   | zero => cases h
   | succ k =>
    replace h : zB9 l1 (k+1) x4 l5 = some l6:=h
    rw [zB9] at h
    refine zAb ?_
    refine zAa (by exact tokW) (by exact gok) [] [] rfl ?_
    show Tri _ _ _ _
    refine zAb ?_
    refine zAf rfl (fun hb => ?_) (fun hb => ?_)
    ·replace h:=zAs hb h
     refine zAj ?_
     show Tri _ _ _ _
     refine zAb ?_
     refine zAn ?_
     refine zAb ?_
     refine zAa (by exact tokW) (by exact gok) [] [] rfl ?_
     show Tri _ _ _ _
     refine zAa (by exact tokW) (by exact gok) [17] [13,16] rfl ?_
     obtain ⟨⟨e7_kind,e7_text,e7_cols,e7_kids⟩,he7,h⟩:=zAc h
     refine And.intro (zAA Nd.encs_eq he7).1 ?_
     intro r8 hr8
     obtain rfl : [.int .i64 e7_kind,.str e7_text,.int .i64 e7_cols,.sl 4 (Nd.encs e7_kids)] = r8:=(hr8.trans (zAA Nd.encs_eq he7).2.1).symm
     obtain ⟨⟨y9_kind,y9_text,y9_cols,y9_kids⟩,hy9,h⟩:=zAc h
     refine ⟨_,⟨_,_,hy9,rfl,rfl⟩,?_⟩
     intro r10 hr10
     obtain rfl : Nd.encs [Nd.mk y9_kind y9_text y9_cols y9_kids] = r10:=(hr10.trans (by simp [List.map_append,List.map_take,List.map_drop,irow,brow,zAC,List.map_cons,List.map_nil,zAz,Nd.encs_eq,Nd.enc,zAg,zAe,zAh,zAo,zAw,zAl,zAt])).symm
     obtain ⟨hq,h⟩:=zAF h
     refine And.intro (show ((Nd.encs l5).length + (Nd.encs [Nd.mk y9_kind y9_text y9_cols y9_kids]).length) * 56 ≤ 140737488355328 ∧ (Nd.encs l5).length + (Nd.encs [Nd.mk y9_kind y9_text y9_cols y9_kids]).length ≤ 9223372036854775807 from by simp only [List.length_append,List.length_cons,List.length_nil,List.length_map,rlen Nd.encs_eq] at hq ⊢; omega) ?_
     show Tri _ _ _ _
     refine zAk (Le.rename [(1,0)] [(0,.s (.sl 4 (Nd.encs l1))),(3,.orow 0),(6,.s (.int .i64 (l1.length : Int))),(7,.s (.int .i64 x4))] [(0,.row 24 4 (Nd.encs (l5 ++ [Nd.mk y9_kind y9_text y9_cols y9_kids])))] 1 ⟨rfl,rfl,rfl,rfl,trivial⟩ ⟨rfl,⟨_,rfl,congrArg (Ob.row 24 4) (by simp [List.map_append,List.map_take,List.map_drop,irow,brow,zAC,List.map_cons,List.map_nil,zAz,Nd.encs_eq,Nd.enc,zAg,zAe,zAh,zAo,zAw,zAl,zAt])⟩,trivial⟩ rfl rfl rfl rfl rfl) ?_
     refine zAa (by exact tokW) (by exact gok) [] [] rfl ?_
     refine ⟨(k,IntKind.i64.wrap (x4 + 1),l5 ++ [Nd.mk y9_kind y9_text y9_cols y9_kids]),h,(Le.rename [(0,0)] _ _ _ ⟨rfl,rfl,rfl,rfl,trivial⟩ ⟨rfl,⟨_,rfl,rfl⟩,trivial⟩ rfl rfl rfl rfl rfl),Nat.lt_succ_self k⟩
    ·replace h:=zAr hb h
     refine zAK ?_
     cases h
     exact (Le.rename [(0,0)] _ _ _ ⟨rfl,trivial⟩ ⟨rfl,⟨_,rfl,rfl⟩,trivial⟩ rfl rfl rfl rfl rfl)
 ·show Tri _ _ _ _
  refine zAk hle ?_
  refine zAb ?_
  refine zAa (by exact tokW) (by exact gok) [] [] rfl ?_
  show Tri _ _ _ _
  refine zAv ?_
  have hy:=Option.some.inj h
  subst hy
  unfold zAQ
  exact ⟨_,Le.refl _ _,0,rfl,rfl⟩
def zO9 (xs : List AV) (r : Ret) : Prop:=∃ (a0 : List Int) (y0 : List Int),zE9 a0 = some y0 ∧ xs = [.s (.sl 1 ((List.map (irow .i64)) a0))] ∧ r = .val (.s (.sl 1 ((List.map (irow .i64)) y0)))
def zJX : zAB:=zAJ fun xs r => zO9 xs r
theorem zOn : PSound Tryz.prog 89 zJX:=by
 have gok : ∀ f s,look? f [(102,zE1)] = some s → PSound Tryz.prog f s:=zAE (by
  simp only [List.forall_mem_cons]
  exact ⟨zHa,by simp⟩)
 refine zAT tokW Tryz.call89 Tryz.func89 rfl (fun xs r h => by obtain ⟨_,_,_,rfl,_⟩:=h; show 1 ≤ 5; decide) 5 rfl ?_
 rintro xs r w0 G0 ⟨l1,y0,h,rfl,rfl⟩ _
 rw [zE9] at h
 refine zAb ?_
 refine zAa (by exact tokW) (by exact gok) [] [] rfl ?_
 show Tri _ _ _ _
 refine zAb ?_
 refine zAa (by exact tokW) (by exact gok) [] [] rfl ?_
 obtain ⟨y2,hy2,h⟩:=zAc h
 refine ⟨_,⟨_,_,hy2,rfl,rfl⟩,?_⟩
 show Tri _ _ _ _
 refine zAv ?_
 have hy:=Option.some.inj h
 subst hy
 unfold zAQ
 exact ⟨_,Le.refl _ _,rfl,rfl⟩
def zAd (p : (List Int × Int × Int × List Nd × List Nd)) : List S:=[.sl 1 ((List.map (irow .i64)) p.1),.int .i64 p.2.1,.int .i64 p.2.2.1,.sl 4 (Nd.encs p.2.2.2.1),.sl 4 (Nd.encs p.2.2.2.2)]
def zAu (p : (List Nd × List Nd × List Nd)) : List S:=[.sl 4 (Nd.encs p.1),.sl 4 (Nd.encs p.2.1),.sl 4 (Nd.encs p.2.2)]
def zAm (p : (Int × List (List Int × Int × Int × List Nd × List Nd))) : List S:=[.int .i64 p.1,.sl 5 ((List.map zAd) p.2)]
def zF3 (n : Nat) (xs : List AV) (os : List Ob) (x : AV) (os' : List (Option Ob)) : Prop:=∃ (a0 : (Int × List (List Int × Int × Int × List Nd × List Nd))) (a1 : List Int) (a2 : Int) (a3 : (List Nd × List Nd × List Nd)) (y0 : List Nd) (z0 : (Int × List (List Int × Int × Int × List Nd × List Nd))),zBm n a0 a1 a2 a3 = some (y0,z0) ∧ xs = [.op 0 0,.s (.sl 1 ((List.map (irow .i64)) a1)),.s (.int .i64 a2),.agg ((zAu a3).map .s)] ∧ os = [.box 47 (((zAm a0).map .s).set 1 (.orow 1)),.row 52 5 ((List.map zAd) a0.2)] ∧ x = .s (.sl 4 (Nd.encs y0)) ∧ os' = [some (.box 47 (((zAm z0).map .s).set 1 (.orow 2))),none,some (.row 52 5 ((List.map zAd) z0.2))]
def zCD : zAB:=zBN (fun xs os x os' => ∃ n,zF3 n xs os x os')
theorem zDM : PSound Tryz.prog 65 zCD:=by
 have gok : ∀ f s,look? f [(89,zJX),(64,zGt)] = some s → PSound Tryz.prog f s:=zAE (by
  simp only [List.forall_mem_cons]
  exact ⟨zOn,zIl,by simp⟩)
 refine PSound.withNil (zD3 tokW Tryz.call65 Tryz.func65 rfl (fun xs os x os' h => by obtain ⟨n,_,_,_,_,_,_,_,rfl,rfl,_,rfl⟩:=h; exact ⟨by show 4 ≤ 40; decide,by show 2 ≤ 3; decide⟩) 40 rfl ?_) _
 rintro xs os x os' w0 G0 B0 ⟨n,⟨o1_take,o1_conflicts⟩,path2,from3,⟨part4_0,part4_1,part4_2⟩,y0,z0,h,rfl,rfl,rfl,rfl⟩ _
 rw [zBm] at h
 refine zAb ?_
 refine zAa (by exact tokW) (by exact gok) [] [] rfl ?_
 show Tri _ _ _ _
 refine zAb ?_
 refine zAD (by exact tokW) (by exact gok) (by exact mixed) [30] [20,29] [4,21,24] rfl (by decide +kernel) ?_
 obtain ⟨y5,hy5,h⟩:=zAc h
 refine ⟨_,⟨_,_,hy5,rfl,rfl⟩,?_⟩
 refine And.intro (by decide) ?_
 intro n6 hn6
 obtain rfl : (part4_0.length : Int) = n6:=(hn6.trans (congrArg (fun m : Nat => (m : Int)) (rlen Nd.encs_eq part4_0))).symm
 refine And.intro (by decide) ?_
 obtain ⟨y7,hy7,h⟩:=zAc h
 refine ⟨_,⟨_,_,_,hy7,rfl,rfl⟩,?_⟩
 refine And.intro (by decide) ?_
 obtain ⟨y8,hy8,h⟩:=zAc h
 refine ⟨_,⟨_,_,_,hy8,rfl,rfl⟩,?_⟩
 intro r9 hr9
 obtain rfl : (List.map zAd) [(y5,from3,IntKind.i64.wrap (from3 + (part4_0.length : Int)),y7,y8)] = r9:=(hr9.trans (by simp [List.map_append,List.map_take,List.map_drop,irow,brow,zAC,List.map_cons,List.map_nil,zAz,Nd.encs_eq,Nd.enc,zAg,zAe,zAh,zAo,zAw,zAl,zAt,zAd])).symm
 obtain ⟨hq,h⟩:=zAF h
 refine And.intro (show (((List.map zAd) o1_conflicts).length + ((List.map zAd) [(y5,from3,IntKind.i64.wrap (from3 + (part4_0.length : Int)),y7,y8)]).length) * 88 ≤ 140737488355328 ∧ ((List.map zAd) o1_conflicts).length + ((List.map zAd) [(y5,from3,IntKind.i64.wrap (from3 + (part4_0.length : Int)),y7,y8)]).length ≤ 9223372036854775807 from by simp only [List.length_append,List.length_cons,List.length_nil,List.length_map,rlen (fun _ => rfl)] at hq ⊢; omega) ?_
 show Tri _ _ _ _
 refine zAk (Le.rename [(0,0),(2,2)] [(0,.op 0 0),(7,.s (.pt [.sl 4 (Nd.encs part4_0),.sl 4 (Nd.encs part4_1),.sl 4 (Nd.encs part4_2)]))] [(0,.box 47 [.s (.int .i64 o1_take),.orow 2]),(2,.row 52 5 ((List.map zAd) (o1_conflicts ++ [(y5,from3,IntKind.i64.wrap (from3 + (part4_0.length : Int)),y7,y8)])))] 3 ⟨rfl,rfl,trivial⟩ ⟨rfl,⟨_,rfl,rfl⟩,rfl,⟨_,rfl,congrArg (Ob.row 52 5) (by simp [List.map_append,List.map_take,List.map_drop,irow,brow,zAC,List.map_cons,List.map_nil,zAz,Nd.encs_eq,Nd.enc,zAg,zAe,zAh,zAo,zAw,zAl,zAt,zAd])⟩,trivial⟩ rfl rfl rfl rfl rfl) ?_
 refine zAb ?_
 refine zAa (by exact tokW) (by exact gok) [] [36] rfl ?_
 intro vsp hvsp
 cases hc : (o1_take == 0) with
 | true =>
  replace h:=zAs hc h
  obtain rfl : (0 : Int) = vsp:=(hvsp.trans (eq_of_beq hc)).symm
  refine And.intro (by decide) ?_
  obtain ⟨y10,hy10,h⟩:=zAc h
  refine ⟨_,⟨_,_,_,hy10,rfl,rfl⟩,?_⟩
  show Tri _ _ _ _
  refine zAv ?_
  obtain ⟨hj1,hk1⟩:=Prod.mk.inj (Option.some.inj h)
  subst hj1
  subst hk1
  unfold zBy
  exact ⟨_,(Le.rename [(0,0),(2,2)] [(8,.s (.sl 4 (Nd.encs y10)))] [(0,.box 47 [.s (.int .i64 o1_take),.orow 2]),(2,.row 52 5 ((List.map zAd) (o1_conflicts ++ [(y5,from3,IntKind.i64.wrap (from3 + (part4_0.length : Int)),y7,y8)])))] 3 ⟨rfl,trivial⟩ ⟨rfl,⟨_,rfl,rfl⟩,rfl,⟨_,rfl,rfl⟩,trivial⟩ rfl rfl rfl rfl rfl),rfl,rfl,rfl,rfl,rfl,rfl,trivial⟩
 | false =>
  replace h:=zAr hc h
  cases hc : (o1_take == 1) with
  | true =>
   replace h:=zAs hc h
   obtain rfl : (1 : Int) = vsp:=(hvsp.trans (eq_of_beq hc)).symm
   refine And.intro (by decide) ?_
   obtain ⟨y11,hy11,h⟩:=zAc h
   refine ⟨_,⟨_,_,_,hy11,rfl,rfl⟩,?_⟩
   show Tri _ _ _ _
   refine zAv ?_
   obtain ⟨hj1,hk1⟩:=Prod.mk.inj (Option.some.inj h)
   subst hj1
   subst hk1
   unfold zBy
   exact ⟨_,(Le.rename [(0,0),(2,2)] [(8,.s (.sl 4 (Nd.encs y11)))] [(0,.box 47 [.s (.int .i64 o1_take),.orow 2]),(2,.row 52 5 ((List.map zAd) (o1_conflicts ++ [(y5,from3,IntKind.i64.wrap (from3 + (part4_0.length : Int)),y7,y8)])))] 3 ⟨rfl,trivial⟩ ⟨rfl,⟨_,rfl,rfl⟩,rfl,⟨_,rfl,rfl⟩,trivial⟩ rfl rfl rfl rfl rfl),rfl,rfl,rfl,rfl,rfl,rfl,trivial⟩
  | false =>
   replace h:=zAr hc h
   cases hc : (o1_take == 2) with
   | true =>
    replace h:=zAs hc h
    obtain rfl : (2 : Int) = vsp:=(hvsp.trans (eq_of_beq hc)).symm
    refine And.intro (by decide) ?_
    obtain ⟨y12,hy12,h⟩:=zAc h
    refine ⟨_,⟨_,_,_,hy12,rfl,rfl⟩,?_⟩
    show Tri _ _ _ _
    refine zAv ?_
    obtain ⟨hj1,hk1⟩:=Prod.mk.inj (Option.some.inj h)
    subst hj1
    subst hk1
    unfold zBy
    exact ⟨_,(Le.rename [(0,0),(2,2)] [(8,.s (.sl 4 (Nd.encs y12)))] [(0,.box 47 [.s (.int .i64 o1_take),.orow 2]),(2,.row 52 5 ((List.map zAd) (o1_conflicts ++ [(y5,from3,IntKind.i64.wrap (from3 + (part4_0.length : Int)),y7,y8)])))] 3 ⟨rfl,trivial⟩ ⟨rfl,⟨_,rfl,rfl⟩,rfl,⟨_,rfl,rfl⟩,trivial⟩ rfl rfl rfl rfl rfl),rfl,rfl,rfl,rfl,rfl,rfl,trivial⟩
   | false =>
    replace h:=zAr hc h
    cases h
def zHu (n : Nat) (xs : List AV) (os : List Ob) (x : AV) (os' : List (Option Ob)) : Prop:=∃ (a0 : (Int × List (List Int × Int × Int × List Nd × List Nd))) (a1 : List Int) (a2 : Int) (a3 : (List Nd × List Nd × List Nd)) (y0 : List Nd) (z0 : (Int × List (List Int × Int × Int × List Nd × List Nd))),zBs n a0 a1 a2 a3 = some (y0,z0) ∧ xs = [.op 0 0,.s (.sl 1 ((List.map (irow .i64)) a1)),.s (.int .i64 a2),.agg ((zAu a3).map .s)] ∧ os = [.box 47 (((zAm a0).map .s).set 1 (.orow 1)),.row 52 5 ((List.map zAd) a0.2)] ∧ x = .s (.sl 4 (Nd.encs y0)) ∧ os' = [some (.box 47 (((zAm z0).map .s).set 1 (.orow 2))),none,some (.row 52 5 ((List.map zAd) z0.2))]
def zEZ : zAB:=zBN (fun xs os x os' => ∃ n,zHu n xs os x os')
theorem zG8 : PSound Tryz.prog 41 zEZ:=by
 have gok : ∀ f s,look? f [(63,zI6),(64,zGt),(65,zCD)] = some s → PSound Tryz.prog f s:=zAE (by
  simp only [List.forall_mem_cons]
  exact ⟨zMY,zIl,zDM,by simp⟩)
 refine PSound.withNil (zD3 tokW Tryz.call41 Tryz.func41 rfl (fun xs os x os' h => by obtain ⟨n,_,_,_,_,_,_,_,rfl,rfl,_,rfl⟩:=h; exact ⟨by show 4 ≤ 40; decide,by show 2 ≤ 3; decide⟩) 40 rfl ?_) _
 rintro xs os x os' w0 G0 B0 ⟨n,⟨o1_take,o1_conflicts⟩,path2,from3,⟨part4_0,part4_1,part4_2⟩,y0,z0,h,rfl,rfl,rfl,rfl⟩ _
 rw [zBs] at h
 refine zAb ?_
 refine zAa (by exact tokW) (by exact gok) [] [] rfl ?_
 show Tri _ _ _ _
 refine zAb ?_
 refine zAD (by exact tokW) (by exact gok) (by exact mixed) [] [] [] rfl (by decide +kernel) ?_
 refine And.intro (by decide) ?_
 refine And.intro (by decide) ?_
 refine And.intro (by decide) ?_
 show Tri _ _ _ _
 refine zAb ?_
 refine zAn ?_
 refine zAb ?_
 refine zAa (by exact tokW) (by exact gok) [] [] rfl ?_
 obtain ⟨y5,hy5,h⟩:=zAc h
 refine ⟨_,⟨_,_,_,_,hy5,rfl,rfl⟩,?_⟩
 show Tri _ _ _ _
 refine zAf rfl (fun hb => ?_) (fun hb => ?_)
 ·replace h:=zAs hb h
  refine zAb ?_
  refine zAa (by exact tokW) (by exact gok) [] [] rfl ?_
  obtain ⟨y6,hy6,h⟩:=zAc h
  refine ⟨_,⟨_,_,_,hy6,rfl,rfl⟩,?_⟩
  show Tri _ _ _ _
  refine zAv ?_
  obtain ⟨hj1,hk1⟩:=Prod.mk.inj (Option.some.inj h)
  subst hj1
  subst hk1
  unfold zBy
  exact ⟨_,(Le.rename [(0,0),(1,2)] [(8,.s (.sl 4 (Nd.encs y6)))] [(0,.box 47 [.s (.int .i64 o1_take),.orow 2]),(2,.row 52 5 ((List.map zAd) o1_conflicts))] 3 ⟨rfl,trivial⟩ ⟨rfl,⟨_,rfl,rfl⟩,rfl,⟨_,rfl,rfl⟩,trivial⟩ rfl rfl rfl rfl rfl),rfl,rfl,rfl,rfl,rfl,rfl,trivial⟩
 ·replace h:=zAr hb h
  refine zAb ?_
  obtain ⟨x7,hj,h⟩:=zAc h
  refine zAp ⟨ofL [(0,.op 0 0),(1,.s (.sl 1 ((List.map (irow .i64)) path2))),(2,.s (.int .i64 from3)),(7,.s (.pt [.sl 4 (Nd.encs part4_0),.sl 4 (Nd.encs part4_1),.sl 4 (Nd.encs part4_2)])),(10,.s (.sl 4 (Nd.encs part4_1))),(24,.s (.bool x7))],ofH [(0,.box 47 [.s (.int .i64 o1_take),.orow 2]),(2,.row 52 5 ((List.map zAd) o1_conflicts))],3⟩ ?_ (fun σ' hle => ?_)
  ·replace h:=hj
   refine zAa (by exact tokW) (by exact gok) [] [28] rfl ?_
   obtain ⟨y8,hy8,h⟩:=zAc h
   refine ⟨_,⟨_,_,_,_,hy8,rfl,rfl⟩,?_⟩
   intro b hb
   cases b with
   | true =>
    replace h:=zAs hb.symm h
    cases h
    exact (Le.rename [(0,0),(1,2)] _ _ _ ⟨rfl,rfl,rfl,rfl,rfl,rfl,trivial⟩ ⟨rfl,⟨_,rfl,rfl⟩,rfl,⟨_,rfl,rfl⟩,trivial⟩ rfl rfl rfl rfl rfl)
   | false =>
    replace h:=zAr hb.symm h
    obtain ⟨y9,hy9,h⟩:=zAc h
    refine ⟨_,⟨_,_,_,_,hy9,rfl,rfl⟩,?_⟩
    cases h
    exact (Le.rename [(0,0),(1,2)] _ _ _ ⟨rfl,rfl,rfl,rfl,rfl,rfl,trivial⟩ ⟨rfl,⟨_,rfl,rfl⟩,rfl,⟨_,rfl,rfl⟩,trivial⟩ rfl rfl rfl rfl rfl)
  ·show Tri _ _ _ _
   refine zAk hle ?_
   refine zAf rfl (fun hb => ?_) (fun hb => ?_)
   ·replace h:=zAs hb h
    refine zAb ?_
    refine zAa (by exact tokW) (by exact gok) [] [] rfl ?_
    obtain ⟨y10,hy10,h⟩:=zAc h
    refine ⟨_,⟨_,_,_,hy10,rfl,rfl⟩,?_⟩
    show Tri _ _ _ _
    refine zAv ?_
    obtain ⟨hj1,hk1⟩:=Prod.mk.inj (Option.some.inj h)
    subst hj1
    subst hk1
    unfold zBy
    exact ⟨_,(Le.rename [(0,0),(2,2)] [(8,.s (.sl 4 (Nd.encs y10)))] [(0,.box 47 [.s (.int .i64 o1_take),.orow 2]),(2,.row 52 5 ((List.map zAd) o1_conflicts))] 3 ⟨rfl,trivial⟩ ⟨rfl,⟨_,rfl,rfl⟩,rfl,⟨_,rfl,rfl⟩,trivial⟩ rfl rfl rfl rfl rfl),rfl,rfl,rfl,rfl,rfl,rfl,trivial⟩
   ·replace h:=zAr hb h
    refine zAj ?_
    show Tri _ _ _ _
    refine zAb ?_
    refine zAa (by exact tokW) (by exact gok) [] [] rfl ?_
    obtain ⟨⟨y11,⟨w12_take,w12_conflicts⟩⟩,hy11,h⟩:=zAc h
    refine ⟨_,_,⟨_,_,_,_,_,_,_,hy11,rfl,rfl,rfl,rfl⟩,?_⟩
    show Tri _ _ _ _
    refine zAv ?_
    obtain ⟨hj1,hk1⟩:=Prod.mk.inj (Option.some.inj h)
    subst hj1
    subst hk1
    unfold zBy
    exact ⟨_,(Le.rename [(0,0),(3,2)] [(8,.s (.sl 4 (Nd.encs y11)))] [(0,.box 47 [.s (.int .i64 w12_take),.orow 2]),(2,.row 52 5 ((List.map zAd) w12_conflicts))] 3 ⟨rfl,trivial⟩ ⟨rfl,⟨_,rfl,rfl⟩,rfl,⟨_,rfl,rfl⟩,trivial⟩ rfl rfl rfl rfl rfl),rfl,rfl,rfl,rfl,rfl,rfl,trivial⟩
def zG5 (n : Nat) (xs : List AV) (r : Ret) : Prop:=∃ (a0 : List (List Int)) (y0 : List Int),zBZ n a0 = some y0 ∧ xs = [.s (.sl 1 ((List.map zAw) a0))] ∧ r = .row 3 1 ((List.map (irow .i64)) y0)
def zEC : zAB:=zAJ fun xs r => ∃ n,zG5 n xs r
theorem zGM : PSound Tryz.prog 66 zEC:=by
 have gok : ∀ f s,look? f [(90,zFm)] = some s → PSound Tryz.prog f s:=zAE (by
  simp only [List.forall_mem_cons]
  exact ⟨zHO,by simp⟩)
 refine zAT tokW Tryz.call66 Tryz.func66 rfl (fun xs r h => by obtain ⟨n,_,_,_,rfl,_⟩:=h; show 1 ≤ 36; decide) 36 rfl ?_
 rintro xs r w0 G0 ⟨n,slices1,y0,h,rfl,rfl⟩ _
 rw [zBZ] at h
 refine zAb ?_
 refine zAa (by exact tokW) (by exact gok) [2] [] rfl ?_
 show Tri _ _ _ _
 refine zAk (Le.rename [] [(0,.s (.sl 1 ((List.map zAw) slices1)))] [] 0 ⟨rfl,trivial⟩ trivial rfl rfl rfl rfl rfl) ?_
 refine zAb ?_
 refine zAa (by exact tokW) (by exact gok) [] [] rfl ?_
 show Tri _ _ _ _
 refine zAb ?_
 refine zAb ?_
 refine zAa (by exact tokW) (by exact gok) [] [10] rfl ?_
 intro n2 hn2
 obtain rfl : (slices1.length : Int) = n2:=(hn2.trans (congrArg (fun m : Nat => (m : Int)) (rlen (fun _ => rfl) slices1))).symm
 show Tri _ _ _ _
 obtain ⟨size5,hl,h⟩:=zAc h
 refine zAp ⟨ofL [(0,.s (.sl 1 ((List.map zAw) slices1))),(3,.s (.int .i64 size5))],fun _ => none,0⟩ ?_ (fun σ' hle => ?_)
 ·refine zAn (zAG (X:=Nat × Int × Int) (fun y => match y with | (k,x3,size4) => ⟨ofL [(0,.s (.sl 1 ((List.map zAw) slices1))),(3,.s (.int .i64 size4)),(9,.s (.sl 1 ((List.map zAw) slices1))),(10,.s (.int .i64 (slices1.length : Int))),(11,.s (.int .i64 x3))],fun _ => none,0⟩) (fun y => zAU slices1 y.1 y.2.1 y.2.2 = some size5) (fun y => y.1) (n,0,0) hl ?_ ?_)
  ·exact (Le.forget _ ⟨rfl,rfl,rfl,rfl,rfl,trivial⟩)
  ·rintro ⟨k,x3,size4⟩ h
   cases k with
   | zero => cases h
   | succ k =>
    replace h : zAU slices1 (k+1) x3 size4 = some size5:=h
    rw [zAU] at h
    refine zAb ?_
    refine zAa (by exact tokW) (by exact gok) [] [] rfl ?_
    show Tri _ _ _ _
    refine zAb ?_
    refine zAf rfl (fun hb => ?_) (fun hb => ?_)
    ·replace h:=zAs hb h
     refine zAj ?_
     show Tri _ _ _ _
     refine zAb ?_
     refine zAn ?_
     refine zAb ?_
     refine zAa (by exact tokW) (by exact gok) [] [13] rfl ?_
     obtain ⟨e6,he6,h⟩:=zAc h
     refine And.intro (zAA (fun _ => rfl) he6).1 ?_
     intro r7 hr7
     obtain rfl : [.sl 1 ((List.map (irow .i64)) e6)] = r7:=(hr7.trans (zAA (fun _ => rfl) he6).2.1).symm
     show Tri _ _ _ _
     refine zAb ?_
     refine zAa (by exact tokW) (by exact gok) [] [17] rfl ?_
     intro n8 hn8
     obtain rfl : (e6.length : Int) = n8:=(hn8.trans (congrArg (fun m : Nat => (m : Int)) (rlen (fun _ => rfl) e6))).symm
     show Tri _ _ _ _
     refine zAb ?_
     refine zAa (by exact tokW) (by exact gok) [] [] rfl ?_
     show Tri _ _ _ _
     refine zAf rfl (fun hb => ?_) (fun hb => ?_)
     ·replace h:=zAs hb h
      cases h
     ·replace h:=zAr hb h
      refine zAj ?_
      show Tri _ _ _ _
      refine zAa (by exact tokW) (by exact gok) [] [] rfl ?_
      refine ⟨(k,IntKind.i64.wrap (x3 + 1),IntKind.i64.wrap (size4 + (e6.length : Int))),h,(Le.forget _ ⟨rfl,rfl,rfl,rfl,rfl,trivial⟩),Nat.lt_succ_self k⟩
    ·replace h:=zAr hb h
     refine zAK ?_
     cases h
     exact (Le.forget _ ⟨rfl,rfl,trivial⟩)
 ·show Tri _ _ _ _
  refine zAk hle ?_
  refine zAb ?_
  refine zAa (by exact tokW) (by exact gok) [24] [] rfl ?_
  obtain ⟨y9,hy9,h⟩:=zAc h
  refine ⟨_,⟨_,_,hy9,rfl,rfl⟩,?_⟩
  show Tri _ _ _ _
  refine zAb ?_
  refine zAb ?_
  refine zAa (by exact tokW) (by exact gok) [] [26] rfl ?_
  intro n10 hn10
  obtain rfl : (slices1.length : Int) = n10:=(hn10.trans (congrArg (fun m : Nat => (m : Int)) (rlen (fun _ => rfl) slices1))).symm
  show Tri _ _ _ _
  obtain ⟨l14,hl,h⟩:=zAc h
  refine zAp ⟨ofL [(6,.orow 0)],ofH [(0,.row 3 1 ((List.map (irow .i64)) l14))],1⟩ ?_ (fun σ' hle => ?_)
  ·refine zAn (zAG (X:=Nat × Int × (List Int)) (fun y => match y with | (k,x11,l13) => ⟨ofL [(6,.orow 0),(25,.s (.sl 1 ((List.map zAw) slices1))),(26,.s (.int .i64 (slices1.length : Int))),(27,.s (.int .i64 x11))],ofH [(0,.row 3 1 ((List.map (irow .i64)) l13))],1⟩) (fun y => zAW slices1 y.1 y.2.1 y.2.2 = some l14) (fun y => y.1) (n,0,y9) hl ?_ ?_)
   ·exact (Le.rename [(0,0)] _ _ _ ⟨rfl,rfl,rfl,rfl,trivial⟩ ⟨rfl,⟨_,rfl,rfl⟩,trivial⟩ rfl rfl rfl rfl rfl)
   ·rintro ⟨k,x11,l13⟩ h
    cases k with
    | zero => cases h
    | succ k =>
     replace h : zAW slices1 (k+1) x11 l13 = some l14:=h
     rw [zAW] at h
     refine zAb ?_
     refine zAa (by exact tokW) (by exact gok) [] [] rfl ?_
     show Tri _ _ _ _
     refine zAb ?_
     refine zAf rfl (fun hb => ?_) (fun hb => ?_)
     ·replace h:=zAs hb h
      refine zAj ?_
      show Tri _ _ _ _
      refine zAb ?_
      refine zAn ?_
      refine zAb ?_
      refine zAa (by exact tokW) (by exact gok) [] [29] rfl ?_
      obtain ⟨e15,he15,h⟩:=zAc h
      refine And.intro (zAA (fun _ => rfl) he15).1 ?_
      intro r16 hr16
      obtain rfl : [.sl 1 ((List.map (irow .i64)) e15)] = r16:=(hr16.trans (zAA (fun _ => rfl) he15).2.1).symm
      show Tri _ _ _ _
      refine zAa (by exact tokW) (by exact gok) [33] [] rfl ?_
      obtain ⟨hq,h⟩:=zAF h
      refine And.intro (show (((List.map (irow .i64)) l13).length + ((List.map (irow .i64)) e15).length) * 8 ≤ 140737488355328 ∧ ((List.map (irow .i64)) l13).length + ((List.map (irow .i64)) e15).length ≤ 9223372036854775807 from by simp only [List.length_append,List.length_cons,List.length_nil,List.length_map,rlen (fun _ => rfl)] at hq ⊢; omega) ?_
      show Tri _ _ _ _
      refine zAk (Le.rename [(1,0)] [(6,.orow 0),(25,.s (.sl 1 ((List.map zAw) slices1))),(26,.s (.int .i64 (slices1.length : Int))),(27,.s (.int .i64 x11))] [(0,.row 3 1 ((List.map (irow .i64)) (l13 ++ e15)))] 1 ⟨rfl,rfl,rfl,rfl,trivial⟩ ⟨rfl,⟨_,rfl,congrArg (Ob.row 3 1) (by simp [List.map_append,List.map_take,List.map_drop,irow,brow,zAC,List.map_cons,List.map_nil,zAz,Nd.encs_eq,Nd.enc,zAg,zAe,zAh,zAo,zAw,zAl,zAt,zAd,zAu,zAm])⟩,trivial⟩ rfl rfl rfl rfl rfl) ?_
      refine zAa (by exact tokW) (by exact gok) [] [] rfl ?_
      refine ⟨(k,IntKind.i64.wrap (x11 + 1),l13 ++ e15),h,(Le.rename [(0,0)] _ _ _ ⟨rfl,rfl,rfl,rfl,trivial⟩ ⟨rfl,⟨_,rfl,rfl⟩,trivial⟩ rfl rfl rfl rfl rfl),Nat.lt_succ_self k⟩
     ·replace h:=zAr hb h
      refine zAK ?_
      cases h
      exact (Le.rename [(0,0)] _ _ _ ⟨rfl,trivial⟩ ⟨rfl,⟨_,rfl,rfl⟩,trivial⟩ rfl rfl rfl rfl rfl)
  ·show Tri _ _ _ _
   refine zAk hle ?_
   refine zAb ?_
   refine zAa (by exact tokW) (by exact gok) [] [] rfl ?_
   show Tri _ _ _ _
   refine zAv ?_
   have hy:=Option.some.inj h
   subst hy
   unfold zAQ
   exact ⟨_,Le.refl _ _,0,rfl,rfl⟩
def zB6 (n : Nat) (xs : List AV) (os : List Ob) (x : AV) (os' : List (Option Ob)) : Prop:=∃ (a0 : (Int × List (List Int × Int × Int × List Nd × List Nd))) (a1 : List Int) (a2 : Int) (a3 : Nd) (a4 : Nd) (a5 : Nd) (y0 : List Nd) (z0 : (Int × List (List Int × Int × Int × List Nd × List Nd))),zA9 n a0 a1 a2 a3 a4 a5 = some (y0,z0) ∧ xs = [.op 0 0,.s (.sl 1 ((List.map (irow .i64)) a1)),.s (.int .i64 a2),.agg ((Nd.enc a3).map .s),.agg ((Nd.enc a4).map .s),.agg ((Nd.enc a5).map .s)] ∧ os = [.box 47 (((zAm a0).map .s).set 1 (.orow 1)),.row 52 5 ((List.map zAd) a0.2)] ∧ x = .s (.sl 4 (Nd.encs y0)) ∧ os' = [some (.box 47 (((zAm z0).map .s).set 1 (.orow 2))),none,some (.row 52 5 ((List.map zAd) z0.2))]
def zBV (n : Nat) (xs : List AV) (os : List Ob) (x : AV) (os' : List (Option Ob)) : Prop:=∃ (a0 : (Int × List (List Int × Int × Int × List Nd × List Nd))) (a1 : List Int) (a2 : List Nd) (a3 : List Nd) (a4 : List Nd) (y0 : List Nd) (z0 : (Int × List (List Int × Int × Int × List Nd × List Nd))),zA0 n a0 a1 a2 a3 a4 = some (y0,z0) ∧ xs = [.op 0 0,.s (.sl 1 ((List.map (irow .i64)) a1)),.s (.sl 4 (Nd.encs a2)),.s (.sl 4 (Nd.encs a3)),.s (.sl 4 (Nd.encs a4))] ∧ os = [.box 47 (((zAm a0).map .s).set 1 (.orow 1)),.row 52 5 ((List.map zAd) a0.2)] ∧ x = .orow 3 ∧ os' = [some (.box 47 (((zAm z0).map .s).set 1 (.orow 2))),none,some (.row 52 5 ((List.map zAd) z0.2)),some (.row 24 4 (Nd.encs y0))]
theorem zGo (n : Nat) (ih_merge_merger_item : PSound Tryz.prog 42 (zBN (zB6 n))) (ih_merge_merger_row : PSound Tryz.prog 28 (zBN (zBV n))) : PSound Tryz.prog 42 (zBN (zB6 (n + 1))):=by
 have gok : ∀ f s,look? f [(65,zCD),(66,zEC),(28,zBN (zBV n))] = some s → PSound Tryz.prog f s:=zAE (by
  simp only [List.forall_mem_cons]
  exact ⟨zDM,zGM,ih_merge_merger_row,by simp⟩)
 refine PSound.withNil (zD3 tokW Tryz.call42 Tryz.func42 rfl (fun xs os x os' h => by obtain ⟨_,_,_,_,_,_,_,_,_,rfl,rfl,_,rfl⟩:=h; exact ⟨by show 6 ≤ 99; decide,by show 2 ≤ 3; decide⟩) 99 rfl ?_) _
 rintro xs os x os' w0 G0 B0 ⟨⟨o1_take,o1_conflicts⟩,a2,a3,⟨a4_kind,a4_text,a4_cols,a4_kids⟩,⟨a5_kind,a5_text,a5_cols,a5_kids⟩,⟨a6_kind,a6_text,a6_cols,a6_kids⟩,y0,z0,h,rfl,rfl,rfl,rfl⟩ _
 rw [zA9] at h
 refine zAb ?_
 refine zAa (by exact tokW) (by exact gok) [] [] rfl ?_
 show Tri _ _ _ _
 refine zAb ?_
 refine zAa (by exact tokW) (by exact gok) [13] [] rfl ?_
 show Tri _ _ _ _
 refine zAb ?_
 obtain ⟨fl,hj,ho1⟩:=zAc h
 refine zDY (fl:=fl) (fun z => match z with | x7 => ⟨ofL [(0,.op 0 0),(1,.s (.sl 1 ((List.map (irow .i64)) a2))),(2,.s (.int .i64 a3)),(9,.s (.pt [.int .i64 a4_kind,.str a4_text,.int .i64 a4_cols,.sl 4 (Nd.encs a4_kids)])),(10,.s (.pt [.int .i64 a5_kind,.str a5_text,.int .i64 a5_cols,.sl 4 (Nd.encs a5_kids)])),(11,.s (.pt [.int .i64 a6_kind,.str a6_text,.int .i64 a6_cols,.sl 4 (Nd.encs a6_kids)])),(13,.op 3 0)],ofH [(0,.box 47 [.s (.int .i64 o1_take),.orow 2]),(2,.row 52 5 ((List.map zAd) o1_conflicts)),(3,.box 24 [.s (.int .i64 a4_kind),.s (.str x7),.s (.int .i64 a4_cols),.nl 4])],4⟩) ?_ (fun x7 σ' hz hle => ?_)
 ·replace h:=hj
  refine zAn ?_
  refine zAb ?_
  refine zAa (by exact tokW) (by exact gok) [] [] rfl ?_
  show Tri _ _ _ _
  refine zAf rfl (fun hb => ?_) (fun hb => ?_)
  ·replace h:=zAs hb h
   refine zAa (by exact tokW) (by exact gok) [] [] rfl ?_
   cases h
   exact ⟨_,rfl,(Le.rename [(0,0),(1,2),(2,3)] _ _ _ ⟨rfl,rfl,rfl,rfl,rfl,rfl,rfl,trivial⟩ ⟨rfl,⟨_,rfl,rfl⟩,rfl,⟨_,rfl,rfl⟩,rfl,⟨_,rfl,rfl⟩,trivial⟩ rfl rfl rfl rfl rfl)⟩
  ·replace h:=zAr hb h
   refine zAb ?_
   obtain ⟨x8,hj,h⟩:=zAc h
   refine zAp ⟨ofL [(0,.op 0 0),(1,.s (.sl 1 ((List.map (irow .i64)) a2))),(2,.s (.int .i64 a3)),(9,.s (.pt [.int .i64 a4_kind,.str a4_text,.int .i64 a4_cols,.sl 4 (Nd.encs a4_kids)])),(10,.s (.pt [.int .i64 a5_kind,.str a5_text,.int .i64 a5_cols,.sl 4 (Nd.encs a5_kids)])),(11,.s (.pt [.int .i64 a6_kind,.str a6_text,.int .i64 a6_cols,.sl 4 (Nd.encs a6_kids)])),(13,.op 3 0),(41,.s (.bool x8))],ofH [(0,.box 47 [.s (.int .i64 o1_take),.orow 2]),(2,.row 52 5 ((List.map zAd) o1_conflicts)),(3,.box 24 [.s (.int .i64 a4_kind),.s (.str []),.s (.int .i64 a4_cols),.nl 4])],4⟩ ?_ (fun σ' hle => ?_)
   ·replace h:=hj
    refine zAa (by exact tokW) (by exact gok) [] [47] rfl ?_
    intro b hb
    cases b with
    | true =>
     replace h:=zAs hb.symm h
     cases h
     exact (Le.rename [(0,0),(1,2),(2,3)] _ _ _ ⟨rfl,rfl,rfl,rfl,rfl,rfl,rfl,rfl,trivial⟩ ⟨rfl,⟨_,rfl,rfl⟩,rfl,⟨_,rfl,rfl⟩,rfl,⟨_,rfl,rfl⟩,trivial⟩ rfl rfl rfl rfl rfl)
    | false =>
     replace h:=zAr hb.symm h
     cases h
     exact (Le.rename [(0,0),(1,2),(2,3)] _ _ _ ⟨rfl,rfl,rfl,rfl,rfl,rfl,rfl,rfl,trivial⟩ ⟨rfl,⟨_,rfl,rfl⟩,rfl,⟨_,rfl,rfl⟩,rfl,⟨_,rfl,rfl⟩,trivial⟩ rfl rfl rfl rfl rfl)
   ·show Tri _ _ _ _
    refine zAk hle ?_
    refine zAf rfl (fun hb => ?_) (fun hb => ?_)
    ·replace h:=zAs hb h
     refine zAa (by exact tokW) (by exact gok) [] [] rfl ?_
     cases h
     exact ⟨_,rfl,(Le.rename [(0,0),(2,2),(3,3)] _ _ _ ⟨rfl,rfl,rfl,rfl,rfl,rfl,rfl,trivial⟩ ⟨rfl,⟨_,rfl,rfl⟩,rfl,⟨_,rfl,rfl⟩,rfl,⟨_,rfl,rfl⟩,trivial⟩ rfl rfl rfl rfl rfl)⟩
    ·replace h:=zAr hb h
     refine zAb ?_
     refine zAa (by exact tokW) (by exact gok) [] [25,27,29] rfl ?_
     intro r9 hr9
     obtain rfl : Nd.encs [Nd.mk a4_kind a4_text a4_cols a4_kids] = r9:=(hr9.trans (by simp [List.map_append,List.map_take,List.map_drop,irow,brow,zAC,List.map_cons,List.map_nil,zAz,Nd.encs_eq,Nd.enc,zAg,zAe,zAh,zAo,zAw,zAl,zAt,zAd,zAu,zAm])).symm
     intro r10 hr10
     obtain rfl : Nd.encs [Nd.mk a5_kind a5_text a5_cols a5_kids] = r10:=(hr10.trans (by simp [List.map_append,List.map_take,List.map_drop,irow,brow,zAC,List.map_cons,List.map_nil,zAz,Nd.encs_eq,Nd.enc,zAg,zAe,zAh,zAo,zAw,zAl,zAt,zAd,zAu,zAm])).symm
     intro r11 hr11
     obtain rfl : Nd.encs [Nd.mk a6_kind a6_text a6_cols a6_kids] = r11:=(hr11.trans (by simp [List.map_append,List.map_take,List.map_drop,irow,brow,zAC,List.map_cons,List.map_nil,zAz,Nd.encs_eq,Nd.enc,zAg,zAe,zAh,zAo,zAw,zAl,zAt,zAd,zAu,zAm])).symm
     obtain ⟨⟨y12,⟨w13_take,w13_conflicts⟩⟩,hy12,h⟩:=zAc h
     refine ⟨_,_,⟨_,_,_,_,_,_,_,hy12,rfl,rfl,rfl,rfl⟩,?_⟩
     show Tri _ _ _ _
     refine zAv ?_
     cases h
     replace h : some _ = some _:=ho1
     obtain ⟨hj1,hk1⟩:=Prod.mk.inj (Option.some.inj h)
     subst hj1
     subst hk1
     unfold zBy
     exact ⟨_,(Le.rename [(0,0),(4,2)] [(12,.s (.sl 4 (Nd.encs y12)))] [(0,.box 47 [.s (.int .i64 w13_take),.orow 2]),(2,.row 52 5 ((List.map zAd) w13_conflicts))] 3 ⟨rfl,trivial⟩ ⟨rfl,⟨_,rfl,rfl⟩,rfl,⟨_,rfl,rfl⟩,trivial⟩ rfl rfl rfl rfl rfl),rfl,rfl,rfl,rfl,rfl,rfl,trivial⟩
 ·subst hz
  replace h:=ho1
  show Tri _ _ _ _
  refine zAk hle ?_
  refine zAb ?_
  refine zAb ?_
  refine zAa (by exact tokW) (by exact gok) [] [59] rfl ?_
  intro n14 hn14
  obtain rfl : (a4_kids.length : Int) = n14:=(hn14.trans (congrArg (fun m : Nat => (m : Int)) (rlen Nd.encs_eq a4_kids))).symm
  show Tri _ _ _ _
  obtain ⟨⟨x21,l22,l23⟩,hl,h⟩:=zAc h
  refine zAp ⟨ofL [(13,.op 3 0)],ofH [(0,.box 47 [.s (.int .i64 x21),.orow 2]),(2,.row 52 5 ((List.map zAd) l22)),(3,.box 24 [.s (.int .i64 a4_kind),.s (.str x7),.s (.int .i64 a4_cols),.orow 4]),(4,.row 24 4 (Nd.encs l23))],5⟩ ?_ (fun σ' hle => ?_)
  ·refine zAn (zAG (X:=Nat × Int × Int × (List (List Int × Int × Int × List Nd × List Nd)) × (List Nd)) (fun y => match y with | (k,x15,x18,l19,l20) => ⟨ofL [(0,.op 0 0),(1,.s (.sl 1 ((List.map (irow .i64)) a2))),(2,.s (.int .i64 a3)),(9,.s (.pt [.int .i64 a4_kind,.str a4_text,.int .i64 a4_cols,.sl 4 (Nd.encs a4_kids)])),(10,.s (.pt [.int .i64 a5_kind,.str a5_text,.int .i64 a5_cols,.sl 4 (Nd.encs a5_kids)])),(11,.s (.pt [.int .i64 a6_kind,.str a6_text,.int .i64 a6_cols,.sl 4 (Nd.encs a6_kids)])),(13,.op 3 0),(59,.s (.int .i64 (a4_kids.length : Int))),(60,.s (.int .i64 x18))],ofH [(0,.box 47 [.s (.int .i64 x15),.orow 2]),(2,.row 52 5 ((List.map zAd) l19)),(3,.box 24 [.s (.int .i64 a4_kind),.s (.str x7),.s (.int .i64 a4_cols),.orow 4]),(4,.row 24 4 (Nd.encs l20))],5⟩) (fun y => zA2 (zA0 n) n a2 a3 a4_kids a5_kids a6_kids y.1 y.2.1 y.2.2.1 y.2.2.2.1 y.2.2.2.2 = some (x21,l22,l23)) (fun y => y.1) (n,o1_take,0,o1_conflicts,[]) hl ?_ ?_)
   ·exact (Le.trans (Le.trans (Le.rename [(0,0),(2,2),(3,3)] [(0,.op 0 0),(1,.s (.sl 1 ((List.map (irow .i64)) a2))),(2,.s (.int .i64 a3)),(9,.s (.pt [.int .i64 a4_kind,.str a4_text,.int .i64 a4_cols,.sl 4 (Nd.encs a4_kids)])),(10,.s (.pt [.int .i64 a5_kind,.str a5_text,.int .i64 a5_cols,.sl 4 (Nd.encs a5_kids)])),(11,.s (.pt [.int .i64 a6_kind,.str a6_text,.int .i64 a6_cols,.sl 4 (Nd.encs a6_kids)])),(13,.op 3 0),(59,.s (.int .i64 (a4_kids.length : Int))),(60,.s (.int .i64 0))] [(0,.box 47 [.s (.int .i64 o1_take),.orow 2]),(2,.row 52 5 ((List.map zAd) o1_conflicts)),(3,.box 24 [.s (.int .i64 a4_kind),.s (.str x7),.s (.int .i64 a4_cols),.nl 4])] 4 ⟨rfl,rfl,rfl,rfl,rfl,rfl,rfl,rfl,rfl,trivial⟩ ⟨rfl,⟨_,rfl,rfl⟩,rfl,⟨_,rfl,rfl⟩,rfl,⟨_,rfl,rfl⟩,trivial⟩ rfl rfl rfl rfl rfl) (Le.takeNil 3 3 24 rfl rfl (by decide))) (Le.rename [(0,0),(2,2),(3,3),(4,4)] _ _ _ ⟨rfl,rfl,rfl,rfl,rfl,rfl,rfl,rfl,rfl,trivial⟩ ⟨rfl,⟨_,rfl,rfl⟩,rfl,⟨_,rfl,rfl⟩,rfl,⟨_,rfl,rfl⟩,rfl,⟨_,rfl,congrArg (Ob.row 24 4) (by simp [List.map_append,List.map_take,List.map_drop,irow,brow,zAC,List.map_cons,List.map_nil,zAz,Nd.encs_eq,Nd.enc,zAg,zAe,zAh,zAo,zAw,zAl,zAt,zAd,zAu,zAm])⟩,trivial⟩ rfl rfl rfl rfl rfl))
   ·rintro ⟨k,x15,x18,l19,l20⟩ h
    cases k with
    | zero => cases h
    | succ k =>
     replace h : zA2 (zA0 n) n a2 a3 a4_kids a5_kids a6_kids (k+1) x15 x18 l19 l20 = some (x21,l22,l23):=h
     rw [zA2] at h
     refine zAb ?_
     refine zAa (by exact tokW) (by exact gok) [] [] rfl ?_
     show Tri _ _ _ _
     refine zAb ?_
     refine zAf rfl (fun hb => ?_) (fun hb => ?_)
     ·replace h:=zAs hb h
      refine zAj ?_
      show Tri _ _ _ _
      refine zAb ?_
      refine zAn ?_
      refine zAb ?_
      refine zAa (by exact tokW) (by exact gok) [] [] rfl ?_
      show Tri _ _ _ _
      refine zAb ?_
      refine zAD (by exact tokW) (by exact gok) (by exact mixed) [] [67,68,73,79,85] [25] rfl (by decide +kernel) ?_
      intro r24 hr24
      obtain rfl : (List.map (irow .i64)) [a3,x18] = r24:=(hr24.trans (by simp [List.map_append,List.map_take,List.map_drop,irow,brow,zAC,List.map_cons,List.map_nil,zAz,Nd.encs_eq,Nd.enc,zAg,zAe,zAh,zAo,zAw,zAl,zAt,zAd,zAu,zAm])).symm
      intro r25 hr25
      obtain rfl : (List.map zAw) [a2,[a3,x18]] = r25:=(hr25.trans (by simp [List.map_append,List.map_take,List.map_drop,irow,brow,zAC,List.map_cons,List.map_nil,zAz,Nd.encs_eq,Nd.enc,zAg,zAe,zAh,zAo,zAw,zAl,zAt,zAd,zAu,zAm])).symm
      obtain ⟨y26,hy26,h⟩:=zAc h
      refine ⟨_,⟨_,_,_,hy26,rfl,rfl⟩,?_⟩
      obtain ⟨⟨e27_kind,e27_text,e27_cols,e27_kids⟩,he27,h⟩:=zAc h
      refine And.intro (zAA Nd.encs_eq he27).1 ?_
      intro r28 hr28
      obtain rfl : [.int .i64 e27_kind,.str e27_text,.int .i64 e27_cols,.sl 4 (Nd.encs e27_kids)] = r28:=(hr28.trans (zAA Nd.encs_eq he27).2.1).symm
      obtain ⟨⟨e29_kind,e29_text,e29_cols,e29_kids⟩,he29,h⟩:=zAc h
      refine And.intro (zAA Nd.encs_eq he29).1 ?_
      intro r30 hr30
      obtain rfl : [.int .i64 e29_kind,.str e29_text,.int .i64 e29_cols,.sl 4 (Nd.encs e29_kids)] = r30:=(hr30.trans (zAA Nd.encs_eq he29).2.1).symm
      obtain ⟨⟨e31_kind,e31_text,e31_cols,e31_kids⟩,he31,h⟩:=zAc h
      refine And.intro (zAA Nd.encs_eq he31).1 ?_
      intro r32 hr32
      obtain rfl : [.int .i64 e31_kind,.str e31_text,.int .i64 e31_cols,.sl 4 (Nd.encs e31_kids)] = r32:=(hr32.trans (zAA Nd.encs_eq he31).2.1).symm
      obtain ⟨⟨y33,⟨w34_take,w34_conflicts⟩⟩,hy33,h⟩:=zAc h
      refine ⟨_,_,⟨_,_,_,_,_,_,_,hy33,rfl,rfl,rfl,rfl⟩,?_⟩
      show Tri _ _ _ _
      refine zAk (Le.trans (Le.rename [(0,0),(5,2),(3,3),(4,4),(6,5)] [(0,.op 0 0),(1,.s (.sl 1 ((List.map (irow .i64)) a2))),(2,.s (.int .i64 a3)),(9,.s (.pt [.int .i64 a4_kind,.str a4_text,.int .i64 a4_cols,.sl 4 (Nd.encs a4_kids)])),(10,.s (.pt [.int .i64 a5_kind,.str a5_text,.int .i64 a5_cols,.sl 4 (Nd.encs a5_kids)])),(11,.s (.pt [.int .i64 a6_kind,.str a6_text,.int .i64 a6_cols,.sl 4 (Nd.encs a6_kids)])),(13,.op 3 0),(15,.orow 5),(59,.s (.int .i64 (a4_kids.length : Int))),(60,.s (.int .i64 x18))] [(0,.box 47 [.s (.int .i64 w34_take),.orow 2]),(2,.row 52 5 ((List.map zAd) w34_conflicts)),(3,.box 24 [.s (.int .i64 a4_kind),.s (.str x7),.s (.int .i64 a4_cols),.orow 4]),(4,.row 24 4 (Nd.encs l20)),(5,.row 24 4 (Nd.encs y33))] 6 ⟨rfl,rfl,rfl,rfl,rfl,rfl,rfl,rfl,rfl,rfl,trivial⟩ ⟨rfl,⟨_,rfl,rfl⟩,rfl,⟨_,rfl,rfl⟩,rfl,⟨_,rfl,rfl⟩,rfl,⟨_,rfl,rfl⟩,rfl,⟨_,rfl,rfl⟩,trivial⟩ rfl rfl rfl rfl rfl) (Le.giveRow 5 rfl)) ?_
      refine zAa (by exact tokW) (by exact gok) [94] [93] rfl ?_
      intro r35 hr35
      obtain rfl : Nd.encs [Nd.mk 1 [] 0 y33] = r35:=(hr35.trans (by simp [List.map_append,List.map_take,List.map_drop,irow,brow,zAC,List.map_cons,List.map_nil,zAz,Nd.encs_eq,Nd.enc,zAg,zAe,zAh,zAo,zAw,zAl,zAt,zAd,zAu,zAm])).symm
      obtain ⟨hq,h⟩:=zAF h
      refine And.intro (show ((Nd.encs l20).length + (Nd.encs [Nd.mk 1 [] 0 y33]).length) * 56 ≤ 140737488355328 ∧ (Nd.encs l20).length + (Nd.encs [Nd.mk 1 [] 0 y33]).length ≤ 9223372036854775807 from by simp only [List.length_append,List.length_cons,List.length_nil,List.length_map,rlen Nd.encs_eq] at hq ⊢; omega) ?_
      show Tri _ _ _ _
      refine zAk (Le.rename [(0,0),(2,2),(3,3),(6,4)] [(0,.op 0 0),(1,.s (.sl 1 ((List.map (irow .i64)) a2))),(2,.s (.int .i64 a3)),(9,.s (.pt [.int .i64 a4_kind,.str a4_text,.int .i64 a4_cols,.sl 4 (Nd.encs a4_kids)])),(10,.s (.pt [.int .i64 a5_kind,.str a5_text,.int .i64 a5_cols,.sl 4 (Nd.encs a5_kids)])),(11,.s (.pt [.int .i64 a6_kind,.str a6_text,.int .i64 a6_cols,.sl 4 (Nd.encs a6_kids)])),(13,.op 3 0),(59,.s (.int .i64 (a4_kids.length : Int))),(60,.s (.int .i64 x18))] [(0,.box 47 [.s (.int .i64 w34_take),.orow 2]),(2,.row 52 5 ((List.map zAd) w34_conflicts)),(3,.box 24 [.s (.int .i64 a4_kind),.s (.str x7),.s (.int .i64 a4_cols),.orow 4]),(4,.row 24 4 (Nd.encs (l20 ++ [Nd.mk 1 [] 0 y33])))] 5 ⟨rfl,rfl,rfl,rfl,rfl,rfl,rfl,rfl,rfl,trivial⟩ ⟨rfl,⟨_,rfl,rfl⟩,rfl,⟨_,rfl,rfl⟩,rfl,⟨_,rfl,rfl⟩,rfl,⟨_,rfl,congrArg (Ob.row 24 4) (by simp [List.map_append,List.map_take,List.map_drop,irow,brow,zAC,List.map_cons,List.map_nil,zAz,Nd.encs_eq,Nd.enc,zAg,zAe,zAh,zAo,zAw,zAl,zAt,zAd,zAu,zAm])⟩,trivial⟩ rfl rfl rfl rfl rfl) ?_
      refine zAa (by exact tokW) (by exact gok) [] [] rfl ?_
      refine ⟨(k,w34_take,IntKind.i64.wrap (x18 + 1),w34_conflicts,l20 ++ [Nd.mk 1 [] 0 y33]),h,(Le.rename [(0,0),(2,2),(3,3),(4,4)] _ _ _ ⟨rfl,rfl,rfl,rfl,rfl,rfl,rfl,rfl,rfl,trivial⟩ ⟨rfl,⟨_,rfl,rfl⟩,rfl,⟨_,rfl,rfl⟩,rfl,⟨_,rfl,rfl⟩,rfl,⟨_,rfl,rfl⟩,trivial⟩ rfl rfl rfl rfl rfl),Nat.lt_succ_self k⟩
     ·replace h:=zAr hb h
      refine zAK ?_
      cases h
      exact (Le.rename [(0,0),(2,2),(3,3),(4,4)] _ _ _ ⟨rfl,trivial⟩ ⟨rfl,⟨_,rfl,rfl⟩,rfl,⟨_,rfl,rfl⟩,rfl,⟨_,rfl,rfl⟩,rfl,⟨_,rfl,rfl⟩,trivial⟩ rfl rfl rfl rfl rfl)
  ·show Tri _ _ _ _
   refine zAk hle ?_
   refine zAb ?_
   refine zAk (Le.trans (Le.rename [(0,0),(2,2),(3,3),(4,4)] [(13,.op 3 0)] [(0,.box 47 [.s (.int .i64 x21),.orow 2]),(2,.row 52 5 ((List.map zAd) l22)),(3,.box 24 [.s (.int .i64 a4_kind),.s (.str x7),.s (.int .i64 a4_cols),.orow 4]),(4,.row 24 4 (Nd.encs l23))] 5 ⟨rfl,trivial⟩ ⟨rfl,⟨_,rfl,rfl⟩,rfl,⟨_,rfl,rfl⟩,rfl,⟨_,rfl,rfl⟩,rfl,⟨_,rfl,rfl⟩,trivial⟩ rfl rfl rfl rfl rfl) (Le.giveRow 4 rfl)) ?_
   refine zAk (Le.trans (Le.rename [(0,0),(2,2),(3,3)] [(13,.op 3 0)] [(0,.box 47 [.s (.int .i64 x21),.orow 2]),(2,.row 52 5 ((List.map zAd) l22)),(3,.box 24 [.s (.int .i64 a4_kind),.s (.str x7),.s (.int .i64 a4_cols),.s (.sl 4 (Nd.encs l23))])] 4 ⟨rfl,trivial⟩ ⟨rfl,⟨_,rfl,rfl⟩,rfl,⟨_,rfl,rfl⟩,rfl,⟨_,rfl,rfl⟩,trivial⟩ rfl rfl rfl rfl rfl) (Le.giveBox 3 [.int .i64 a4_kind,.str x7,.int .i64 a4_cols,.sl 4 (Nd.encs l23)] rfl rfl)) ?_
   refine zAa (by exact tokW) (by exact gok) [] [98] rfl ?_
   intro r36 hr36
   obtain rfl : Nd.encs [Nd.mk a4_kind x7 a4_cols l23] = r36:=(hr36.trans (by simp [List.map_append,List.map_take,List.map_drop,irow,brow,zAC,List.map_cons,List.map_nil,zAz,Nd.encs_eq,Nd.enc,zAg,zAe,zAh,zAo,zAw,zAl,zAt,zAd,zAu,zAm])).symm
   show Tri _ _ _ _
   refine zAv ?_
   obtain ⟨hj1,hk1⟩:=Prod.mk.inj (Option.some.inj h)
   subst hj1
   subst hk1
   unfold zBy
   exact ⟨_,(Le.rename [(0,0),(2,2)] [(12,.s (.sl 4 (Nd.encs [Nd.mk a4_kind x7 a4_cols l23])))] [(0,.box 47 [.s (.int .i64 x21),.orow 2]),(2,.row 52 5 ((List.map zAd) l22))] 3 ⟨rfl,trivial⟩ ⟨rfl,⟨_,rfl,rfl⟩,rfl,⟨_,rfl,rfl⟩,trivial⟩ rfl rfl rfl rfl rfl),rfl,rfl,rfl,rfl,rfl,rfl,trivial⟩
theorem zGW (n : Nat) (ih_merge_merger_item : PSound Tryz.prog 42 (zBN (zB6 n))) (ih_merge_merger_row : PSound Tryz.prog 28 (zBN (zBV n))) : PSound Tryz.prog 28 (zBN (zBV (n + 1))):=by
 have gok : ∀ f s,look? f [(40,zGk),(41,zEZ),(42,zBN (zB6 n))] = some s → PSound Tryz.prog f s:=zAE (by
  simp only [List.forall_mem_cons]
  exact ⟨zIM,zG8,ih_merge_merger_item,by simp⟩)
 refine PSound.withNil (zD3 tokW Tryz.call28 Tryz.func28 rfl (fun xs os x os' h => by obtain ⟨_,_,_,_,_,_,_,_,rfl,rfl,_,rfl⟩:=h; exact ⟨by show 5 ≤ 121; decide,by show 2 ≤ 4; decide⟩) 121 rfl ?_) _
 rintro xs os x os' w0 G0 B0 ⟨⟨o1_take,o1_conflicts⟩,a2,a3,a4,a5,y0,z0,h,rfl,rfl,rfl,rfl⟩ _
 rw [zA0] at h
 refine zAb ?_
 refine zAa (by exact tokW) (by exact gok) [10] [] rfl ?_
 show Tri _ _ _ _
 refine zAk (Le.rename [(0,0),(1,2)] [(0,.op 0 0),(1,.s (.sl 1 ((List.map (irow .i64)) a2))),(2,.s (.sl 4 (Nd.encs a3))),(3,.s (.sl 4 (Nd.encs a4))),(4,.s (.sl 4 (Nd.encs a5)))] [(0,.box 47 [.s (.int .i64 o1_take),.orow 2]),(2,.row 52 5 ((List.map zAd) o1_conflicts))] 3 ⟨rfl,rfl,rfl,rfl,rfl,trivial⟩ ⟨rfl,⟨_,rfl,rfl⟩,rfl,⟨_,rfl,rfl⟩,trivial⟩ rfl rfl rfl rfl rfl) ?_
 refine zAb ?_
 refine zAa (by exact tokW) (by exact gok) [] [] rfl ?_
 obtain ⟨y6,hy6,h⟩:=zAc h
 refine ⟨_,⟨_,_,_,_,hy6,rfl,rfl⟩,?_⟩
 obtain ⟨y7,hy7,h⟩:=zAc h
 refine ⟨_,⟨_,_,_,_,hy7,rfl,rfl⟩,?_⟩
 show Tri _ _ _ _
 refine zAb ?_
 refine zAa (by exact tokW) (by exact gok) [13] [] rfl ?_
 show Tri _ _ _ _
 refine zAk (Le.rename [(0,0),(2,2),(3,3)] [(0,.op 0 0),(1,.s (.sl 1 ((List.map (irow .i64)) a2))),(2,.s (.sl 4 (Nd.encs a3))),(3,.s (.sl 4 (Nd.encs a4))),(4,.s (.sl 4 (Nd.encs a5))),(11,.s (.sl 1 ((List.map (irow .i64)) y6))),(12,.s (.sl 1 ((List.map (irow .i64)) y7))),(13,.orow 3)] [(0,.box 47 [.s (.int .i64 o1_take),.orow 2]),(2,.row 52 5 ((List.map zAd) o1_conflicts)),(3,.row 24 4 (Nd.encs []))] 4 ⟨rfl,rfl,rfl,rfl,rfl,rfl,rfl,rfl,trivial⟩ ⟨rfl,⟨_,rfl,rfl⟩,rfl,⟨_,rfl,rfl⟩,rfl,⟨_,rfl,congrArg (Ob.row 24 4) (by simp [List.map_append,List.map_take,List.map_drop,irow,brow,zAC,List.map_cons,List.map_nil,zAz,Nd.encs_eq,Nd.enc,zAg,zAe,zAh,zAo,zAw,zAl,zAt,zAd,zAu,zAm])⟩,trivial⟩ rfl rfl rfl rfl rfl) ?_
 refine zAb ?_
 refine zAa (by exact tokW) (by exact gok) [] [] rfl ?_
 show Tri _ _ _ _
 refine zAb ?_
 refine zAb ?_
 refine zAa (by exact tokW) (by exact gok) [] [26] rfl ?_
 intro n8 hn8
 obtain rfl : (a3.length : Int) = n8:=(hn8.trans (congrArg (fun m : Nat => (m : Int)) (rlen Nd.encs_eq a3))).symm
 show Tri _ _ _ _
 obtain ⟨⟨x18,x19,x20,x21,l22,l23⟩,hl,h⟩:=zAc h
 refine zAp ⟨ofL [(0,.op 0 0),(1,.s (.sl 1 ((List.map (irow .i64)) a2))),(2,.s (.sl 4 (Nd.encs a3))),(3,.s (.sl 4 (Nd.encs a4))),(4,.s (.sl 4 (Nd.encs a5))),(13,.orow 3),(14,.s (.int .i64 x18)),(15,.s (.int .i64 x19)),(16,.s (.int .i64 x20))],ofH [(0,.box 47 [.s (.int .i64 x21),.orow 2]),(2,.row 52 5 ((List.map zAd) l22)),(3,.row 24 4 (Nd.encs l23))],4⟩ ?_ (fun σ' hle => ?_)
 ·refine zAn (zAG (X:=Nat × Int × Int × Int × Int × Int × (List (List Int × Int × Int × List Nd × List Nd)) × (List Nd)) (fun y => match y with | (k,x9,x12,x13,x14,x15,l16,l17) => ⟨ofL [(0,.op 0 0),(1,.s (.sl 1 ((List.map (irow .i64)) a2))),(2,.s (.sl 4 (Nd.encs a3))),(3,.s (.sl 4 (Nd.encs a4))),(4,.s (.sl 4 (Nd.encs a5))),(11,.s (.sl 1 ((List.map (irow .i64)) y6))),(12,.s (.sl 1 ((List.map (irow .i64)) y7))),(13,.orow 3),(14,.s (.int .i64 x12)),(15,.s (.int .i64 x13)),(16,.s (.int .i64 x14)),(26,.s (.int .i64 (a3.length : Int))),(27,.s (.int .i64 x15))],ofH [(0,.box 47 [.s (.int .i64 x9),.orow 2]),(2,.row 52 5 ((List.map zAd) l16)),(3,.row 24 4 (Nd.encs l17))],4⟩) (fun y => zA1 (zA9 n) n a2 a3 a4 a5 y6 y7 y.1 y.2.1 y.2.2.1 y.2.2.2.1 y.2.2.2.2.1 y.2.2.2.2.2.1 y.2.2.2.2.2.2.1 y.2.2.2.2.2.2.2 = some (x18,x19,x20,x21,l22,l23)) (fun y => y.1) (n,o1_take,0,0,0,0,o1_conflicts,[]) hl ?_ ?_)
  ·exact (Le.rename [(0,0),(2,2),(3,3)] _ _ _ ⟨rfl,rfl,rfl,rfl,rfl,rfl,rfl,rfl,rfl,rfl,rfl,rfl,rfl,trivial⟩ ⟨rfl,⟨_,rfl,rfl⟩,rfl,⟨_,rfl,rfl⟩,rfl,⟨_,rfl,rfl⟩,trivial⟩ rfl rfl rfl rfl rfl)
  ·rintro ⟨k,x9,x12,x13,x14,x15,l16,l17⟩ h
   cases k with
   | zero => cases h
   | succ k =>
    replace h : zA1 (zA9 n) n a2 a3 a4 a5 y6 y7 (k+1) x9 x12 x13 x14 x15 l16 l17 = some (x18,x19,x20,x21,l22,l23):=h
    rw [zA1] at h
    refine zAb ?_
    refine zAa (by exact tokW) (by exact gok) [] [] rfl ?_
    show Tri _ _ _ _
    refine zAb ?_
    refine zAf rfl (fun hb => ?_) (fun hb => ?_)
    ·replace h:=zAs hb h
     refine zAj ?_
     show Tri _ _ _ _
     refine zAb ?_
     obtain ⟨⟨x24,x25,x26,x27,l28,l29⟩,hj,h⟩:=zAc h
     refine zAp ⟨ofL [(0,.op 0 0),(1,.s (.sl 1 ((List.map (irow .i64)) a2))),(2,.s (.sl 4 (Nd.encs a3))),(3,.s (.sl 4 (Nd.encs a4))),(4,.s (.sl 4 (Nd.encs a5))),(11,.s (.sl 1 ((List.map (irow .i64)) y6))),(12,.s (.sl 1 ((List.map (irow .i64)) y7))),(13,.orow 3),(14,.s (.int .i64 x24)),(15,.s (.int .i64 x25)),(16,.s (.int .i64 x26)),(26,.s (.int .i64 (a3.length : Int))),(27,.s (.int .i64 x15))],ofH [(0,.box 47 [.s (.int .i64 x27),.orow 2]),(2,.row 52 5 ((List.map zAd) l28)),(3,.row 24 4 (Nd.encs l29))],4⟩ ?_ (fun σ' hle => ?_)
     ·replace h:=hj
      refine zAn ?_
      refine zAb ?_
      refine zAa (by exact tokW) (by exact gok) [] [] rfl ?_
      show Tri _ _ _ _
      refine zAb ?_
      refine zAb ?_
      obtain ⟨x30,hj,h⟩:=zAc h
      refine zAp ⟨ofL [(0,.op 0 0),(1,.s (.sl 1 ((List.map (irow .i64)) a2))),(2,.s (.sl 4 (Nd.encs a3))),(3,.s (.sl 4 (Nd.encs a4))),(4,.s (.sl 4 (Nd.encs a5))),(11,.s (.sl 1 ((List.map (irow .i64)) y6))),(12,.s (.sl 1 ((List.map (irow .i64)) y7))),(13,.orow 3),(14,.s (.int .i64 x12)),(15,.s (.int .i64 x13)),(16,.s (.int .i64 x14)),(17,.s (.int .i64 x15)),(26,.s (.int .i64 (a3.length : Int))),(27,.s (.int .i64 x15)),(41,.s (.bool x30))],ofH [(0,.box 47 [.s (.int .i64 x9),.orow 2]),(2,.row 52 5 ((List.map zAd) l16)),(3,.row 24 4 (Nd.encs l17))],4⟩ ?_ (fun σ' hle => ?_)
      ·replace h:=hj
       refine zAa (by exact tokW) (by exact gok) [] [32,35,38] rfl ?_
       obtain ⟨e31,he31,h⟩:=zAc h
       refine And.intro (zAA (fun _ => rfl) he31).1 ?_
       intro r32 hr32
       obtain rfl : [.int .i64 e31] = r32:=(hr32.trans (zAA (fun _ => rfl) he31).2.1).symm
       intro b hb
       cases b with
       | true =>
        replace h:=zAs hb.symm h
        cases h
        exact (Le.rename [(0,0),(2,2),(3,3)] _ _ _ ⟨rfl,rfl,rfl,rfl,rfl,rfl,rfl,rfl,rfl,rfl,rfl,rfl,rfl,rfl,rfl,trivial⟩ ⟨rfl,⟨_,rfl,rfl⟩,rfl,⟨_,rfl,rfl⟩,rfl,⟨_,rfl,rfl⟩,trivial⟩ rfl rfl rfl rfl rfl)
       | false =>
        replace h:=zAr hb.symm h
        obtain ⟨e33,he33,h⟩:=zAc h
        refine And.intro (zAA (fun _ => rfl) he33).1 ?_
        intro r34 hr34
        obtain rfl : [.int .i64 e33] = r34:=(hr34.trans (zAA (fun _ => rfl) he33).2.1).symm
        cases h
        exact (Le.rename [(0,0),(2,2),(3,3)] _ _ _ ⟨rfl,rfl,rfl,rfl,rfl,rfl,rfl,rfl,rfl,rfl,rfl,rfl,rfl,rfl,rfl,trivial⟩ ⟨rfl,⟨_,rfl,rfl⟩,rfl,⟨_,rfl,rfl⟩,rfl,⟨_,rfl,rfl⟩,trivial⟩ rfl rfl rfl rfl rfl)
      ·show Tri _ _ _ _
       refine zAk hle ?_
       refine zAf rfl (fun hb => ?_) (fun hb => ?_)
       ·replace h:=zAs hb h
        refine zAK ?_
        cases h
        exact (Le.rename [(0,0),(2,2),(3,3)] _ _ _ ⟨rfl,rfl,rfl,rfl,rfl,rfl,rfl,rfl,rfl,rfl,rfl,rfl,rfl,trivial⟩ ⟨rfl,⟨_,rfl,rfl⟩,rfl,⟨_,rfl,rfl⟩,rfl,⟨_,rfl,rfl⟩,trivial⟩ rfl rfl rfl rfl rfl)
       ·replace h:=zAr hb h
        refine zAj ?_
        show Tri _ _ _ _
        refine zAb ?_
        refine zF2 (by exact tokW) (by exact gok) (by exact mixed) [18] [45,50,52,57,59] [19,20] [] rfl (by decide +kernel) ?_
        obtain ⟨hq,h⟩:=zAF h
        refine And.intro ⟨hq.1,hq.2.1,Int.le_trans hq.2.2 (Int.ofNat_le.2 (Nat.le_of_eq (rlen Nd.encs_eq _).symm))⟩ ?_
        intro r35 hr35
        obtain rfl : Nd.encs ((a3.take x15.toNat).drop x12.toNat) = r35:=(hr35.trans (rcut Nd.encs_eq _ _ _)).symm
        obtain ⟨e36,he36,h⟩:=zAc h
        refine And.intro (zAA (fun _ => rfl) he36).1 ?_
        intro r37 hr37
        obtain rfl : [.int .i64 e36] = r37:=(hr37.trans (zAA (fun _ => rfl) he36).2.1).symm
        obtain ⟨hq,h⟩:=zAF h
        refine And.intro ⟨hq.1,hq.2.1,Int.le_trans hq.2.2 (Int.ofNat_le.2 (Nat.le_of_eq (rlen Nd.encs_eq _).symm))⟩ ?_
        intro r38 hr38
        obtain rfl : Nd.encs ((a4.take e36.toNat).drop x13.toNat) = r38:=(hr38.trans (rcut Nd.encs_eq _ _ _)).symm
        obtain ⟨e39,he39,h⟩:=zAc h
        refine And.intro (zAA (fun _ => rfl) he39).1 ?_
        intro r40 hr40
        obtain rfl : [.int .i64 e39] = r40:=(hr40.trans (zAA (fun _ => rfl) he39).2.1).symm
        obtain ⟨hq,h⟩:=zAF h
        refine And.intro ⟨hq.1,hq.2.1,Int.le_trans hq.2.2 (Int.ofNat_le.2 (Nat.le_of_eq (rlen Nd.encs_eq _).symm))⟩ ?_
        intro r41 hr41
        obtain rfl : Nd.encs ((a5.take e39.toNat).drop x14.toNat) = r41:=(hr41.trans (rcut Nd.encs_eq _ _ _)).symm
        show Tri _ _ _ _
        refine zAk (Le.giveBox 4 [.sl 4 (Nd.encs ((a3.take x15.toNat).drop x12.toNat)),.sl 4 (Nd.encs ((a4.take e36.toNat).drop x13.toNat)),.sl 4 (Nd.encs ((a5.take e39.toNat).drop x14.toNat))] rfl rfl) ?_
        refine zAb ?_
        refine zAa (by exact tokW) (by exact gok) [67] [] rfl ?_
        obtain ⟨⟨y42,⟨w43_take,w43_conflicts⟩⟩,hy42,h⟩:=zAc h
        refine ⟨_,_,⟨_,_,_,_,_,_,_,hy42,rfl,rfl,rfl,rfl⟩,?_⟩
        obtain ⟨hq,h⟩:=zAF h
        refine And.intro (show ((Nd.encs l17).length + (Nd.encs y42).length) * 56 ≤ 140737488355328 ∧ (Nd.encs l17).length + (Nd.encs y42).length ≤ 9223372036854775807 from by simp only [List.length_append,List.length_cons,List.length_nil,List.length_map,rlen Nd.encs_eq] at hq ⊢; omega) ?_
        show Tri _ _ _ _
        refine zAk (Le.rename [(0,0),(5,2),(6,3)] [(0,.op 0 0),(1,.s (.sl 1 ((List.map (irow .i64)) a2))),(2,.s (.sl 4 (Nd.encs a3))),(3,.s (.sl 4 (Nd.encs a4))),(4,.s (.sl 4 (Nd.encs a5))),(11,.s (.sl 1 ((List.map (irow .i64)) y6))),(12,.s (.sl 1 ((List.map (irow .i64)) y7))),(13,.orow 3),(17,.s (.int .i64 x15)),(26,.s (.int .i64 (a3.length : Int))),(27,.s (.int .i64 x15))] [(0,.box 47 [.s (.int .i64 w43_take),.orow 2]),(2,.row 52 5 ((List.map zAd) w43_conflicts)),(3,.row 24 4 (Nd.encs (l17 ++ y42)))] 4 ⟨rfl,rfl,rfl,rfl,rfl,rfl,rfl,rfl,rfl,rfl,rfl,trivial⟩ ⟨rfl,⟨_,rfl,rfl⟩,rfl,⟨_,rfl,rfl⟩,rfl,⟨_,rfl,congrArg (Ob.row 24 4) (by simp [List.map_append,List.map_take,List.map_drop,irow,brow,zAC,List.map_cons,List.map_nil,zAz,Nd.encs_eq,Nd.enc,zAg,zAe,zAh,zAo,zAw,zAl,zAt,zAd,zAu,zAm])⟩,trivial⟩ rfl rfl rfl rfl rfl) ?_
        refine zAb ?_
        refine zAD (by exact tokW) (by exact gok) (by exact mixed) [91] [74,79,81,86,88] [22,23] rfl (by decide +kernel) ?_
        obtain ⟨⟨e44_kind,e44_text,e44_cols,e44_kids⟩,he44,h⟩:=zAc h
        refine And.intro (zAA Nd.encs_eq he44).1 ?_
        intro r45 hr45
        obtain rfl : [.int .i64 e44_kind,.str e44_text,.int .i64 e44_cols,.sl 4 (Nd.encs e44_kids)] = r45:=(hr45.trans (zAA Nd.encs_eq he44).2.1).symm
        obtain ⟨e46,he46,h⟩:=zAc h
        refine And.intro (zAA (fun _ => rfl) he46).1 ?_
        intro r47 hr47
        obtain rfl : [.int .i64 e46] = r47:=(hr47.trans (zAA (fun _ => rfl) he46).2.1).symm
        obtain ⟨⟨e48_kind,e48_text,e48_cols,e48_kids⟩,he48,h⟩:=zAc h
        refine And.intro (zAA Nd.encs_eq he48).1 ?_
        intro r49 hr49
        obtain rfl : [.int .i64 e48_kind,.str e48_text,.int .i64 e48_cols,.sl 4 (Nd.encs e48_kids)] = r49:=(hr49.trans (zAA Nd.encs_eq he48).2.1).symm
        obtain ⟨e50,he50,h⟩:=zAc h
        refine And.intro (zAA (fun _ => rfl) he50).1 ?_
        intro r51 hr51
        obtain rfl : [.int .i64 e50] = r51:=(hr51.trans (zAA (fun _ => rfl) he50).2.1).symm
        obtain ⟨⟨e52_kind,e52_text,e52_cols,e52_kids⟩,he52,h⟩:=zAc h
        refine And.intro (zAA Nd.encs_eq he52).1 ?_
        intro r53 hr53
        obtain rfl : [.int .i64 e52_kind,.str e52_text,.int .i64 e52_cols,.sl 4 (Nd.encs e52_kids)] = r53:=(hr53.trans (zAA Nd.encs_eq he52).2.1).symm
        obtain ⟨⟨y54,⟨w55_take,w55_conflicts⟩⟩,hy54,h⟩:=zAc h
        refine ⟨_,_,⟨_,_,_,_,_,_,_,_,hy54,rfl,rfl,rfl,rfl⟩,?_⟩
        obtain ⟨hq,h⟩:=zAF h
        refine And.intro (show ((Nd.encs (l17 ++ y42)).length + (Nd.encs y54).length) * 56 ≤ 140737488355328 ∧ (Nd.encs (l17 ++ y42)).length + (Nd.encs y54).length ≤ 9223372036854775807 from by simp only [List.length_append,List.length_cons,List.length_nil,List.length_map,rlen Nd.encs_eq] at hq ⊢; omega) ?_
        show Tri _ _ _ _
        refine zAk (Le.rename [(0,0),(4,2),(5,3)] [(0,.op 0 0),(1,.s (.sl 1 ((List.map (irow .i64)) a2))),(2,.s (.sl 4 (Nd.encs a3))),(3,.s (.sl 4 (Nd.encs a4))),(4,.s (.sl 4 (Nd.encs a5))),(11,.s (.sl 1 ((List.map (irow .i64)) y6))),(12,.s (.sl 1 ((List.map (irow .i64)) y7))),(13,.orow 3),(17,.s (.int .i64 x15)),(26,.s (.int .i64 (a3.length : Int))),(27,.s (.int .i64 x15))] [(0,.box 47 [.s (.int .i64 w55_take),.orow 2]),(2,.row 52 5 ((List.map zAd) w55_conflicts)),(3,.row 24 4 (Nd.encs ((l17 ++ y42) ++ y54)))] 4 ⟨rfl,rfl,rfl,rfl,rfl,rfl,rfl,rfl,rfl,rfl,rfl,trivial⟩ ⟨rfl,⟨_,rfl,rfl⟩,rfl,⟨_,rfl,rfl⟩,rfl,⟨_,rfl,congrArg (Ob.row 24 4) (by simp [List.map_append,List.map_take,List.map_drop,irow,brow,zAC,List.map_cons,List.map_nil,zAz,Nd.encs_eq,Nd.enc,zAg,zAe,zAh,zAo,zAw,zAl,zAt,zAd,zAu,zAm])⟩,trivial⟩ rfl rfl rfl rfl rfl) ?_
        refine zAD (by exact tokW) (by exact gok) (by exact mixed) [] [96,101] [] rfl (by decide +kernel) ?_
        obtain ⟨e56,he56,h⟩:=zAc h
        refine And.intro (zAA (fun _ => rfl) he56).1 ?_
        intro r57 hr57
        obtain rfl : [.int .i64 e56] = r57:=(hr57.trans (zAA (fun _ => rfl) he56).2.1).symm
        obtain ⟨e58,he58,h⟩:=zAc h
        refine And.intro (zAA (fun _ => rfl) he58).1 ?_
        intro r59 hr59
        obtain rfl : [.int .i64 e58] = r59:=(hr59.trans (zAA (fun _ => rfl) he58).2.1).symm
        cases h
        exact (Le.rename [(0,0),(2,2),(3,3)] _ _ _ ⟨rfl,rfl,rfl,rfl,rfl,rfl,rfl,rfl,rfl,rfl,rfl,rfl,rfl,trivial⟩ ⟨rfl,⟨_,rfl,rfl⟩,rfl,⟨_,rfl,rfl⟩,rfl,⟨_,rfl,rfl⟩,trivial⟩ rfl rfl rfl rfl rfl)
     ·show Tri _ _ _ _
      refine zAk hle ?_
      refine zAa (by exact tokW) (by exact gok) [] [] rfl ?_
      refine ⟨(k,x27,x24,x25,x26,IntKind.i64.wrap (x15 + 1),l28,l29),h,(Le.rename [(0,0),(2,2),(3,3)] _ _ _ ⟨rfl,rfl,rfl,rfl,rfl,rfl,rfl,rfl,rfl,rfl,rfl,rfl,rfl,trivial⟩ ⟨rfl,⟨_,rfl,rfl⟩,rfl,⟨_,rfl,rfl⟩,rfl,⟨_,rfl,rfl⟩,trivial⟩ rfl rfl rfl rfl rfl),Nat.lt_succ_self k⟩
    ·replace h:=zAr hb h
     refine zAK ?_
     cases h
     exact (Le.rename [(0,0),(2,2),(3,3)] _ _ _ ⟨rfl,rfl,rfl,rfl,rfl,rfl,rfl,rfl,rfl,trivial⟩ ⟨rfl,⟨_,rfl,rfl⟩,rfl,⟨_,rfl,rfl⟩,rfl,⟨_,rfl,rfl⟩,trivial⟩ rfl rfl rfl rfl rfl)
 ·show Tri _ _ _ _
  refine zAk hle ?_
  refine zAb ?_
  refine zAD (by exact tokW) (by exact gok) (by exact mixed) [120] [111,114,117] [14,15] rfl (by decide +kernel) ?_
  obtain ⟨hq,h⟩:=zAF h
  refine And.intro ⟨hq.1,Int.le_trans hq.2.1 (Int.ofNat_le.2 (Nat.le_of_eq (rlen Nd.encs_eq _).symm)),Int.le_refl _⟩ ?_
  intro r60 hr60
  obtain rfl : Nd.encs ((a3.take (a3.length : Int).toNat).drop x18.toNat) = r60:=(hr60.trans ((congrArg (fun m : Nat => ((Nd.encs a3).take m).drop x18.toNat) (rlen Nd.encs_eq _)).trans (rcut Nd.encs_eq _ _ _))).symm
  obtain ⟨hq,h⟩:=zAF h
  refine And.intro ⟨hq.1,Int.le_trans hq.2.1 (Int.ofNat_le.2 (Nat.le_of_eq (rlen Nd.encs_eq _).symm)),Int.le_refl _⟩ ?_
  intro r61 hr61
  obtain rfl : Nd.encs ((a4.take (a4.length : Int).toNat).drop x19.toNat) = r61:=(hr61.trans ((congrArg (fun m : Nat => ((Nd.encs a4).take m).drop x19.toNat) (rlen Nd.encs_eq _)).trans (rcut Nd.encs_eq _ _ _))).symm
  obtain ⟨hq,h⟩:=zAF h
  refine And.intro ⟨hq.1,Int.le_trans hq.2.1 (Int.ofNat_le.2 (Nat.le_of_eq (rlen Nd.encs_eq _).symm)),Int.le_refl _⟩ ?_
  intro r62 hr62
  obtain rfl : Nd.encs ((a5.take (a5.length : Int).toNat).drop x20.toNat) = r62:=(hr62.trans ((congrArg (fun m : Nat => ((Nd.encs a5).take m).drop x20.toNat) (rlen Nd.encs_eq _)).trans (rcut Nd.encs_eq _ _ _))).symm
  obtain ⟨⟨y63,⟨w64_take,w64_conflicts⟩⟩,hy63,h⟩:=zAc h
  refine ⟨_,_,⟨_,_,_,_,_,_,_,hy63,rfl,rfl,rfl,rfl⟩,?_⟩
  obtain ⟨hq,h⟩:=zAF h
  refine And.intro (show ((Nd.encs l23).length + (Nd.encs y63).length) * 56 ≤ 140737488355328 ∧ (Nd.encs l23).length + (Nd.encs y63).length ≤ 9223372036854775807 from by simp only [List.length_append,List.length_cons,List.length_nil,List.length_map,rlen Nd.encs_eq] at hq ⊢; omega) ?_
  show Tri _ _ _ _
  refine zAk (Le.rename [(0,0),(4,2),(5,3)] [(10,.orow 3)] [(0,.box 47 [.s (.int .i64 w64_take),.orow 2]),(2,.row 52 5 ((List.map zAd) w64_conflicts)),(3,.row 24 4 (Nd.encs (l23 ++ y63)))] 4 ⟨rfl,trivial⟩ ⟨rfl,⟨_,rfl,rfl⟩,rfl,⟨_,rfl,rfl⟩,rfl,⟨_,rfl,congrArg (Ob.row 24 4) (by simp [List.map_append,List.map_take,List.map_drop,irow,brow,zAC,List.map_cons,List.map_nil,zAz,Nd.encs_eq,Nd.enc,zAg,zAe,zAh,zAo,zAw,zAl,zAt,zAd,zAu,zAm])⟩,trivial⟩ rfl rfl rfl rfl rfl) ?_
  refine zAv ?_
  obtain ⟨hj1,hk1⟩:=Prod.mk.inj (Option.some.inj h)
  subst hj1
  subst hk1
  unfold zBy
  exact ⟨_,(Le.rename [(0,0),(2,2),(3,3)] [(10,.orow 3)] [(0,.box 47 [.s (.int .i64 w64_take),.orow 2]),(2,.row 52 5 ((List.map zAd) w64_conflicts)),(3,.row 24 4 (Nd.encs (l23 ++ y63)))] 4 ⟨rfl,trivial⟩ ⟨rfl,⟨_,rfl,rfl⟩,rfl,⟨_,rfl,rfl⟩,rfl,⟨_,rfl,rfl⟩,trivial⟩ rfl rfl rfl rfl rfl),rfl,rfl,rfl,rfl,rfl,rfl,rfl,rfl,trivial⟩
theorem zGm : ∀ n,PSound Tryz.prog 42 (zBN (zB6 n)) ∧ PSound Tryz.prog 28 (zBN (zBV n)):=by
 intro n
 induction n with
 | zero =>
  refine ⟨?_,?_⟩
  ·exact zFc Tryz.call42 (fun xs os x os' h => by obtain ⟨_,_,_,_,_,_,_,_,h,_⟩:=h; rw [zA9] at h; cases h) _
  ·exact zFc Tryz.call28 (fun xs os x os' h => by obtain ⟨_,_,_,_,_,_,_,h,_⟩:=h; rw [zA0] at h; cases h) _
 | succ n ih =>
  obtain ⟨ih_merge_merger_item,ih_merge_merger_row⟩:=ih
  exact ⟨zGo n ih_merge_merger_item ih_merge_merger_row,zGW n ih_merge_merger_item ih_merge_merger_row⟩
def zFj : zAB:=zBN (fun xs os x os' => ∃ n,zBV n xs os x os')
theorem zHL : PSound Tryz.prog 28 zFj:=zIP (fun n => (zGm n).2) _
def zHv (n : Nat) (xs : List AV) (os : List Ob) (x : AV) (os' : List (Option Ob)) : Prop:=∃ (a0 : (Int × List (List Int × Int × Int × List Nd × List Nd))) (a1 : Nd) (a2 : Nd) (a3 : Nd) (y0 : Nd) (y1 : Int) (z0 : (Int × List (List Int × Int × Int × List Nd × List Nd))),zBt n a0 a1 a2 a3 = some (y0,y1,z0) ∧ xs = [.op 0 0,.agg ((Nd.enc a1).map .s),.agg ((Nd.enc a2).map .s),.agg ((Nd.enc a3).map .s)] ∧ os = [.box 47 (((zAm a0).map .s).set 1 (.orow 1)),.row 52 5 ((List.map zAd) a0.2)] ∧ x = .tup [.agg ((Nd.enc y0).map .s),.s (.int .i64 y1)] ∧ os' = [some (.box 47 (((zAm z0).map .s).set 1 (.orow 2))),none,some (.row 52 5 ((List.map zAd) z0.2))]
def zDA : zAB:=zBN (fun xs os x os' => ∃ n,zHv n xs os x os')
theorem zEE : PSound Tryz.prog 20 zDA:=by
 have gok : ∀ f s,look? f [(27,zGu),(28,zFj)] = some s → PSound Tryz.prog f s:=zAE (by
  simp only [List.forall_mem_cons]
  exact ⟨zIm,zHL,by simp⟩)
 refine PSound.withNil (zD3 tokW Tryz.call20 Tryz.func20 rfl (fun xs os x os' h => by obtain ⟨n,_,_,_,_,_,_,_,_,rfl,rfl,_,rfl⟩:=h; exact ⟨by show 4 ≤ 39; decide,by show 2 ≤ 3; decide⟩) 39 rfl ?_) _
 rintro xs os x os' w0 G0 B0 ⟨n,⟨o1_take,o1_conflicts⟩,⟨base2_kind,base2_text,base2_cols,base2_kids⟩,⟨x3_kind,x3_text,x3_cols,x3_kids⟩,⟨y4_kind,y4_text,y4_cols,y4_kids⟩,y0,y1,z0,h,rfl,rfl,rfl,rfl⟩ _
 rw [zBt] at h
 refine zAb ?_
 refine zAa (by exact tokW) (by exact gok) [8] [] rfl ?_
 show Tri _ _ _ _
 refine zAb ?_
 refine zAb ?_
 obtain ⟨x5,hj,h⟩:=zAc h
 refine zAp ⟨ofL [(0,.op 0 0),(5,.s (.pt [.int .i64 base2_kind,.str base2_text,.int .i64 base2_cols,.sl 4 (Nd.encs base2_kids)])),(6,.s (.pt [.int .i64 x3_kind,.str x3_text,.int .i64 x3_cols,.sl 4 (Nd.encs x3_kids)])),(7,.s (.pt [.int .i64 y4_kind,.str y4_text,.int .i64 y4_cols,.sl 4 (Nd.encs y4_kids)])),(8,.op 3 0),(23,.s (.bool x5))],ofH [(0,.box 47 [.s (.int .i64 o1_take),.orow 2]),(2,.row 52 5 ((List.map zAd) o1_conflicts)),(3,.box 24 [.s (.int .i64 0),.s (.str []),.s (.int .i64 0),.nl 4])],4⟩ ?_ (fun σ' hle => ?_)
 ·replace h:=hj
  refine zAa (by exact tokW) (by exact gok) [] [14,19] rfl ?_
  obtain ⟨y6,hy6,h⟩:=zAc h
  refine ⟨_,⟨_,_,_,hy6,rfl,rfl⟩,?_⟩
  intro b hb
  cases b with
  | true =>
   replace h:=zAs hb.symm h
   intro b hb
   subst hb
   cases h
   exact (Le.rename [(0,0),(1,2),(2,3)] _ _ _ ⟨rfl,rfl,rfl,rfl,rfl,rfl,trivial⟩ ⟨rfl,⟨_,rfl,rfl⟩,rfl,⟨_,rfl,rfl⟩,rfl,⟨_,rfl,rfl⟩,trivial⟩ rfl rfl rfl rfl rfl)
  | false =>
   replace h:=zAr hb.symm h
   obtain ⟨y7,hy7,h⟩:=zAc h
   refine ⟨_,⟨_,_,_,hy7,rfl,rfl⟩,?_⟩
   intro b hb
   cases b with
   | true =>
    replace h:=zAs hb.symm h
    cases h
    exact (Le.rename [(0,0),(1,2),(2,3)] _ _ _ ⟨rfl,rfl,rfl,rfl,rfl,rfl,trivial⟩ ⟨rfl,⟨_,rfl,rfl⟩,rfl,⟨_,rfl,rfl⟩,rfl,⟨_,rfl,rfl⟩,trivial⟩ rfl rfl rfl rfl rfl)
   | false =>
    replace h:=zAr hb.symm h
    obtain ⟨y8,hy8,h⟩:=zAc h
    refine ⟨_,⟨_,_,_,hy8,rfl,rfl⟩,?_⟩
    cases h
    exact (Le.rename [(0,0),(1,2),(2,3)] _ _ _ ⟨rfl,rfl,rfl,rfl,rfl,rfl,trivial⟩ ⟨rfl,⟨_,rfl,rfl⟩,rfl,⟨_,rfl,rfl⟩,rfl,⟨_,rfl,rfl⟩,trivial⟩ rfl rfl rfl rfl rfl)
 ·show Tri _ _ _ _
  refine zAk hle ?_
  refine zAf rfl (fun hb => ?_) (fun hb => ?_)
  ·replace h:=zAs hb h
   refine zAb ?_
   refine zAa (by exact tokW) (by exact gok) [] [] rfl ?_
   show Tri _ _ _ _
   refine zAv ?_
   obtain ⟨hj1,hk1⟩:=Prod.mk.inj (Option.some.inj h)
   subst hj1
   obtain ⟨hj2,hk2⟩:=Prod.mk.inj hk1
   subst hj2
   subst hk2
   unfold zBy
   exact ⟨_,(Le.rename [(0,0),(2,2),(3,3)] [(8,.op 3 0),(9,.s (.int .i64 1))] [(0,.box 47 [.s (.int .i64 o1_take),.orow 2]),(2,.row 52 5 ((List.map zAd) o1_conflicts)),(3,.box 24 [.s (.int .i64 0),.s (.str []),.s (.int .i64 0),.nl 4])] 4 ⟨rfl,rfl,trivial⟩ ⟨rfl,⟨_,rfl,rfl⟩,rfl,⟨_,rfl,rfl⟩,rfl,⟨_,rfl,rfl⟩,trivial⟩ rfl rfl rfl rfl rfl),rfl,rfl,rfl,rfl,rfl,rfl,trivial⟩
  ·replace h:=zAr hb h
   refine zAj ?_
   show Tri _ _ _ _
   refine zAb ?_
   refine zAa (by exact tokW) (by exact gok) [10] [] rfl ?_
   obtain ⟨⟨y9,⟨w10_take,w10_conflicts⟩⟩,hy9,h⟩:=zAc h
   refine ⟨_,_,⟨_,_,_,_,_,_,_,_,hy9,rfl,rfl,rfl,rfl⟩,?_⟩
   show Tri _ _ _ _
   refine zAb ?_
   refine zAb ?_
   refine zAa (by exact tokW) (by exact gok) [] [] rfl ?_
   obtain ⟨y11,hy11,h⟩:=zAc h
   refine ⟨_,⟨_,_,_,hy11,rfl,rfl⟩,?_⟩
   show Tri _ _ _ _
   refine zAf rfl (fun hb => ?_) (fun hb => ?_)
   ·replace h:=zAs hb h
    refine zAb ?_
    refine zAa (by exact tokW) (by exact gok) [] [] rfl ?_
    show Tri _ _ _ _
    refine zAv ?_
    obtain ⟨hj1,hk1⟩:=Prod.mk.inj (Option.some.inj h)
    subst hj1
    obtain ⟨hj2,hk2⟩:=Prod.mk.inj hk1
    subst hj2
    subst hk2
    unfold zBy
    exact ⟨_,(Le.rename [(0,0),(4,2),(3,3)] [(8,.op 3 0),(9,.s (.int .i64 6))] [(0,.box 47 [.s (.int .i64 w10_take),.orow 2]),(2,.row 52 5 ((List.map zAd) w10_conflicts)),(3,.box 24 [.s (.int .i64 0),.s (.str []),.s (.int .i64 0),.nl 4])] 4 ⟨rfl,rfl,trivial⟩ ⟨rfl,⟨_,rfl,rfl⟩,rfl,⟨_,rfl,rfl⟩,rfl,⟨_,rfl,rfl⟩,trivial⟩ rfl rfl rfl rfl rfl),rfl,rfl,rfl,rfl,rfl,rfl,trivial⟩
   ·replace h:=zAr hb h
    refine zAj ?_
    show Tri _ _ _ _
    refine zAb ?_
    refine zAa (by exact tokW) (by exact gok) [] [] rfl ?_
    show Tri _ _ _ _
    refine zAv ?_
    obtain ⟨hj1,hk1⟩:=Prod.mk.inj (Option.some.inj h)
    subst hj1
    obtain ⟨hj2,hk2⟩:=Prod.mk.inj hk1
    subst hj2
    subst hk2
    unfold zBy
    exact ⟨_,(Le.trans (Le.rename [(0,0),(4,2),(3,3),(5,4)] [(8,.op 3 0),(9,.s (.int .i64 0))] [(0,.box 47 [.s (.int .i64 w10_take),.orow 2]),(2,.row 52 5 ((List.map zAd) w10_conflicts)),(3,.box 24 [.s (.int .i64 1),.s (.str []),.s (.int .i64 0),.orow 4]),(4,.row 24 4 (Nd.encs y9))] 5 ⟨rfl,rfl,trivial⟩ ⟨rfl,⟨_,rfl,rfl⟩,rfl,⟨_,rfl,rfl⟩,rfl,⟨_,rfl,rfl⟩,rfl,⟨_,rfl,rfl⟩,trivial⟩ rfl rfl rfl rfl rfl) (Le.giveRow 4 rfl)),rfl,rfl,rfl,rfl,rfl,rfl,trivial⟩
def zMo (n : Nat) (xs : List AV) (r : Ret) : Prop:=∃ (a0 : Nd) (a1 : Nd) (a2 : Nd) (y0 : Nd) (y1 : List (List Int × Int × Int × List Nd × List Nd)) (y2 : Int),zGa n a0 a1 a2 = some (y0,y1,y2) ∧ xs = [.agg ((Nd.enc a0).map .s),.agg ((Nd.enc a1).map .s),.agg ((Nd.enc a2).map .s)] ∧ r = .val (.tup [.agg ((Nd.enc y0).map .s),.s (.sl 5 ((List.map zAd) y1)),.s (.int .i64 y2)])
def zH2 : zAB:=zAJ fun xs r => ∃ n,zMo n xs r
theorem zLh : PSound Tryz.prog 8 zH2:=by
 have gok : ∀ f s,look? f [(20,zDA)] = some s → PSound Tryz.prog f s:=zAE (by
  simp only [List.forall_mem_cons]
  exact ⟨zEE,by simp⟩)
 refine zAT tokW Tryz.call8 Tryz.func8 rfl (fun xs r h => by obtain ⟨n,_,_,_,_,_,_,_,rfl,_⟩:=h; show 3 ≤ 31; decide) 31 rfl ?_
 rintro xs r w0 G0 ⟨n,⟨base1_kind,base1_text,base1_cols,base1_kids⟩,⟨x2_kind,x2_text,x2_cols,x2_kids⟩,⟨y3_kind,y3_text,y3_cols,y3_kids⟩,y0,y1,y2,h,rfl,rfl⟩ _
 rw [zGa] at h
 refine zAb ?_
 refine zAa (by exact tokW) (by exact gok) [6] [] rfl ?_
 show Tri _ _ _ _
 refine zAb ?_
 refine zAa (by exact tokW) (by exact gok) [13] [] rfl ?_
 show Tri _ _ _ _
 refine zAk (Le.trans (Le.rename [(0,0),(1,1)] [(3,.s (.pt [.int .i64 base1_kind,.str base1_text,.int .i64 base1_cols,.sl 4 (Nd.encs base1_kids)])),(4,.s (.pt [.int .i64 x2_kind,.str x2_text,.int .i64 x2_cols,.sl 4 (Nd.encs x2_kids)])),(5,.s (.pt [.int .i64 y3_kind,.str y3_text,.int .i64 y3_cols,.sl 4 (Nd.encs y3_kids)])),(6,.op 0 0),(9,.op 1 0)] [(0,.box 24 [.s (.int .i64 0),.s (.str []),.s (.int .i64 0),.nl 4]),(1,.box 47 [.s (.int .i64 0),.nl 5])] 2 ⟨rfl,rfl,rfl,rfl,rfl,trivial⟩ ⟨rfl,⟨_,rfl,rfl⟩,rfl,⟨_,rfl,rfl⟩,trivial⟩ rfl rfl rfl rfl rfl) (Le.takeNil 1 1 52 rfl rfl (by decide))) ?_
 refine zAb ?_
 refine zAa (by exact tokW) (by exact gok) [10] [] rfl ?_
 obtain ⟨⟨⟨y4_kind,y4_text,y4_cols,y4_kids⟩,y5,⟨w6_take,w6_conflicts⟩⟩,hy4,h⟩:=zAc h
 refine ⟨_,_,⟨_,_,_,_,_,_,_,_,hy4,rfl,rfl,rfl,rfl⟩,?_⟩
 show Tri _ _ _ _
 refine zAk (Le.giveBox 4 [.int .i64 y4_kind,.str y4_text,.int .i64 y4_cols,.sl 4 (Nd.encs y4_kids)] rfl rfl) ?_
 refine zAb ?_
 refine zAb ?_
 refine zAa (by exact tokW) (by exact gok) [] [] rfl ?_
 show Tri _ _ _ _
 refine zAf rfl (fun hb => ?_) (fun hb => ?_)
 ·replace h:=zAs hb h
  refine zAb ?_
  refine zAa (by exact tokW) (by exact gok) [] [] rfl ?_
  show Tri _ _ _ _
  refine zAv ?_
  obtain ⟨hj1,hk1⟩:=Prod.mk.inj (Option.some.inj h)
  subst hj1
  obtain ⟨hj2,hk2⟩:=Prod.mk.inj hk1
  subst hj2
  subst hk2
  unfold zAQ
  exact ⟨_,Le.refl _ _,rfl,rfl⟩
 ·replace h:=zAr hb h
  refine zAj ?_
  show Tri _ _ _ _
  refine zAb ?_
  refine zAk (Le.trans (Le.rename [(0,0),(1,1),(3,2)] [(6,.op 0 0),(9,.op 1 0),(10,.s (.pt [.int .i64 y4_kind,.str y4_text,.int .i64 y4_cols,.sl 4 (Nd.encs y4_kids)]))] [(0,.box 24 [.s (.int .i64 0),.s (.str []),.s (.int .i64 0),.nl 4]),(1,.box 47 [.s (.int .i64 w6_take),.orow 2]),(2,.row 52 5 ((List.map zAd) w6_conflicts))] 3 ⟨rfl,rfl,rfl,trivial⟩ ⟨rfl,⟨_,rfl,rfl⟩,rfl,⟨_,rfl,rfl⟩,rfl,⟨_,rfl,rfl⟩,trivial⟩ rfl rfl rfl rfl rfl) (Le.giveRow 2 rfl)) ?_
  refine zAk (Le.trans (Le.rename [(0,0),(1,1)] [(6,.op 0 0),(9,.op 1 0),(10,.s (.pt [.int .i64 y4_kind,.str y4_text,.int .i64 y4_cols,.sl 4 (Nd.encs y4_kids)]))] [(0,.box 24 [.s (.int .i64 0),.s (.str []),.s (.int .i64 0),.nl 4]),(1,.box 47 [.s (.int .i64 w6_take),.s (.sl 5 ((List.map zAd) w6_conflicts))])] 2 ⟨rfl,rfl,rfl,trivial⟩ ⟨rfl,⟨_,rfl,rfl⟩,rfl,⟨_,rfl,rfl⟩,trivial⟩ rfl rfl rfl rfl rfl) (Le.giveBox 1 [.int .i64 w6_take,.sl 5 ((List.map zAd) w6_conflicts)] rfl rfl)) ?_
  refine zAD (by exact tokW) (by exact gok) (by exact mixed) [] [] [5] rfl (by decide +kernel) ?_
  show Tri _ _ _ _
  refine zAv ?_
  obtain ⟨hj1,hk1⟩:=Prod.mk.inj (Option.some.inj h)
  subst hj1
  obtain ⟨hj2,hk2⟩:=Prod.mk.inj hk1
  subst hj2
  subst hk2
  unfold zAQ
  exact ⟨_,Le.refl _ _,rfl,rfl⟩
def zD5 (n : Nat) (xs : List AV) (r : Ret) : Prop:=∃ (a0 : Nd) (a1 : Nd) (y0 : Bool),zBL n a0 a1 = some y0 ∧ xs = [.agg ((Nd.enc a0).map .s),.agg ((Nd.enc a1).map .s)] ∧ r = .val (.s (.bool y0))
def zCt (n : Nat) (xs : List AV) (r : Ret) : Prop:=∃ (a0 : List Nd) (a1 : List Nd) (y0 : Bool),zBr n a0 a1 = some y0 ∧ xs = [.s (.sl 4 (Nd.encs a0)),.s (.sl 4 (Nd.encs a1))] ∧ r = .val (.s (.bool y0))
theorem zLw (n : Nat) (ih_r09_Equal : PSound Tryz.prog 10 (zAJ (zD5 n))) (ih_r09_SameItems : PSound Tryz.prog 22 (zAJ (zCt n))) : PSound Tryz.prog 10 (zAJ (zD5 (n + 1))):=by
 have gok : ∀ f s,look? f [(22,zAJ (zCt n))] = some s → PSound Tryz.prog f s:=zAE (by
  simp only [List.forall_mem_cons]
  exact ⟨ih_r09_SameItems,by simp⟩)
 refine zAT tokW Tryz.call10 Tryz.func10 rfl (fun xs r h => by obtain ⟨_,_,_,_,rfl,_⟩:=h; show 2 ≤ 31; decide) 31 rfl ?_
 rintro xs r w0 G0 ⟨⟨a1_kind,a1_text,a1_cols,a1_kids⟩,⟨b2_kind,b2_text,b2_cols,b2_kids⟩,y0,h,rfl,rfl⟩ _
 rw [zBL] at h
 refine zAb ?_
 refine zAa (by exact tokW) (by exact gok) [] [] rfl ?_
 show Tri _ _ _ _
 refine zAb ?_
 obtain ⟨x3,hj,h⟩:=zAc h
 refine zAp ⟨ofL [(4,.s (.bool x3))],fun _ => none,0⟩ ?_ (fun σ' hle => ?_)
 ·replace h:=hj
  refine zAa (by exact tokW) (by exact gok) [] [10,17,24] rfl ?_
  intro b hb
  cases b with
  | true =>
   replace h:=zAs hb.symm h
   intro b hb
   cases b with
   | true =>
    replace h:=zAs hb.symm h
    intro b hb
    cases b with
    | true =>
     replace h:=zAs hb.symm h
     obtain ⟨y4,hy4,h⟩:=zAc h
     refine ⟨_,⟨_,_,_,hy4,rfl,rfl⟩,?_⟩
     cases h
     exact (Le.forget _ ⟨rfl,trivial⟩)
    | false =>
     replace h:=zAr hb.symm h
     cases h
     exact (Le.forget _ ⟨rfl,trivial⟩)
   | false =>
    replace h:=zAr hb.symm h
    intro b hb
    subst hb
    cases h
    exact (Le.forget _ ⟨rfl,trivial⟩)
  | false =>
   replace h:=zAr hb.symm h
   intro b hb
   subst hb
   intro b hb
   subst hb
   cases h
   exact (Le.forget _ ⟨rfl,trivial⟩)
 ·show Tri _ _ _ _
  refine zAk hle ?_
  refine zAv ?_
  have hy:=Option.some.inj h
  subst hy
  unfold zAQ
  exact ⟨_,Le.refl _ _,rfl,rfl⟩
theorem zIy (n : Nat) (ih_r09_Equal : PSound Tryz.prog 10 (zAJ (zD5 n))) (ih_r09_SameItems : PSound Tryz.prog 22 (zAJ (zCt n))) : PSound Tryz.prog 22 (zAJ (zCt (n + 1))):=by
 have gok : ∀ f s,look? f [(10,zAJ (zD5 n))] = some s → PSound Tryz.prog f s:=zAE (by
  simp only [List.forall_mem_cons]
  exact ⟨ih_r09_Equal,by simp⟩)
 refine zAT tokW Tryz.call22 Tryz.func22 rfl (fun xs r h => by obtain ⟨_,_,_,_,rfl,_⟩:=h; show 2 ≤ 27; decide) 27 rfl ?_
 rintro xs r w0 G0 ⟨a1,b2,y0,h,rfl,rfl⟩ _
 rw [zBr] at h
 refine zAb ?_
 refine zAa (by exact tokW) (by exact gok) [] [] rfl ?_
 show Tri _ _ _ _
 refine zAb ?_
 refine zAb ?_
 refine zAa (by exact tokW) (by exact gok) [] [7,9] rfl ?_
 intro n3 hn3
 obtain rfl : (a1.length : Int) = n3:=(hn3.trans (congrArg (fun m : Nat => (m : Int)) (rlen Nd.encs_eq a1))).symm
 intro n4 hn4
 obtain rfl : (b2.length : Int) = n4:=(hn4.trans (congrArg (fun m : Nat => (m : Int)) (rlen Nd.encs_eq b2))).symm
 show Tri _ _ _ _
 refine zAf rfl (fun hb => ?_) (fun hb => ?_)
 ·replace h:=zAs hb h
  refine zAb ?_
  refine zAa (by exact tokW) (by exact gok) [] [] rfl ?_
  show Tri _ _ _ _
  refine zAv ?_
  have hy:=Option.some.inj h
  subst hy
  unfold zAQ
  exact ⟨_,Le.refl _ _,rfl,rfl⟩
 ·replace h:=zAr hb h
  refine zAj ?_
  show Tri _ _ _ _
  refine zAb ?_
  refine zAb ?_
  refine zAa (by exact tokW) (by exact gok) [] [] rfl ?_
  show Tri _ _ _ _
  obtain ⟨fl,hl,ho1⟩:=zAc h
  refine zDY (fl:=fl) (fun z => match z with | _ => ⟨ofL [],fun _ => none,0⟩) ?_ (fun z σ' hz hle => ?_)
  ·refine zAn (zAG (X:=Nat × Int) (fun y => match y with | (k,i5) => ⟨ofL [(0,.s (.sl 4 (Nd.encs a1))),(1,.s (.sl 4 (Nd.encs b2))),(5,.s (.int .i64 i5))],fun _ => none,0⟩) (fun y => zBD (zBL n) a1 b2 y.1 y.2 = some fl) (fun y => y.1) (n,0) hl ?_ ?_)
   ·exact (Le.forget _ ⟨rfl,rfl,rfl,trivial⟩)
   ·rintro ⟨k,i5⟩ h
    cases k with
    | zero => cases h
    | succ k =>
     replace h : zBD (zBL n) a1 b2 (k+1) i5 = some fl:=h
     rw [zBD] at h
     refine zAb ?_
     refine zAb ?_
     refine zAa (by exact tokW) (by exact gok) [] [13] rfl ?_
     intro n6 hn6
     obtain rfl : (a1.length : Int) = n6:=(hn6.trans (congrArg (fun m : Nat => (m : Int)) (rlen Nd.encs_eq a1))).symm
     show Tri _ _ _ _
     refine zAf rfl (fun hb => ?_) (fun hb => ?_)
     ·replace h:=zAs hb h
      refine zAj ?_
      show Tri _ _ _ _
      refine zAb ?_
      refine zAn ?_
      refine zAb ?_
      refine zAD (by exact tokW) (by exact gok) (by exact mixed) [] [19,23] [] rfl (by decide +kernel) ?_
      obtain ⟨⟨e7_kind,e7_text,e7_cols,e7_kids⟩,he7,h⟩:=zAc h
      refine And.intro (zAA Nd.encs_eq he7).1 ?_
      intro r8 hr8
      obtain rfl : [.int .i64 e7_kind,.str e7_text,.int .i64 e7_cols,.sl 4 (Nd.encs e7_kids)] = r8:=(hr8.trans (zAA Nd.encs_eq he7).2.1).symm
      obtain ⟨⟨e9_kind,e9_text,e9_cols,e9_kids⟩,he9,h⟩:=zAc h
      refine And.intro (zAA Nd.encs_eq he9).1 ?_
      intro r10 hr10
      obtain rfl : [.int .i64 e9_kind,.str e9_text,.int .i64 e9_cols,.sl 4 (Nd.encs e9_kids)] = r10:=(hr10.trans (zAA Nd.encs_eq he9).2.1).symm
      obtain ⟨y11,hy11,h⟩:=zAc h
      refine ⟨_,⟨_,_,_,hy11,rfl,rfl⟩,?_⟩
      show Tri _ _ _ _
      refine zAf rfl (fun hb => ?_) (fun hb => ?_)
      ·replace h:=zAs hb h
       refine zAb ?_
       refine zAa (by exact tokW) (by exact gok) [] [] rfl ?_
       show Tri _ _ _ _
       refine zAv ?_
       cases h
       replace h : some _ = some _:=ho1
       have hy:=Option.some.inj h
       subst hy
       unfold zAQ
       exact ⟨_,Le.refl _ _,rfl,rfl⟩
      ·replace h:=zAr hb h
       refine zAj ?_
       show Tri _ _ _ _
       refine zAa (by exact tokW) (by exact gok) [] [] rfl ?_
       refine ⟨(k,IntKind.i64.wrap (i5 + 1)),h,(Le.forget _ ⟨rfl,rfl,rfl,trivial⟩),Nat.lt_succ_self k⟩
     ·replace h:=zAr hb h
      refine zAK ?_
      cases h
      exact ⟨_,rfl,(Le.forget _ trivial)⟩
  ·subst hz
   obtain _:=z
   replace h:=ho1
   show Tri _ _ _ _
   refine zAk hle ?_
   refine zAb ?_
   refine zAa (by exact tokW) (by exact gok) [] [] rfl ?_
   show Tri _ _ _ _
   refine zAv ?_
   have hy:=Option.some.inj h
   subst hy
   unfold zAQ
   exact ⟨_,Le.refl _ _,rfl,rfl⟩
theorem zHk : ∀ n,PSound Tryz.prog 10 (zAJ (zD5 n)) ∧ PSound Tryz.prog 22 (zAJ (zCt n)):=by
 intro n
 induction n with
 | zero =>
  refine ⟨?_,?_⟩
  ·exact zBF Tryz.call10 (fun xs r h => by obtain ⟨_,_,_,h,_⟩:=h; rw [zBL] at h; cases h)
  ·exact zBF Tryz.call22 (fun xs r h => by obtain ⟨_,_,_,h,_⟩:=h; rw [zBr] at h; cases h)
 | succ n ih =>
  obtain ⟨ih_r09_Equal,ih_r09_SameItems⟩:=ih
  exact ⟨zLw n ih_r09_Equal ih_r09_SameItems,zIy n ih_r09_Equal ih_r09_SameItems⟩
def zHz : zAB:=zAJ fun xs r => ∃ n,zD5 n xs r
theorem zJn : PSound Tryz.prog 10 zHz:=zCf (fun n => (zHk n).1)
def zGz : zAB:=zAJ fun xs r => ∃ n,zCt n xs r
theorem zJJ : PSound Tryz.prog 22 zGz:=zCf (fun n => (zHk n).2)
def zPb (n : Nat) (xs : List AV) (r : Ret) : Prop:=∃ (y0 : Bool),zF9 n = some y0 ∧ xs = [] ∧ r = .val (.s (.bool y0))
def zJ0 : zAB:=zAJ fun xs r => ∃ n,zPb n xs r
theorem zOq : PSound Tryz.prog 6 zJ0:=by
 have gok : ∀ f s,look? f [(19,zH1),(8,zH2),(10,zHz)] = some s → PSound Tryz.prog f s:=zAE (by
  simp only [List.forall_mem_cons]
  exact ⟨zLg,zLh,zJn,by simp⟩)
 refine zAT tokW Tryz.call6 Tryz.func6 rfl (fun xs r h => by obtain ⟨n,_,_,rfl,_⟩:=h; show 0 ≤ 24; decide) 24 rfl ?_
 rintro xs r w0 G0 ⟨n,y0,h,rfl,rfl⟩ _
 rw [zF9] at h
 refine zAb ?_
 refine zAa (by exact tokW) (by exact gok) [] [] rfl ?_
 show Tri _ _ _ _
 refine zAb ?_
 refine zAa (by exact tokW) (by exact gok) [1] [] rfl ?_
 obtain ⟨⟨y1_kind,y1_text,y1_cols,y1_kids⟩,hy1,h⟩:=zAc h
 refine ⟨_,⟨_,_,_,hy1,rfl,rfl⟩,?_⟩
 obtain ⟨⟨y2_kind,y2_text,y2_cols,y2_kids⟩,hy2,h⟩:=zAc h
 refine ⟨_,⟨_,_,_,hy2,rfl,rfl⟩,?_⟩
 obtain ⟨⟨y3_kind,y3_text,y3_cols,y3_kids⟩,hy3,h⟩:=zAc h
 refine ⟨_,⟨_,_,_,hy3,rfl,rfl⟩,?_⟩
 obtain ⟨⟨⟨y4_kind,y4_text,y4_cols,y4_kids⟩,y5,y6⟩,hy4,h⟩:=zAc h
 refine ⟨_,⟨_,_,_,_,_,_,_,hy4,rfl,rfl⟩,?_⟩
 show Tri _ _ _ _
 refine zAk (Le.giveBox 0 [.int .i64 y4_kind,.str y4_text,.int .i64 y4_cols,.sl 4 (Nd.encs y4_kids)] rfl rfl) ?_
 refine zAb ?_
 obtain ⟨x7,hj,h⟩:=zAc h
 refine zAp ⟨ofL [(0,.s (.bool x7))],fun _ => none,0⟩ ?_ (fun σ' hle => ?_)
 ·replace h:=hj
  refine zAD (by exact tokW) (by exact gok) (by exact mixed) [] [14,16,19] [] rfl (by decide +kernel) ?_
  intro b hb
  cases b with
  | true =>
   replace h:=zAs hb.symm h
   intro n8 hn8
   obtain rfl : (y5.length : Int) = n8:=(hn8.trans (congrArg (fun m : Nat => (m : Int)) (rlen (fun _ => rfl) y5))).symm
   intro b hb
   cases b with
   | true =>
    replace h:=zAs hb.symm h
    obtain ⟨⟨y9_kind,y9_text,y9_cols,y9_kids⟩,hy9,h⟩:=zAc h
    refine ⟨_,⟨_,_,_,hy9,rfl,rfl⟩,?_⟩
    obtain ⟨y10,hy10,h⟩:=zAc h
    refine ⟨_,⟨_,_,_,_,hy10,rfl,rfl⟩,?_⟩
    cases h
    exact (Le.rename [] _ [] 0 ⟨rfl,trivial⟩ trivial rfl rfl rfl rfl rfl)
   | false =>
    replace h:=zAr hb.symm h
    cases h
    exact (Le.rename [] _ [] 0 ⟨rfl,trivial⟩ trivial rfl rfl rfl rfl rfl)
  | false =>
   replace h:=zAr hb.symm h
   intro b hb
   subst hb
   cases h
   exact (Le.rename [] _ [] 0 ⟨rfl,trivial⟩ trivial rfl rfl rfl rfl rfl)
 ·show Tri _ _ _ _
  refine zAk hle ?_
  refine zAv ?_
  have hy:=Option.some.inj h
  subst hy
  unfold zAQ
  exact ⟨_,Le.refl _ _,rfl,rfl⟩
def zFE (n : Nat) (xs : List AV) (r : Ret) : Prop:=∃ (a0 : Nd) (a1 : Int) (y0 : Int),zDo n a0 a1 = some y0 ∧ xs = [.agg ((Nd.enc a0).map .s),.s (.int .i64 a1)] ∧ r = .val (.s (.int .i64 y0))
theorem zNm (n : Nat) (ih : PSound Tryz.prog 23 (zAJ (zFE n))) : PSound Tryz.prog 23 (zAJ (zFE (n + 1))):=by
 have gok : ∀ f s,look? f [(23,zAJ (zFE n))] = some s → PSound Tryz.prog f s:=zAE (by
  simp only [List.forall_mem_cons]
  exact ⟨ih,by simp⟩)
 refine zAT tokW Tryz.call23 Tryz.func23 rfl (fun xs r h => by obtain ⟨_,_,_,_,rfl,_⟩:=h; show 2 ≤ 27; decide) 27 rfl ?_
 rintro xs r w0 G0 ⟨⟨n1_kind,n1_text,n1_cols,n1_kids⟩,most2,y0,h,rfl,rfl⟩ _
 rw [zDo] at h
 refine zAb ?_
 refine zAa (by exact tokW) (by exact gok) [] [] rfl ?_
 show Tri _ _ _ _
 refine zAb ?_
 refine zAa (by exact tokW) (by exact gok) [] [] rfl ?_
 show Tri _ _ _ _
 refine zAb ?_
 refine zAb ?_
 refine zAa (by exact tokW) (by exact gok) [] [] rfl ?_
 show Tri _ _ _ _
 obtain ⟨most5,hl,h⟩:=zAc h
 refine zAp ⟨ofL [(1,.s (.int .i64 most5))],fun _ => none,0⟩ ?_ (fun σ' hle => ?_)
 ·refine zAn (zAG (X:=Nat × Int × Int) (fun y => match y with | (k,most3,i4) => ⟨ofL [(1,.s (.int .i64 most3)),(2,.s (.pt [.int .i64 n1_kind,.str n1_text,.int .i64 n1_cols,.sl 4 (Nd.encs n1_kids)])),(5,.s (.int .i64 i4))],fun _ => none,0⟩) (fun y => zCj (zDo n) n1_kids y.1 y.2.1 y.2.2 = some most5) (fun y => y.1) (n,IntKind.i64.wrap (most2 - 1),0) hl ?_ ?_)
  ·exact (Le.forget _ ⟨rfl,rfl,rfl,trivial⟩)
  ·rintro ⟨k,most3,i4⟩ h
   cases k with
   | zero => cases h
   | succ k =>
    replace h : zCj (zDo n) n1_kids (k+1) most3 i4 = some most5:=h
    rw [zCj] at h
    refine zAb ?_
    refine zAb ?_
    obtain ⟨x6,hj,h⟩:=zAc h
    refine zAp ⟨ofL [(1,.s (.int .i64 most3)),(2,.s (.pt [.int .i64 n1_kind,.str n1_text,.int .i64 n1_cols,.sl 4 (Nd.encs n1_kids)])),(5,.s (.int .i64 i4)),(16,.s (.bool x6))],fun _ => none,0⟩ ?_ (fun σ' hle => ?_)
    ·replace h:=hj
     refine zAa (by exact tokW) (by exact gok) [] [11,13] rfl ?_
     intro n7 hn7
     obtain rfl : (n1_kids.length : Int) = n7:=(hn7.trans (congrArg (fun m : Nat => (m : Int)) (rlen Nd.encs_eq n1_kids))).symm
     intro b hb
     cases b with
     | true =>
      replace h:=zAs hb.symm h
      cases h
      exact (Le.forget _ ⟨rfl,rfl,rfl,rfl,trivial⟩)
     | false =>
      replace h:=zAr hb.symm h
      cases h
      exact (Le.forget _ ⟨rfl,rfl,rfl,rfl,trivial⟩)
    ·show Tri _ _ _ _
     refine zAk hle ?_
     refine zAf rfl (fun hb => ?_) (fun hb => ?_)
     ·replace h:=zAs hb h
      refine zAj ?_
      show Tri _ _ _ _
      refine zAb ?_
      refine zAn ?_
      refine zAa (by exact tokW) (by exact gok) [] [22] rfl ?_
      obtain ⟨⟨e8_kind,e8_text,e8_cols,e8_kids⟩,he8,h⟩:=zAc h
      refine And.intro (zAA Nd.encs_eq he8).1 ?_
      intro r9 hr9
      obtain rfl : [.int .i64 e8_kind,.str e8_text,.int .i64 e8_cols,.sl 4 (Nd.encs e8_kids)] = r9:=(hr9.trans (zAA Nd.encs_eq he8).2.1).symm
      obtain ⟨y10,hy10,h⟩:=zAc h
      refine ⟨_,⟨_,_,_,hy10,rfl,rfl⟩,?_⟩
      show Tri _ _ _ _
      refine zAa (by exact tokW) (by exact gok) [] [] rfl ?_
      refine ⟨(k,y10,IntKind.i64.wrap (i4 + 1)),h,(Le.forget _ ⟨rfl,rfl,rfl,trivial⟩),Nat.lt_succ_self k⟩
     ·replace h:=zAr hb h
      refine zAK ?_
      cases h
      exact (Le.forget _ ⟨rfl,trivial⟩)
 ·show Tri _ _ _ _
  refine zAk hle ?_
  refine zAb ?_
  refine zAa (by exact tokW) (by exact gok) [] [] rfl ?_
  show Tri _ _ _ _
  refine zAv ?_
  have hy:=Option.some.inj h
  subst hy
  unfold zAQ
  exact ⟨_,Le.refl _ _,rfl,rfl⟩
theorem zNU : ∀ n,PSound Tryz.prog 23 (zAJ (zFE n)):=by
 intro n
 induction n with
 | zero => exact zBF Tryz.call23 (fun xs r h => by obtain ⟨_,_,_,h,_⟩:=h; cases h)
 | succ n ih => exact zNm n ih
def zLB : zAB:=zAJ fun xs r => ∃ n,zFE n xs r
theorem zPC : PSound Tryz.prog 23 zLB:=zCf zNU
def zRe (n : Nat) (xs : List AV) (r : Ret) : Prop:=∃ (a0 : Nd) (a1 : Int) (y0 : Bool),zFb n a0 a1 = some y0 ∧ xs = [.agg ((Nd.enc a0).map .s),.s (.int .i64 a1)] ∧ r = .val (.s (.bool y0))
def zNQ : zAB:=zAJ fun xs r => ∃ n,zRe n xs r
theorem zQY : PSound Tryz.prog 13 zNQ:=by
 have gok : ∀ f s,look? f [(23,zLB)] = some s → PSound Tryz.prog f s:=zAE (by
  simp only [List.forall_mem_cons]
  exact ⟨zPC,by simp⟩)
 refine zAT tokW Tryz.call13 Tryz.func13 rfl (fun xs r h => by obtain ⟨n,_,_,_,_,rfl,_⟩:=h; show 2 ≤ 9; decide) 9 rfl ?_
 rintro xs r w0 G0 ⟨n,⟨n1_kind,n1_text,n1_cols,n1_kids⟩,most2,y0,h,rfl,rfl⟩ _
 rw [zFb] at h
 refine zAb ?_
 refine zAa (by exact tokW) (by exact gok) [] [] rfl ?_
 show Tri _ _ _ _
 refine zAb ?_
 refine zAa (by exact tokW) (by exact gok) [] [] rfl ?_
 obtain ⟨y3,hy3,h⟩:=zAc h
 refine ⟨_,⟨_,_,_,_,hy3,rfl,rfl⟩,?_⟩
 show Tri _ _ _ _
 refine zAv ?_
 have hy:=Option.some.inj h
 subst hy
 unfold zAQ
 exact ⟨_,Le.refl _ _,rfl,rfl⟩
def zRd (n : Nat) (xs : List AV) (r : Ret) : Prop:=∃ (a0 : Nd) (a1 : Nd) (a2 : Nd) (y0 : Bool),zGI n a0 a1 a2 = some y0 ∧ xs = [.agg ((Nd.enc a0).map .s),.agg ((Nd.enc a1).map .s),.agg ((Nd.enc a2).map .s)] ∧ r = .val (.s (.bool y0))
def zNP : zAB:=zAJ fun xs r => ∃ n,zRd n xs r
theorem zQX : PSound Tryz.prog 7 zNP:=by
 have gok : ∀ f s,look? f [(13,zNQ)] = some s → PSound Tryz.prog f s:=zAE (by
  simp only [List.forall_mem_cons]
  exact ⟨zQY,by simp⟩)
 refine zAT tokW Tryz.call7 Tryz.func7 rfl (fun xs r h => by obtain ⟨n,_,_,_,_,_,rfl,_⟩:=h; show 3 ≤ 17; decide) 17 rfl ?_
 rintro xs r w0 G0 ⟨n,⟨a1_kind,a1_text,a1_cols,a1_kids⟩,⟨b2_kind,b2_text,b2_cols,b2_kids⟩,⟨c3_kind,c3_text,c3_cols,c3_kids⟩,y0,h,rfl,rfl⟩ _
 rw [zGI] at h
 refine zAb ?_
 refine zAa (by exact tokW) (by exact gok) [] [] rfl ?_
 show Tri _ _ _ _
 refine zAb ?_
 obtain ⟨x4,hj,h⟩:=zAc h
 refine zAp ⟨ofL [(6,.s (.bool x4))],fun _ => none,0⟩ ?_ (fun σ' hle => ?_)
 ·replace h:=hj
  refine zAa (by exact tokW) (by exact gok) [] [9,13] rfl ?_
  obtain ⟨y5,hy5,h⟩:=zAc h
  refine ⟨_,⟨_,_,_,_,hy5,rfl,rfl⟩,?_⟩
  intro b hb
  cases b with
  | true =>
   replace h:=zAs hb.symm h
   obtain ⟨y6,hy6,h⟩:=zAc h
   refine ⟨_,⟨_,_,_,_,hy6,rfl,rfl⟩,?_⟩
   intro b hb
   cases b with
   | true =>
    replace h:=zAs hb.symm h
    obtain ⟨y7,hy7,h⟩:=zAc h
    refine ⟨_,⟨_,_,_,_,hy7,rfl,rfl⟩,?_⟩
    cases h
    exact (Le.forget _ ⟨rfl,trivial⟩)
   | false =>
    replace h:=zAr hb.symm h
    cases h
    exact (Le.forget _ ⟨rfl,trivial⟩)
  | false =>
   replace h:=zAr hb.symm h
   intro b hb
   subst hb
   cases h
   exact (Le.forget _ ⟨rfl,trivial⟩)
 ·show Tri _ _ _ _
  refine zAk hle ?_
  refine zAv ?_
  have hy:=Option.some.inj h
  subst hy
  unfold zAQ
  exact ⟨_,Le.refl _ _,rfl,rfl⟩
def zNJ (xs : List AV) (r : Ret) : Prop:=∃ (a0 : Int) (y0 : Bool),zDL a0 = some y0 ∧ xs = [.s (.int .u8 a0)] ∧ r = .val (.s (.bool y0))
def zGx : zAB:=zAJ fun xs r => zNJ xs r
theorem zIo : PSound Tryz.prog 94 zGx:=by
 have gok : ∀ (f : Nat) (s : zAB),(fun _ => none : Nat → Option zAB) f = some s → PSound Tryz.prog f s:=fun _ _ h => by cases h
 refine zAT tokW Tryz.call94 Tryz.func94 rfl (fun xs r h => by obtain ⟨_,_,_,rfl,_⟩:=h; show 1 ≤ 17; decide) 17 rfl ?_
 rintro xs r w0 G0 ⟨c1,y0,h,rfl,rfl⟩ _
 rw [zDL] at h
 refine zAb ?_
 refine zAa (by exact tokW) (by exact gok) [] [] rfl ?_
 show Tri _ _ _ _
 refine zAb ?_
 obtain ⟨x2,hj,h⟩:=zAc h
 refine zAp ⟨ofL [(2,.s (.bool x2))],fun _ => none,0⟩ ?_ (fun σ' hle => ?_)
 ·replace h:=hj
  refine zAa (by exact tokW) (by exact gok) [] [5,9,12] rfl ?_
  intro b hb
  cases b with
  | true =>
   replace h:=zAs hb.symm h
   intro b hb
   cases b with
   | true =>
    replace h:=zAs hb.symm h
    cases h
    exact (Le.forget _ ⟨rfl,trivial⟩)
   | false =>
    replace h:=zAr hb.symm h
    intro b hb
    cases b with
    | true =>
     replace h:=zAs hb.symm h
     cases h
     exact (Le.forget _ ⟨rfl,trivial⟩)
    | false =>
     replace h:=zAr hb.symm h
     cases h
     exact (Le.forget _ ⟨rfl,trivial⟩)
  | false =>
   replace h:=zAr hb.symm h
   intro b hb
   subst hb
   intro b hb
   cases b with
   | true =>
    replace h:=zAs hb.symm h
    cases h
    exact (Le.forget _ ⟨rfl,trivial⟩)
   | false =>
    replace h:=zAr hb.symm h
    cases h
    exact (Le.forget _ ⟨rfl,trivial⟩)
 ·show Tri _ _ _ _
  refine zAk hle ?_
  refine zAv ?_
  have hy:=Option.some.inj h
  subst hy
  unfold zAQ
  exact ⟨_,Le.refl _ _,rfl,rfl⟩
def zRf (n : Nat) (xs : List AV) (r : Ret) : Prop:=∃ (a0 : List UInt8) (a1 : Int) (y0 : Bool),zC7 n a0 a1 = some y0 ∧ xs = [.s (.str a0),.s (.int .u8 a1)] ∧ r = .val (.s (.bool y0))
def zJ6 : zAB:=zAJ fun xs r => ∃ n,zRf n xs r
theorem zLZ : PSound Tryz.prog 77 zJ6:=by
 have gok : ∀ (f : Nat) (s : zAB),(fun _ => none : Nat → Option zAB) f = some s → PSound Tryz.prog f s:=fun _ _ h => by cases h
 refine zAT tokW Tryz.call77 Tryz.func77 rfl (fun xs r h => by obtain ⟨n,_,_,_,_,rfl,_⟩:=h; show 2 ≤ 17; decide) 17 rfl ?_
 rintro xs r w0 G0 ⟨n,s1,c2,y0,h,rfl,rfl⟩ _
 rw [zC7] at h
 refine zAb ?_
 refine zAa (by exact tokW) (by exact gok) [] [] rfl ?_
 show Tri _ _ _ _
 refine zAb ?_
 refine zAb ?_
 refine zAa (by exact tokW) (by exact gok) [] [] rfl ?_
 show Tri _ _ _ _
 obtain ⟨fl,hl,ho1⟩:=zAc h
 refine zDY (fl:=fl) (fun z => match z with | _ => ⟨ofL [],fun _ => none,0⟩) ?_ (fun z σ' hz hle => ?_)
 ·refine zAn (zAG (X:=Nat × Int) (fun y => match y with | (k,i3) => ⟨ofL [(0,.s (.str s1)),(1,.s (.int .u8 c2)),(5,.s (.int .i64 i3))],fun _ => none,0⟩) (fun y => zCB s1 c2 y.1 y.2 = some fl) (fun y => y.1) (n,0) hl ?_ ?_)
  ·exact (Le.forget _ ⟨rfl,rfl,rfl,trivial⟩)
  ·rintro ⟨k,i3⟩ h
   cases k with
   | zero => cases h
   | succ k =>
    replace h : zCB s1 c2 (k+1) i3 = some fl:=h
    rw [zCB] at h
    refine zAb ?_
    refine zAb ?_
    refine zAa (by exact tokW) (by exact gok) [] [] rfl ?_
    show Tri _ _ _ _
    refine zAf rfl (fun hb => ?_) (fun hb => ?_)
    ·replace h:=zAs hb h
     refine zAj ?_
     show Tri _ _ _ _
     refine zAb ?_
     refine zAn ?_
     refine zAb ?_
     refine zAa (by exact tokW) (by exact gok) [] [14] rfl ?_
     obtain ⟨c4,hc4,h⟩:=zAc h
     refine And.intro (zBc hc4).1 ?_
     intro v5 hv5
     obtain rfl : (c4.toNat : Int) = v5:=(hv5.trans (zBc hc4).2).symm
     show Tri _ _ _ _
     refine zAf rfl (fun hb => ?_) (fun hb => ?_)
     ·replace h:=zAs hb h
      refine zAb ?_
      refine zAa (by exact tokW) (by exact gok) [] [] rfl ?_
      show Tri _ _ _ _
      refine zAv ?_
      cases h
      replace h : some _ = some _:=ho1
      have hy:=Option.some.inj h
      subst hy
      unfold zAQ
      exact ⟨_,Le.refl _ _,rfl,rfl⟩
     ·replace h:=zAr hb h
      refine zAj ?_
      show Tri _ _ _ _
      refine zAa (by exact tokW) (by exact gok) [] [] rfl ?_
      refine ⟨(k,IntKind.i64.wrap (i3 + 1)),h,(Le.forget _ ⟨rfl,rfl,rfl,trivial⟩),Nat.lt_succ_self k⟩
    ·replace h:=zAr hb h
     refine zAK ?_
     cases h
     exact ⟨_,rfl,(Le.forget _ trivial)⟩
 ·subst hz
  obtain _:=z
  replace h:=ho1
  show Tri _ _ _ _
  refine zAk hle ?_
  refine zAb ?_
  refine zAa (by exact tokW) (by exact gok) [] [] rfl ?_
  show Tri _ _ _ _
  refine zAv ?_
  have hy:=Option.some.inj h
  subst hy
  unfold zAQ
  exact ⟨_,Le.refl _ _,rfl,rfl⟩
def zJV (n : Nat) (xs : List AV) (r : Ret) : Prop:=∃ (a0 : Int) (y0 : Bool),zDT n a0 = some y0 ∧ xs = [.s (.int .u8 a0)] ∧ r = .val (.s (.bool y0))
def zGw : zAB:=zAJ fun xs r => ∃ n,zJV n xs r
theorem zJH : PSound Tryz.prog 93 zGw:=by
 have gok : ∀ f s,look? f [(94,zGx),(77,zJ6)] = some s → PSound Tryz.prog f s:=zAE (by
  simp only [List.forall_mem_cons]
  exact ⟨zIo,zLZ,by simp⟩)
 refine zAT tokW Tryz.call93 Tryz.func93 rfl (fun xs r h => by obtain ⟨n,_,_,_,rfl,_⟩:=h; show 1 ≤ 9; decide) 9 rfl ?_
 rintro xs r w0 G0 ⟨n,c1,y0,h,rfl,rfl⟩ _
 rw [zDT] at h
 refine zAb ?_
 refine zAa (by exact tokW) (by exact gok) [] [] rfl ?_
 show Tri _ _ _ _
 refine zAb ?_
 obtain ⟨x2,hj,h⟩:=zAc h
 refine zAp ⟨ofL [(2,.s (.bool x2))],fun _ => none,0⟩ ?_ (fun σ' hle => ?_)
 ·replace h:=hj
  refine zAa (by exact tokW) (by exact gok) [] [5] rfl ?_
  obtain ⟨y3,hy3,h⟩:=zAc h
  refine ⟨_,⟨_,_,hy3,rfl,rfl⟩,?_⟩
  intro b hb
  cases b with
  | true =>
   replace h:=zAs hb.symm h
   cases h
   exact (Le.forget _ ⟨rfl,trivial⟩)
  | false =>
   replace h:=zAr hb.symm h
   obtain ⟨y4,hy4,h⟩:=zAc h
   refine ⟨_,⟨_,_,_,_,hy4,rfl,rfl⟩,?_⟩
   cases h
   exact (Le.forget _ ⟨rfl,trivial⟩)
 ·show Tri _ _ _ _
  refine zAk hle ?_
  refine zAv ?_
  have hy:=Option.some.inj h
  subst hy
  unfold zAQ
  exact ⟨_,Le.refl _ _,rfl,rfl⟩
def zAO (p : List UInt8) : List S:=[.str p]
def zK8 (xs : List AV) (r : Ret) : Prop:=∃ (y0 : List (List UInt8)),zEl = some y0 ∧ xs = [] ∧ r = .val (.s (.sl 1 ((List.map zAO) y0)))
def zHj : zAB:=zAJ fun xs r => zK8 xs r
theorem zKF : PSound Tryz.prog 95 zHj:=by
 have gok : ∀ (f : Nat) (s : zAB),(fun _ => none : Nat → Option zAB) f = some s → PSound Tryz.prog f s:=fun _ _ h => by cases h
 refine zAT tokW Tryz.call95 Tryz.func95 rfl (fun xs r h => by obtain ⟨_,_,rfl,_⟩:=h; show 0 ≤ 2; decide) 2 rfl ?_
 rintro xs r w0 G0 ⟨y0,h,rfl,rfl⟩ _
 rw [zEl] at h
 refine zAb ?_
 refine zAa (by exact tokW) (by exact gok) [] [] rfl ?_
 show Tri _ _ _ _
 refine zAb ?_
 refine zAa (by exact tokW) (by exact gok) [] [1] rfl ?_
 intro r1 hr1
 obtain rfl : (List.map zAO) [[102,114,97,99],[114,111,111,116],[109,97,116,114,105,120],[102,101,110,99,101]] = r1:=(hr1.trans (by simp [List.map_append,List.map_take,List.map_drop,irow,brow,zAC,List.map_cons,List.map_nil,zAz,Nd.encs_eq,Nd.enc,zAg,zAe,zAh,zAo,zAw,zAl,zAt,zAd,zAu,zAm,zAO])).symm
 show Tri _ _ _ _
 refine zAv ?_
 have hy:=Option.some.inj h
 subst hy
 unfold zAQ
 exact ⟨_,Le.refl _ _,rfl,rfl⟩
def zSz (n : Nat) (xs : List AV) (r : Ret) : Prop:=∃ (a0 : List (List UInt8)) (a1 : List UInt8) (y0 : Bool),zEk n a0 a1 = some y0 ∧ xs = [.s (.sl 1 ((List.map zAO) a0)),.s (.str a1)] ∧ r = .val (.s (.bool y0))
def zMw : zAB:=zAJ fun xs r => ∃ n,zSz n xs r
theorem zOv : PSound Tryz.prog 75 zMw:=by
 have gok : ∀ (f : Nat) (s : zAB),(fun _ => none : Nat → Option zAB) f = some s → PSound Tryz.prog f s:=fun _ _ h => by cases h
 refine zAT tokW Tryz.call75 Tryz.func75 rfl (fun xs r h => by obtain ⟨n,_,_,_,_,rfl,_⟩:=h; show 2 ≤ 18; decide) 18 rfl ?_
 rintro xs r w0 G0 ⟨n,l1,s2,y0,h,rfl,rfl⟩ _
 rw [zEk] at h
 refine zAb ?_
 refine zAa (by exact tokW) (by exact gok) [] [] rfl ?_
 show Tri _ _ _ _
 refine zAb ?_
 refine zAb ?_
 refine zAa (by exact tokW) (by exact gok) [] [] rfl ?_
 show Tri _ _ _ _
 obtain ⟨fl,hl,ho1⟩:=zAc h
 refine zDY (fl:=fl) (fun z => match z with | _ => ⟨ofL [],fun _ => none,0⟩) ?_ (fun z σ' hz hle => ?_)
 ·refine zAn (zAG (X:=Nat × Int) (fun y => match y with | (k,i3) => ⟨ofL [(0,.s (.sl 1 ((List.map zAO) l1))),(1,.s (.str s2)),(5,.s (.int .i64 i3))],fun _ => none,0⟩) (fun y => zC4 l1 s2 y.1 y.2 = some fl) (fun y => y.1) (n,0) hl ?_ ?_)
  ·exact (Le.forget _ ⟨rfl,rfl,rfl,trivial⟩)
  ·rintro ⟨k,i3⟩ h
   cases k with
   | zero => cases h
   | succ k =>
    replace h : zC4 l1 s2 (k+1) i3 = some fl:=h
    rw [zC4] at h
    refine zAb ?_
    refine zAb ?_
    refine zAa (by exact tokW) (by exact gok) [] [8] rfl ?_
    intro n4 hn4
    obtain rfl : (l1.length : Int) = n4:=(hn4.trans (congrArg (fun m : Nat => (m : Int)) (rlen (fun _ => rfl) l1))).symm
    show Tri _ _ _ _
    refine zAf rfl (fun hb => ?_) (fun hb => ?_)
    ·replace h:=zAs hb h
     refine zAj ?_
     show Tri _ _ _ _
     refine zAb ?_
     refine zAn ?_
     refine zAb ?_
     refine zAa (by exact tokW) (by exact gok) [] [14] rfl ?_
     obtain ⟨e5,he5,h⟩:=zAc h
     refine And.intro (zAA (fun _ => rfl) he5).1 ?_
     intro r6 hr6
     obtain rfl : [.str e5] = r6:=(hr6.trans (zAA (fun _ => rfl) he5).2.1).symm
     show Tri _ _ _ _
     refine zAf rfl (fun hb => ?_) (fun hb => ?_)
     ·replace h:=zAs hb h
      refine zAb ?_
      refine zAa (by exact tokW) (by exact gok) [] [] rfl ?_
      show Tri _ _ _ _
      refine zAv ?_
      cases h
      replace h : some _ = some _:=ho1
      have hy:=Option.some.inj h
      subst hy
      unfold zAQ
      exact ⟨_,Le.refl _ _,rfl,rfl⟩
     ·replace h:=zAr hb h
      refine zAj ?_
      show Tri _ _ _ _
      refine zAa (by exact tokW) (by exact gok) [] [] rfl ?_
      refine ⟨(k,IntKind.i64.wrap (i3 + 1)),h,(Le.forget _ ⟨rfl,rfl,rfl,trivial⟩),Nat.lt_succ_self k⟩
    ·replace h:=zAr hb h
     refine zAK ?_
     cases h
     exact ⟨_,rfl,(Le.forget _ trivial)⟩
 ·subst hz
  obtain _:=z
  replace h:=ho1
  show Tri _ _ _ _
  refine zAk hle ?_
  refine zAb ?_
  refine zAa (by exact tokW) (by exact gok) [] [] rfl ?_
  show Tri _ _ _ _
  refine zAv ?_
  have hy:=Option.some.inj h
  subst hy
  unfold zAQ
  exact ⟨_,Le.refl _ _,rfl,rfl⟩
def zMt (xs : List AV) (r : Ret) : Prop:=∃ (y0 : List (List UInt8)),zDm = some y0 ∧ xs = [] ∧ r = .val (.s (.sl 1 ((List.map zAO) y0)))
def zF5 : zAB:=zAJ fun xs r => zMt xs r
theorem zHq : PSound Tryz.prog 76 zF5:=by
 have gok : ∀ (f : Nat) (s : zAB),(fun _ => none : Nat → Option zAB) f = some s → PSound Tryz.prog f s:=fun _ _ h => by cases h
 refine zAT tokW Tryz.call76 Tryz.func76 rfl (fun xs r h => by obtain ⟨_,_,rfl,_⟩:=h; show 0 ≤ 2; decide) 2 rfl ?_
 rintro xs r w0 G0 ⟨y0,h,rfl,rfl⟩ _
 rw [zDm] at h
 refine zAb ?_
 refine zAa (by exact tokW) (by exact gok) [] [] rfl ?_
 show Tri _ _ _ _
 refine zAb ?_
 refine zAa (by exact tokW) (by exact gok) [] [1] rfl ?_
 intro r1 hr1
 obtain rfl : (List.map zAO) [[104,97,116],[98,97,114],[118,101,99],[100,111,116],[116,105,108,100,101],[99,104,101,99,107]] = r1:=(hr1.trans (by simp [List.map_append,List.map_take,List.map_drop,irow,brow,zAC,List.map_cons,List.map_nil,zAz,Nd.encs_eq,Nd.enc,zAg,zAe,zAh,zAo,zAw,zAl,zAt,zAd,zAu,zAm,zAO])).symm
 show Tri _ _ _ _
 refine zAv ?_
 have hy:=Option.some.inj h
 subst hy
 unfold zAQ
 exact ⟨_,Le.refl _ _,rfl,rfl⟩
def zNM (n : Nat) (xs : List AV) (r : Ret) : Prop:=∃ (a0 : List UInt8) (y0 : Bool),zEy n a0 = some y0 ∧ xs = [.s (.str a0)] ∧ r = .val (.s (.bool y0))
def zJd : zAB:=zAJ fun xs r => ∃ n,zNM n xs r
theorem zM5 : PSound Tryz.prog 72 zJd:=by
 have gok : ∀ f s,look? f [(93,zGw),(94,zGx),(95,zHj),(75,zMw),(76,zF5)] = some s → PSound Tryz.prog f s:=zAE (by
  simp only [List.forall_mem_cons]
  exact ⟨zJH,zIo,zKF,zOv,zHq,by simp⟩)
 refine zAT tokW Tryz.call72 Tryz.func72 rfl (fun xs r h => by obtain ⟨n,_,_,_,rfl,_⟩:=h; show 1 ≤ 41; decide) 41 rfl ?_
 rintro xs r w0 G0 ⟨n,s1,y0,h,rfl,rfl⟩ _
 rw [zEy] at h
 refine zAb ?_
 refine zAa (by exact tokW) (by exact gok) [] [] rfl ?_
 show Tri _ _ _ _
 refine zAb ?_
 refine zAb ?_
 refine zAa (by exact tokW) (by exact gok) [] [] rfl ?_
 show Tri _ _ _ _
 refine zAf rfl (fun hb => ?_) (fun hb => ?_)
 ·replace h:=zAs hb h
  refine zAb ?_
  refine zAa (by exact tokW) (by exact gok) [] [8] rfl ?_
  obtain ⟨c2,hc2,h⟩:=zAc h
  refine And.intro (zBc hc2).1 ?_
  intro v3 hv3
  obtain rfl : (c2.toNat : Int) = v3:=(hv3.trans (zBc hc2).2).symm
  obtain ⟨y4,hy4,h⟩:=zAc h
  refine ⟨_,⟨_,_,_,hy4,rfl,rfl⟩,?_⟩
  show Tri _ _ _ _
  refine zAv ?_
  have hy:=Option.some.inj h
  subst hy
  unfold zAQ
  exact ⟨_,Le.refl _ _,rfl,rfl⟩
 ·replace h:=zAr hb h
  refine zAj ?_
  show Tri _ _ _ _
  refine zAb ?_
  refine zAb ?_
  refine zAa (by exact tokW) (by exact gok) [] [] rfl ?_
  show Tri _ _ _ _
  obtain ⟨fl,hl,ho1⟩:=zAc h
  refine zDY (fl:=fl) (fun z => match z with | _ => ⟨ofL [(0,.s (.str s1))],fun _ => none,0⟩) ?_ (fun z σ' hz hle => ?_)
  ·refine zAn (zAG (X:=Nat × Int) (fun y => match y with | (k,i5) => ⟨ofL [(0,.s (.str s1)),(3,.s (.int .i64 i5))],fun _ => none,0⟩) (fun y => zBE s1 y.1 y.2 = some fl) (fun y => y.1) (n,0) hl ?_ ?_)
   ·exact (Le.forget _ ⟨rfl,rfl,trivial⟩)
   ·rintro ⟨k,i5⟩ h
    cases k with
    | zero => cases h
    | succ k =>
     replace h : zBE s1 (k+1) i5 = some fl:=h
     rw [zBE] at h
     refine zAb ?_
     refine zAb ?_
     refine zAa (by exact tokW) (by exact gok) [] [] rfl ?_
     show Tri _ _ _ _
     refine zAf rfl (fun hb => ?_) (fun hb => ?_)
     ·replace h:=zAs hb h
      refine zAj ?_
      show Tri _ _ _ _
      refine zAb ?_
      refine zAn ?_
      refine zAb ?_
      refine zAa (by exact tokW) (by exact gok) [] [18] rfl ?_
      obtain ⟨c6,hc6,h⟩:=zAc h
      refine And.intro (zBc hc6).1 ?_
      intro v7 hv7
      obtain rfl : (c6.toNat : Int) = v7:=(hv7.trans (zBc hc6).2).symm
      obtain ⟨y8,hy8,h⟩:=zAc h
      refine ⟨_,⟨_,_,hy8,rfl,rfl⟩,?_⟩
      show Tri _ _ _ _
      refine zAf rfl (fun hb => ?_) (fun hb => ?_)
      ·replace h:=zAs hb h
       refine zAb ?_
       refine zAa (by exact tokW) (by exact gok) [] [] rfl ?_
       show Tri _ _ _ _
       refine zAv ?_
       cases h
       replace h : some _ = some _:=ho1
       have hy:=Option.some.inj h
       subst hy
       unfold zAQ
       exact ⟨_,Le.refl _ _,rfl,rfl⟩
      ·replace h:=zAr hb h
       refine zAj ?_
       show Tri _ _ _ _
       refine zAa (by exact tokW) (by exact gok) [] [] rfl ?_
       refine ⟨(k,IntKind.i64.wrap (i5 + 1)),h,(Le.forget _ ⟨rfl,rfl,trivial⟩),Nat.lt_succ_self k⟩
     ·replace h:=zAr hb h
      refine zAK ?_
      cases h
      exact ⟨_,rfl,(Le.forget _ ⟨rfl,trivial⟩)⟩
  ·subst hz
   obtain _:=z
   replace h:=ho1
   show Tri _ _ _ _
   refine zAk hle ?_
   refine zAb ?_
   obtain ⟨x9,hj,h⟩:=zAc h
   refine zAp ⟨ofL [(2,.s (.bool x9))],fun _ => none,0⟩ ?_ (fun σ' hle => ?_)
   ·replace h:=hj
    refine zAa (by exact tokW) (by exact gok) [] [24,29,35] rfl ?_
    intro b hb
    cases b with
    | true =>
     replace h:=zAs hb.symm h
     intro b hb
     cases b with
     | true =>
      replace h:=zAs hb.symm h
      obtain ⟨y10,hy10,h⟩:=zAc h
      refine ⟨_,⟨_,hy10,rfl,rfl⟩,?_⟩
      obtain ⟨y11,hy11,h⟩:=zAc h
      refine ⟨_,⟨_,_,_,_,hy11,rfl,rfl⟩,?_⟩
      intro b hb
      cases b with
      | true =>
       replace h:=zAs hb.symm h
       obtain ⟨y12,hy12,h⟩:=zAc h
       refine ⟨_,⟨_,hy12,rfl,rfl⟩,?_⟩
       obtain ⟨y13,hy13,h⟩:=zAc h
       refine ⟨_,⟨_,_,_,_,hy13,rfl,rfl⟩,?_⟩
       cases h
       exact (Le.forget _ ⟨rfl,trivial⟩)
      | false =>
       replace h:=zAr hb.symm h
       cases h
       exact (Le.forget _ ⟨rfl,trivial⟩)
     | false =>
      replace h:=zAr hb.symm h
      intro b hb
      subst hb
      cases h
      exact (Le.forget _ ⟨rfl,trivial⟩)
    | false =>
     replace h:=zAr hb.symm h
     intro b hb
     subst hb
     intro b hb
     subst hb
     cases h
     exact (Le.forget _ ⟨rfl,trivial⟩)
   ·show Tri _ _ _ _
    refine zAk hle ?_
    refine zAv ?_
    have hy:=Option.some.inj h
    subst hy
    unfold zAQ
    exact ⟨_,Le.refl _ _,rfl,rfl⟩
def zPe (xs : List AV) (r : Ret) : Prop:=∃ (a0 : Int) (y0 : Bool),zFa a0 = some y0 ∧ xs = [.s (.int .u8 a0)] ∧ r = .val (.s (.bool y0))
def zJ4 : zAB:=zAJ fun xs r => zPe xs r
theorem zOu : PSound Tryz.prog 96 zJ4:=by
 have gok : ∀ (f : Nat) (s : zAB),(fun _ => none : Nat → Option zAB) f = some s → PSound Tryz.prog f s:=fun _ _ h => by cases h
 refine zAT tokW Tryz.call96 Tryz.func96 rfl (fun xs r h => by obtain ⟨_,_,_,rfl,_⟩:=h; show 1 ≤ 9; decide) 9 rfl ?_
 rintro xs r w0 G0 ⟨c1,y0,h,rfl,rfl⟩ _
 rw [zFa] at h
 refine zAb ?_
 refine zAa (by exact tokW) (by exact gok) [] [] rfl ?_
 show Tri _ _ _ _
 refine zAb ?_
 obtain ⟨x2,hj,h⟩:=zAc h
 refine zAp ⟨ofL [(2,.s (.bool x2))],fun _ => none,0⟩ ?_ (fun σ' hle => ?_)
 ·replace h:=hj
  refine zAa (by exact tokW) (by exact gok) [] [5] rfl ?_
  intro b hb
  cases b with
  | true =>
   replace h:=zAs hb.symm h
   cases h
   exact (Le.forget _ ⟨rfl,trivial⟩)
  | false =>
   replace h:=zAr hb.symm h
   cases h
   exact (Le.forget _ ⟨rfl,trivial⟩)
 ·show Tri _ _ _ _
  refine zAk hle ?_
  refine zAv ?_
  have hy:=Option.some.inj h
  subst hy
  unfold zAQ
  exact ⟨_,Le.refl _ _,rfl,rfl⟩
end Go.Proofs.YtgfneloodabafaaGreatDoor
namespace Go.Proofs.YtgfneloodabafaaGreatDoor
open Go.Abs
def zNK (n : Nat) (xs : List AV) (r : Ret) : Prop:=∃ (a0 : List UInt8) (y0 : Bool),zEw n a0 = some y0 ∧ xs = [.s (.str a0)] ∧ r = .val (.s (.bool y0))
def zJb : zAB:=zAJ fun xs r => ∃ n,zNK n xs r
theorem zM3 : PSound Tryz.prog 73 zJb:=by
 have gok : ∀ f s,look? f [(96,zJ4)] = some s → PSound Tryz.prog f s:=zAE (by
  simp only [List.forall_mem_cons]
  exact ⟨zOu,by simp⟩)
 refine zAT tokW Tryz.call73 Tryz.func73 rfl (fun xs r h => by obtain ⟨n,_,_,_,rfl,_⟩:=h; show 1 ≤ 45; decide) 45 rfl ?_
 rintro xs r w0 G0 ⟨n,s1,y0,h,rfl,rfl⟩ _
 rw [zEw] at h
 refine zAb ?_
 refine zAa (by exact tokW) (by exact gok) [] [] rfl ?_
 show Tri _ _ _ _
 refine zAb ?_
 refine zAa (by exact tokW) (by exact gok) [] [] rfl ?_
 show Tri _ _ _ _
 refine zAb ?_
 refine zAb ?_
 refine zAa (by exact tokW) (by exact gok) [] [] rfl ?_
 show Tri _ _ _ _
 obtain ⟨fl,hl,ho1⟩:=zAc h
 refine zDY (fl:=fl) (fun z => match z with | points4 => ⟨ofL [(0,.s (.str s1)),(3,.s (.int .i64 points4))],fun _ => none,0⟩) ?_ (fun points4 σ' hz hle => ?_)
 ·refine zAn (zAG (X:=Nat × Int × Int) (fun y => match y with | (k,points2,i3) => ⟨ofL [(0,.s (.str s1)),(3,.s (.int .i64 points2)),(4,.s (.int .i64 i3))],fun _ => none,0⟩) (fun y => zCb s1 y.1 y.2.1 y.2.2 = some fl) (fun y => y.1) (n,0,0) hl ?_ ?_)
  ·exact (Le.forget _ ⟨rfl,rfl,rfl,trivial⟩)
  ·rintro ⟨k,points2,i3⟩ h
   cases k with
   | zero => cases h
   | succ k =>
    replace h : zCb s1 (k+1) points2 i3 = some fl:=h
    rw [zCb] at h
    refine zAb ?_
    refine zAb ?_
    refine zAa (by exact tokW) (by exact gok) [] [] rfl ?_
    show Tri _ _ _ _
    refine zAf rfl (fun hb => ?_) (fun hb => ?_)
    ·replace h:=zAs hb h
     refine zAj ?_
     show Tri _ _ _ _
     refine zAb ?_
     obtain ⟨fl,hj,ho2⟩:=zAc h
     refine zDY (fl:=fl) (fun z => match z with | points5 => ⟨ofL [(0,.s (.str s1)),(3,.s (.int .i64 points5)),(4,.s (.int .i64 i3))],fun _ => none,0⟩) ?_ (fun points5 σ' hz hle => ?_)
     ·replace h:=hj
      refine zAn ?_
      refine zAb ?_
      obtain ⟨x6,hj,h⟩:=zAc h
      refine zAp ⟨ofL [(0,.s (.str s1)),(3,.s (.int .i64 points2)),(4,.s (.int .i64 i3)),(25,.s (.bool x6))],fun _ => none,0⟩ ?_ (fun σ' hle => ?_)
      ·replace h:=hj
       refine zAa (by exact tokW) (by exact gok) [] [13,15,19] rfl ?_
       obtain ⟨c7,hc7,h⟩:=zAc h
       refine And.intro (zBc hc7).1 ?_
       intro v8 hv8
       obtain rfl : (c7.toNat : Int) = v8:=(hv8.trans (zBc hc7).2).symm
       intro b hb
       cases b with
       | true =>
        replace h:=zAs hb.symm h
        intro b hb
        cases b with
        | true =>
         replace h:=zAs hb.symm h
         cases h
         exact (Le.forget _ ⟨rfl,rfl,rfl,rfl,trivial⟩)
        | false =>
         replace h:=zAr hb.symm h
         cases h
         exact (Le.forget _ ⟨rfl,rfl,rfl,rfl,trivial⟩)
       | false =>
        replace h:=zAr hb.symm h
        intro b hb
        subst hb
        cases h
        exact (Le.forget _ ⟨rfl,rfl,rfl,rfl,trivial⟩)
      ·show Tri _ _ _ _
       refine zAk hle ?_
       refine zAf rfl (fun hb => ?_) (fun hb => ?_)
       ·replace h:=zAs hb h
        refine zAa (by exact tokW) (by exact gok) [] [] rfl ?_
        cases h
        exact ⟨_,rfl,(Le.forget _ ⟨rfl,rfl,rfl,trivial⟩)⟩
       ·replace h:=zAr hb h
        refine zAb ?_
        refine zAa (by exact tokW) (by exact gok) [] [30] rfl ?_
        obtain ⟨c9,hc9,h⟩:=zAc h
        refine And.intro (zBc hc9).1 ?_
        intro v10 hv10
        obtain rfl : (c9.toNat : Int) = v10:=(hv10.trans (zBc hc9).2).symm
        obtain ⟨y11,hy11,h⟩:=zAc h
        refine ⟨_,⟨_,_,hy11,rfl,rfl⟩,?_⟩
        show Tri _ _ _ _
        refine zAf rfl (fun hb => ?_) (fun hb => ?_)
        ·replace h:=zAs hb h
         refine zAb ?_
         refine zAa (by exact tokW) (by exact gok) [] [] rfl ?_
         show Tri _ _ _ _
         refine zAv ?_
         cases h
         replace h : some _ = some _:=ho2
         cases h
         replace h : some _ = some _:=ho1
         have hy:=Option.some.inj h
         subst hy
         unfold zAQ
         exact ⟨_,Le.refl _ _,rfl,rfl⟩
        ·replace h:=zAr hb h
         refine zAj ?_
         cases h
         exact ⟨_,rfl,(Le.forget _ ⟨rfl,rfl,rfl,trivial⟩)⟩
     ·subst hz
      replace h:=ho2
      show Tri _ _ _ _
      refine zAk hle ?_
      refine zAa (by exact tokW) (by exact gok) [] [] rfl ?_
      refine ⟨(k,points5,IntKind.i64.wrap (i3 + 1)),h,(Le.forget _ ⟨rfl,rfl,rfl,trivial⟩),Nat.lt_succ_self k⟩
    ·replace h:=zAr hb h
     refine zAK ?_
     cases h
     exact ⟨_,rfl,(Le.forget _ ⟨rfl,rfl,trivial⟩)⟩
 ·subst hz
  replace h:=ho1
  show Tri _ _ _ _
  refine zAk hle ?_
  refine zAb ?_
  obtain ⟨x12,hj,h⟩:=zAc h
  refine zAp ⟨ofL [(2,.s (.bool x12))],fun _ => none,0⟩ ?_ (fun σ' hle => ?_)
  ·replace h:=hj
   refine zAa (by exact tokW) (by exact gok) [] [36,41] rfl ?_
   intro b hb
   cases b with
   | true =>
    replace h:=zAs hb.symm h
    intro b hb
    cases b with
    | true =>
     replace h:=zAs hb.symm h
     cases h
     exact (Le.forget _ ⟨rfl,trivial⟩)
    | false =>
     replace h:=zAr hb.symm h
     cases h
     exact (Le.forget _ ⟨rfl,trivial⟩)
   | false =>
    replace h:=zAr hb.symm h
    intro b hb
    subst hb
    cases h
    exact (Le.forget _ ⟨rfl,trivial⟩)
  ·show Tri _ _ _ _
   refine zAk hle ?_
   refine zAv ?_
   have hy:=Option.some.inj h
   subst hy
   unfold zAQ
   exact ⟨_,Le.refl _ _,rfl,rfl⟩
def zJW (n : Nat) (xs : List AV) (r : Ret) : Prop:=∃ (a0 : List UInt8) (y0 : Bool),zC5 n a0 = some y0 ∧ xs = [.s (.str a0)] ∧ r = .val (.s (.bool y0))
def zGy : zAB:=zAJ fun xs r => ∃ n,zJW n xs r
theorem zJI : PSound Tryz.prog 74 zGy:=by
 have gok : ∀ (f : Nat) (s : zAB),(fun _ => none : Nat → Option zAB) f = some s → PSound Tryz.prog f s:=fun _ _ h => by cases h
 refine zAT tokW Tryz.call74 Tryz.func74 rfl (fun xs r h => by obtain ⟨n,_,_,_,rfl,_⟩:=h; show 1 ≤ 20; decide) 20 rfl ?_
 rintro xs r w0 G0 ⟨n,s1,y0,h,rfl,rfl⟩ _
 rw [zC5] at h
 refine zAb ?_
 refine zAa (by exact tokW) (by exact gok) [] [] rfl ?_
 show Tri _ _ _ _
 refine zAb ?_
 refine zAb ?_
 refine zAa (by exact tokW) (by exact gok) [] [] rfl ?_
 show Tri _ _ _ _
 obtain ⟨fl,hl,ho1⟩:=zAc h
 refine zDY (fl:=fl) (fun z => match z with | _ => ⟨ofL [],fun _ => none,0⟩) ?_ (fun z σ' hz hle => ?_)
 ·refine zAn (zAG (X:=Nat × Int) (fun y => match y with | (k,i2) => ⟨ofL [(0,.s (.str s1)),(3,.s (.int .i64 i2))],fun _ => none,0⟩) (fun y => zBq s1 y.1 y.2 = some fl) (fun y => y.1) (n,0) hl ?_ ?_)
  ·exact (Le.forget _ ⟨rfl,rfl,trivial⟩)
  ·rintro ⟨k,i2⟩ h
   cases k with
   | zero => cases h
   | succ k =>
    replace h : zBq s1 (k+1) i2 = some fl:=h
    rw [zBq] at h
    refine zAb ?_
    refine zAb ?_
    refine zAa (by exact tokW) (by exact gok) [] [] rfl ?_
    show Tri _ _ _ _
    refine zAf rfl (fun hb => ?_) (fun hb => ?_)
    ·replace h:=zAs hb h
     refine zAj ?_
     show Tri _ _ _ _
     refine zAb ?_
     refine zAn ?_
     refine zAb ?_
     obtain ⟨x3,hj,h⟩:=zAc h
     refine zAp ⟨ofL [(0,.s (.str s1)),(3,.s (.int .i64 i2)),(19,.s (.bool x3))],fun _ => none,0⟩ ?_ (fun σ' hle => ?_)
     ·replace h:=hj
      refine zAa (by exact tokW) (by exact gok) [] [12,14,17] rfl ?_
      obtain ⟨c4,hc4,h⟩:=zAc h
      refine And.intro (zBc hc4).1 ?_
      intro v5 hv5
      obtain rfl : (c4.toNat : Int) = v5:=(hv5.trans (zBc hc4).2).symm
      intro b hb
      cases b with
      | true =>
       replace h:=zAs hb.symm h
       cases h
       exact (Le.forget _ ⟨rfl,rfl,rfl,trivial⟩)
      | false =>
       replace h:=zAr hb.symm h
       obtain ⟨c6,hc6,h⟩:=zAc h
       refine And.intro (zBc hc6).1 ?_
       intro v7 hv7
       obtain rfl : (c6.toNat : Int) = v7:=(hv7.trans (zBc hc6).2).symm
       cases h
       exact (Le.forget _ ⟨rfl,rfl,rfl,trivial⟩)
     ·show Tri _ _ _ _
      refine zAk hle ?_
      refine zAf rfl (fun hb => ?_) (fun hb => ?_)
      ·replace h:=zAs hb h
       refine zAb ?_
       refine zAa (by exact tokW) (by exact gok) [] [] rfl ?_
       show Tri _ _ _ _
       refine zAv ?_
       cases h
       replace h : some _ = some _:=ho1
       have hy:=Option.some.inj h
       subst hy
       unfold zAQ
       exact ⟨_,Le.refl _ _,rfl,rfl⟩
      ·replace h:=zAr hb h
       refine zAj ?_
       show Tri _ _ _ _
       refine zAa (by exact tokW) (by exact gok) [] [] rfl ?_
       refine ⟨(k,IntKind.i64.wrap (i2 + 1)),h,(Le.forget _ ⟨rfl,rfl,trivial⟩),Nat.lt_succ_self k⟩
    ·replace h:=zAr hb h
     refine zAK ?_
     cases h
     exact ⟨_,rfl,(Le.forget _ trivial)⟩
 ·subst hz
  obtain _:=z
  replace h:=ho1
  show Tri _ _ _ _
  refine zAk hle ?_
  refine zAb ?_
  refine zAa (by exact tokW) (by exact gok) [] [] rfl ?_
  show Tri _ _ _ _
  refine zAv ?_
  have hy:=Option.some.inj h
  subst hy
  unfold zAQ
  exact ⟨_,Le.refl _ _,rfl,rfl⟩
def zQC (n : Nat) (xs : List AV) (r : Ret) : Prop:=∃ (a0 : Nd) (y0 : Bool),zFU n a0 = some y0 ∧ xs = [.agg ((Nd.enc a0).map .s)] ∧ r = .val (.s (.bool y0))
def zLC : zAB:=zAJ fun xs r => ∃ n,zQC n xs r
theorem zPD : PSound Tryz.prog 47 zLC:=by
 have gok : ∀ f s,look? f [(72,zJd),(73,zJb),(74,zGy),(76,zF5),(75,zMw),(77,zJ6)] = some s → PSound Tryz.prog f s:=zAE (by
  simp only [List.forall_mem_cons]
  exact ⟨zM5,zM3,zJI,zHq,zOv,zLZ,by simp⟩)
 refine zAT tokW Tryz.call47 Tryz.func47 rfl (fun xs r h => by obtain ⟨n,_,_,_,rfl,_⟩:=h; show 1 ≤ 53; decide) 53 rfl ?_
 rintro xs r w0 G0 ⟨n,⟨n1_kind,n1_text,n1_cols,n1_kids⟩,y0,h,rfl,rfl⟩ _
 rw [zFU] at h
 refine zAb ?_
 refine zAa (by exact tokW) (by exact gok) [] [] rfl ?_
 show Tri _ _ _ _
 refine zAb ?_
 refine zAb ?_
 refine zAa (by exact tokW) (by exact gok) [] [] rfl ?_
 show Tri _ _ _ _
 refine zAn ?_
 refine zAb ?_
 refine zAa (by exact tokW) (by exact gok) [] [] rfl ?_
 show Tri _ _ _ _
 refine zAf rfl (fun hb => ?_) (fun hb => ?_)
 ·replace h:=zAs hb h
  refine zAb ?_
  refine zAa (by exact tokW) (by exact gok) [] [] rfl ?_
  obtain ⟨y2,hy2,h⟩:=zAc h
  refine ⟨_,⟨_,_,_,hy2,rfl,rfl⟩,?_⟩
  show Tri _ _ _ _
  refine zAv ?_
  have hy:=Option.some.inj h
  subst hy
  unfold zAQ
  exact ⟨_,Le.refl _ _,rfl,rfl⟩
 ·replace h:=zAr hb h
  refine zAb ?_
  refine zAa (by exact tokW) (by exact gok) [] [] rfl ?_
  show Tri _ _ _ _
  refine zAf rfl (fun hb => ?_) (fun hb => ?_)
  ·replace h:=zAs hb h
   refine zAb ?_
   refine zAa (by exact tokW) (by exact gok) [] [] rfl ?_
   obtain ⟨y3,hy3,h⟩:=zAc h
   refine ⟨_,⟨_,_,_,hy3,rfl,rfl⟩,?_⟩
   show Tri _ _ _ _
   refine zAv ?_
   have hy:=Option.some.inj h
   subst hy
   unfold zAQ
   exact ⟨_,Le.refl _ _,rfl,rfl⟩
  ·replace h:=zAr hb h
   refine zAb ?_
   refine zAa (by exact tokW) (by exact gok) [] [] rfl ?_
   show Tri _ _ _ _
   refine zAf rfl (fun hb => ?_) (fun hb => ?_)
   ·replace h:=zAs hb h
    refine zAb ?_
    obtain ⟨x4,hj,h⟩:=zAc h
    refine zAp ⟨ofL [(2,.s (.bool x4))],fun _ => none,0⟩ ?_ (fun σ' hle => ?_)
    ·replace h:=hj
     refine zAa (by exact tokW) (by exact gok) [] [21] rfl ?_
     intro b hb
     cases b with
     | true =>
      replace h:=zAs hb.symm h
      obtain ⟨y5,hy5,h⟩:=zAc h
      refine ⟨_,⟨_,_,_,hy5,rfl,rfl⟩,?_⟩
      cases h
      exact (Le.forget _ ⟨rfl,trivial⟩)
     | false =>
      replace h:=zAr hb.symm h
      cases h
      exact (Le.forget _ ⟨rfl,trivial⟩)
    ·show Tri _ _ _ _
     refine zAk hle ?_
     refine zAv ?_
     have hy:=Option.some.inj h
     subst hy
     unfold zAQ
     exact ⟨_,Le.refl _ _,rfl,rfl⟩
   ·replace h:=zAr hb h
    refine zAb ?_
    refine zAa (by exact tokW) (by exact gok) [] [] rfl ?_
    show Tri _ _ _ _
    refine zAf rfl (fun hb => ?_) (fun hb => ?_)
    ·replace h:=zAs hb h
     refine zAb ?_
     refine zAD (by exact tokW) (by exact gok) (by exact mixed) [] [] [] rfl (by decide +kernel) ?_
     obtain ⟨y6,hy6,h⟩:=zAc h
     refine ⟨_,⟨_,hy6,rfl,rfl⟩,?_⟩
     obtain ⟨y7,hy7,h⟩:=zAc h
     refine ⟨_,⟨_,_,_,_,hy7,rfl,rfl⟩,?_⟩
     show Tri _ _ _ _
     refine zAv ?_
     have hy:=Option.some.inj h
     subst hy
     unfold zAQ
     exact ⟨_,Le.refl _ _,rfl,rfl⟩
    ·replace h:=zAr hb h
     refine zAb ?_
     refine zAa (by exact tokW) (by exact gok) [] [] rfl ?_
     show Tri _ _ _ _
     refine zAf rfl (fun hb => ?_) (fun hb => ?_)
     ·replace h:=zAs hb h
      refine zAb ?_
      obtain ⟨x8,hj,h⟩:=zAc h
      refine zAp ⟨ofL [(2,.s (.bool x8))],fun _ => none,0⟩ ?_ (fun σ' hle => ?_)
      ·replace h:=hj
       refine zAa (by exact tokW) (by exact gok) [] [38,41,44,47] rfl ?_
       intro b hb
       cases b with
       | true =>
        replace h:=zAs hb.symm h
        obtain ⟨c9,hc9,h⟩:=zAc h
        refine And.intro (zBc hc9).1 ?_
        intro v10 hv10
        obtain rfl : (c9.toNat : Int) = v10:=(hv10.trans (zBc hc9).2).symm
        obtain ⟨y11,hy11,h⟩:=zAc h
        refine ⟨_,⟨_,_,_,_,hy11,rfl,rfl⟩,?_⟩
        intro b hb
        cases b with
        | true =>
         replace h:=zAs hb.symm h
         obtain ⟨c12,hc12,h⟩:=zAc h
         refine And.intro (zBc hc12).1 ?_
         intro v13 hv13
         obtain rfl : (c12.toNat : Int) = v13:=(hv13.trans (zBc hc12).2).symm
         obtain ⟨y14,hy14,h⟩:=zAc h
         refine ⟨_,⟨_,_,_,_,hy14,rfl,rfl⟩,?_⟩
         cases h
         exact (Le.forget _ ⟨rfl,trivial⟩)
        | false =>
         replace h:=zAr hb.symm h
         cases h
         exact (Le.forget _ ⟨rfl,trivial⟩)
       | false =>
        replace h:=zAr hb.symm h
        intro b hb
        subst hb
        cases h
        exact (Le.forget _ ⟨rfl,trivial⟩)
      ·show Tri _ _ _ _
       refine zAk hle ?_
       refine zAv ?_
       have hy:=Option.some.inj h
       subst hy
       unfold zAQ
       exact ⟨_,Le.refl _ _,rfl,rfl⟩
     ·replace h:=zAr hb h
      refine zAj ?_
      show Tri _ _ _ _
      refine zAb ?_
      refine zAa (by exact tokW) (by exact gok) [] [] rfl ?_
      show Tri _ _ _ _
      refine zAv ?_
      have hy:=Option.some.inj h
      subst hy
      unfold zAQ
      exact ⟨_,Le.refl _ _,rfl,rfl⟩
def zQB (xs : List AV) (r : Ret) : Prop:=∃ (a0 : Nd) (y0 : Bool),zFT a0 = some y0 ∧ xs = [.agg ((Nd.enc a0).map .s)] ∧ r = .val (.s (.bool y0))
def zLA : zAB:=zAJ fun xs r => zQB xs r
theorem zPB : PSound Tryz.prog 48 zLA:=by
 have gok : ∀ (f : Nat) (s : zAB),(fun _ => none : Nat → Option zAB) f = some s → PSound Tryz.prog f s:=fun _ _ h => by cases h
 refine zAT tokW Tryz.call48 Tryz.func48 rfl (fun xs r h => by obtain ⟨_,_,_,rfl,_⟩:=h; show 1 ≤ 64; decide) 64 rfl ?_
 rintro xs r w0 G0 ⟨⟨n1_kind,n1_text,n1_cols,n1_kids⟩,y0,h,rfl,rfl⟩ _
 rw [zFT] at h
 refine zAb ?_
 refine zAa (by exact tokW) (by exact gok) [] [] rfl ?_
 show Tri _ _ _ _
 refine zAb ?_
 refine zAa (by exact tokW) (by exact gok) [] [6] rfl ?_
 intro n2 hn2
 obtain rfl : (n1_kids.length : Int) = n2:=(hn2.trans (congrArg (fun m : Nat => (m : Int)) (rlen Nd.encs_eq n1_kids))).symm
 show Tri _ _ _ _
 refine zAb ?_
 refine zAb ?_
 refine zAa (by exact tokW) (by exact gok) [] [] rfl ?_
 show Tri _ _ _ _
 refine zAf rfl (fun hb => ?_) (fun hb => ?_)
 ·replace h:=zAs hb h
  refine zAb ?_
  obtain ⟨x3,hj,h⟩:=zAc h
  refine zAp ⟨ofL [(2,.s (.bool x3))],fun _ => none,0⟩ ?_ (fun σ' hle => ?_)
  ·replace h:=hj
   refine zAa (by exact tokW) (by exact gok) [] [13,18,22,26] rfl ?_
   intro b hb
   cases b with
   | true =>
    replace h:=zAs hb.symm h
    intro b hb
    cases b with
    | true =>
     replace h:=zAs hb.symm h
     intro b hb
     cases b with
     | true =>
      replace h:=zAs hb.symm h
      intro b hb
      cases b with
      | true =>
       replace h:=zAs hb.symm h
       obtain ⟨hq,h⟩:=zAF h
       refine And.intro hq ?_
       cases h
       exact (Le.forget _ ⟨rfl,trivial⟩)
      | false =>
       replace h:=zAr hb.symm h
       cases h
       exact (Le.forget _ ⟨rfl,trivial⟩)
     | false =>
      replace h:=zAr hb.symm h
      intro b hb
      subst hb
      cases h
      exact (Le.forget _ ⟨rfl,trivial⟩)
    | false =>
     replace h:=zAr hb.symm h
     intro b hb
     subst hb
     intro b hb
     subst hb
     cases h
     exact (Le.forget _ ⟨rfl,trivial⟩)
   | false =>
    replace h:=zAr hb.symm h
    intro b hb
    subst hb
    intro b hb
    subst hb
    intro b hb
    subst hb
    cases h
    exact (Le.forget _ ⟨rfl,trivial⟩)
  ·show Tri _ _ _ _
   refine zAk hle ?_
   refine zAv ?_
   have hy:=Option.some.inj h
   subst hy
   unfold zAQ
   exact ⟨_,Le.refl _ _,rfl,rfl⟩
 ·replace h:=zAr hb h
  refine zAj ?_
  show Tri _ _ _ _
  refine zAb ?_
  refine zAb ?_
  refine zAa (by exact tokW) (by exact gok) [] [] rfl ?_
  show Tri _ _ _ _
  refine zAf rfl (fun hb => ?_) (fun hb => ?_)
  ·replace h:=zAs hb h
   refine zAb ?_
   refine zAa (by exact tokW) (by exact gok) [] [] rfl ?_
   show Tri _ _ _ _
   refine zAv ?_
   have hy:=Option.some.inj h
   subst hy
   unfold zAQ
   exact ⟨_,Le.refl _ _,rfl,rfl⟩
  ·replace h:=zAr hb h
   refine zAj ?_
   show Tri _ _ _ _
   refine zAb ?_
   refine zAb ?_
   refine zAa (by exact tokW) (by exact gok) [] [] rfl ?_
   show Tri _ _ _ _
   obtain ⟨fl,hj,ho1⟩:=zAc h
   refine zDY (fl:=fl) (fun z => match z with | _ => ⟨ofL [],fun _ => none,0⟩) ?_ (fun z σ' hz hle => ?_)
   ·replace h:=hj
    refine zAn ?_
    refine zAb ?_
    refine zAa (by exact tokW) (by exact gok) [] [] rfl ?_
    show Tri _ _ _ _
    refine zAf rfl (fun hb => ?_) (fun hb => ?_)
    ·replace h:=zAs hb h
     refine zAb ?_
     refine zAa (by exact tokW) (by exact gok) [] [] rfl ?_
     show Tri _ _ _ _
     refine zAv ?_
     cases h
     replace h : some _ = some _:=ho1
     have hy:=Option.some.inj h
     subst hy
     unfold zAQ
     exact ⟨_,Le.refl _ _,rfl,rfl⟩
    ·replace h:=zAr hb h
     refine zAb ?_
     refine zAb ?_
     refine zAa (by exact tokW) (by exact gok) [] [] rfl ?_
     show Tri _ _ _ _
     obtain ⟨x4,hj,h⟩:=zAc h
     refine zAp ⟨ofL [(3,.s (.int .i64 (n1_kids.length : Int))),(37,.s (.int .i64 n1_kind)),(42,.s (.bool x4))],fun _ => none,0⟩ ?_ (fun σ' hle => ?_)
     ·replace h:=hj
      refine zAf rfl (fun hb => ?_) (fun hb => ?_)
      ·replace h:=zAs hb h
       refine zAj ?_
       cases h
       exact (Le.forget _ ⟨rfl,rfl,rfl,trivial⟩)
      ·replace h:=zAr hb h
       refine zAb ?_
       refine zAa (by exact tokW) (by exact gok) [] [] rfl ?_
       show Tri _ _ _ _
       refine zAf rfl (fun hb => ?_) (fun hb => ?_)
       ·replace h:=zAs hb h
        refine zAj ?_
        cases h
        exact (Le.forget _ ⟨rfl,rfl,rfl,trivial⟩)
       ·replace h:=zAr hb h
        refine zAa (by exact tokW) (by exact gok) [] [] rfl ?_
        cases h
        exact (Le.forget _ ⟨rfl,rfl,rfl,trivial⟩)
     ·show Tri _ _ _ _
      refine zAk hle ?_
      refine zAf rfl (fun hb => ?_) (fun hb => ?_)
      ·replace h:=zAs hb h
       refine zAb ?_
       refine zAa (by exact tokW) (by exact gok) [] [] rfl ?_
       show Tri _ _ _ _
       refine zAv ?_
       cases h
       replace h : some _ = some _:=ho1
       have hy:=Option.some.inj h
       subst hy
       unfold zAQ
       exact ⟨_,Le.refl _ _,rfl,rfl⟩
      ·replace h:=zAr hb h
       refine zAb ?_
       refine zAb ?_
       refine zAa (by exact tokW) (by exact gok) [] [] rfl ?_
       show Tri _ _ _ _
       obtain ⟨x5,hj,h⟩:=zAc h
       refine zAp ⟨ofL [(3,.s (.int .i64 (n1_kids.length : Int))),(37,.s (.int .i64 n1_kind)),(48,.s (.bool x5))],fun _ => none,0⟩ ?_ (fun σ' hle => ?_)
       ·replace h:=hj
        refine zAf rfl (fun hb => ?_) (fun hb => ?_)
        ·replace h:=zAs hb h
         refine zAj ?_
         cases h
         exact (Le.forget _ ⟨rfl,rfl,rfl,trivial⟩)
        ·replace h:=zAr hb h
         refine zAb ?_
         refine zAa (by exact tokW) (by exact gok) [] [] rfl ?_
         show Tri _ _ _ _
         refine zAf rfl (fun hb => ?_) (fun hb => ?_)
         ·replace h:=zAs hb h
          refine zAj ?_
          cases h
          exact (Le.forget _ ⟨rfl,rfl,rfl,trivial⟩)
         ·replace h:=zAr hb h
          refine zAb ?_
          refine zAa (by exact tokW) (by exact gok) [] [] rfl ?_
          show Tri _ _ _ _
          refine zAf rfl (fun hb => ?_) (fun hb => ?_)
          ·replace h:=zAs hb h
           refine zAj ?_
           cases h
           exact (Le.forget _ ⟨rfl,rfl,rfl,trivial⟩)
          ·replace h:=zAr hb h
           refine zAa (by exact tokW) (by exact gok) [] [] rfl ?_
           cases h
           exact (Le.forget _ ⟨rfl,rfl,rfl,trivial⟩)
       ·show Tri _ _ _ _
        refine zAk hle ?_
        refine zAf rfl (fun hb => ?_) (fun hb => ?_)
        ·replace h:=zAs hb h
         refine zAb ?_
         refine zAa (by exact tokW) (by exact gok) [] [] rfl ?_
         show Tri _ _ _ _
         refine zAv ?_
         cases h
         replace h : some _ = some _:=ho1
         have hy:=Option.some.inj h
         subst hy
         unfold zAQ
         exact ⟨_,Le.refl _ _,rfl,rfl⟩
        ·replace h:=zAr hb h
         refine zAb ?_
         refine zAa (by exact tokW) (by exact gok) [] [] rfl ?_
         show Tri _ _ _ _
         refine zAf rfl (fun hb => ?_) (fun hb => ?_)
         ·replace h:=zAs hb h
          refine zAb ?_
          refine zAa (by exact tokW) (by exact gok) [] [] rfl ?_
          show Tri _ _ _ _
          refine zAv ?_
          cases h
          replace h : some _ = some _:=ho1
          have hy:=Option.some.inj h
          subst hy
          unfold zAQ
          exact ⟨_,Le.refl _ _,rfl,rfl⟩
         ·replace h:=zAr hb h
          refine zAb ?_
          refine zAb ?_
          refine zAa (by exact tokW) (by exact gok) [] [] rfl ?_
          show Tri _ _ _ _
          obtain ⟨x6,hj,h⟩:=zAc h
          refine zAp ⟨ofL [(3,.s (.int .i64 (n1_kids.length : Int))),(59,.s (.bool x6))],fun _ => none,0⟩ ?_ (fun σ' hle => ?_)
          ·replace h:=hj
           refine zAf rfl (fun hb => ?_) (fun hb => ?_)
           ·replace h:=zAs hb h
            refine zAj ?_
            cases h
            exact (Le.forget _ ⟨rfl,rfl,trivial⟩)
           ·replace h:=zAr hb h
            refine zAa (by exact tokW) (by exact gok) [] [] rfl ?_
            cases h
            exact (Le.forget _ ⟨rfl,rfl,trivial⟩)
          ·show Tri _ _ _ _
           refine zAk hle ?_
           refine zAf rfl (fun hb => ?_) (fun hb => ?_)
           ·replace h:=zAs hb h
            refine zAb ?_
            refine zAa (by exact tokW) (by exact gok) [] [] rfl ?_
            show Tri _ _ _ _
            refine zAv ?_
            cases h
            replace h : some _ = some _:=ho1
            have hy:=Option.some.inj h
            subst hy
            unfold zAQ
            exact ⟨_,Le.refl _ _,rfl,rfl⟩
           ·replace h:=zAr hb h
            refine zAj ?_
            cases h
            exact ⟨_,rfl,(Le.forget _ trivial)⟩
   ·subst hz
    obtain _:=z
    replace h:=ho1
    show Tri _ _ _ _
    refine zAk hle ?_
    refine zAb ?_
    refine zAa (by exact tokW) (by exact gok) [] [] rfl ?_
    show Tri _ _ _ _
    refine zAv ?_
    have hy:=Option.some.inj h
    subst hy
    unfold zAQ
    exact ⟨_,Le.refl _ _,rfl,rfl⟩
def zFD (n : Nat) (xs : List AV) (r : Ret) : Prop:=∃ (a0 : Nd) (y0 : Bool),zDn n a0 = some y0 ∧ xs = [.agg ((Nd.enc a0).map .s)] ∧ r = .val (.s (.bool y0))
theorem zNl (n : Nat) (ih : PSound Tryz.prog 31 (zAJ (zFD n))) : PSound Tryz.prog 31 (zAJ (zFD (n + 1))):=by
 have gok : ∀ f s,look? f [(47,zLC),(48,zLA),(31,zAJ (zFD n))] = some s → PSound Tryz.prog f s:=zAE (by
  simp only [List.forall_mem_cons]
  exact ⟨zPD,zPB,ih,by simp⟩)
 refine zAT tokW Tryz.call31 Tryz.func31 rfl (fun xs r h => by obtain ⟨_,_,_,rfl,_⟩:=h; show 1 ≤ 39; decide) 39 rfl ?_
 rintro xs r w0 G0 ⟨⟨n1_kind,n1_text,n1_cols,n1_kids⟩,y0,h,rfl,rfl⟩ _
 rw [zDn] at h
 refine zAb ?_
 refine zAa (by exact tokW) (by exact gok) [] [] rfl ?_
 show Tri _ _ _ _
 refine zAb ?_
 refine zAb ?_
 obtain ⟨x2,hj,h⟩:=zAc h
 refine zAp ⟨ofL [(1,.s (.pt [.int .i64 n1_kind,.str n1_text,.int .i64 n1_cols,.sl 4 (Nd.encs n1_kids)])),(11,.s (.bool x2))],fun _ => none,0⟩ ?_ (fun σ' hle => ?_)
 ·replace h:=hj
  refine zAa (by exact tokW) (by exact gok) [] [7] rfl ?_
  obtain ⟨y3,hy3,h⟩:=zAc h
  refine ⟨_,⟨_,_,_,hy3,rfl,rfl⟩,?_⟩
  intro b hb
  cases b with
  | true =>
   replace h:=zAs hb.symm h
   cases h
   exact (Le.forget _ ⟨rfl,rfl,trivial⟩)
  | false =>
   replace h:=zAr hb.symm h
   obtain ⟨y4,hy4,h⟩:=zAc h
   refine ⟨_,⟨_,_,hy4,rfl,rfl⟩,?_⟩
   cases h
   exact (Le.forget _ ⟨rfl,rfl,trivial⟩)
 ·show Tri _ _ _ _
  refine zAk hle ?_
  refine zAf rfl (fun hb => ?_) (fun hb => ?_)
  ·replace h:=zAs hb h
   refine zAb ?_
   refine zAa (by exact tokW) (by exact gok) [] [] rfl ?_
   show Tri _ _ _ _
   refine zAv ?_
   have hy:=Option.some.inj h
   subst hy
   unfold zAQ
   exact ⟨_,Le.refl _ _,rfl,rfl⟩
  ·replace h:=zAr hb h
   refine zAj ?_
   show Tri _ _ _ _
   refine zAb ?_
   refine zAb ?_
   refine zAa (by exact tokW) (by exact gok) [] [] rfl ?_
   show Tri _ _ _ _
   obtain ⟨fl,hl,ho1⟩:=zAc h
   refine zDY (fl:=fl) (fun z => match z with | _ => ⟨ofL [],fun _ => none,0⟩) ?_ (fun z σ' hz hle => ?_)
   ·refine zAn (zAG (X:=Nat × Int) (fun y => match y with | (k,i5) => ⟨ofL [(1,.s (.pt [.int .i64 n1_kind,.str n1_text,.int .i64 n1_cols,.sl 4 (Nd.encs n1_kids)])),(3,.s (.int .i64 i5))],fun _ => none,0⟩) (fun y => zCH (zDn n) n1_kind n1_kids y.1 y.2 = some fl) (fun y => y.1) (n,0) hl ?_ ?_)
    ·exact (Le.forget _ ⟨rfl,rfl,trivial⟩)
    ·rintro ⟨k,i5⟩ h
     cases k with
     | zero => cases h
     | succ k =>
      replace h : zCH (zDn n) n1_kind n1_kids (k+1) i5 = some fl:=h
      rw [zCH] at h
      refine zAb ?_
      refine zAb ?_
      refine zAa (by exact tokW) (by exact gok) [] [15] rfl ?_
      intro n6 hn6
      obtain rfl : (n1_kids.length : Int) = n6:=(hn6.trans (congrArg (fun m : Nat => (m : Int)) (rlen Nd.encs_eq n1_kids))).symm
      show Tri _ _ _ _
      refine zAf rfl (fun hb => ?_) (fun hb => ?_)
      ·replace h:=zAs hb h
       refine zAj ?_
       show Tri _ _ _ _
       refine zAb ?_
       refine zAn ?_
       refine zAb ?_
       obtain ⟨x7,hj,h⟩:=zAc h
       refine zAp ⟨ofL [(1,.s (.pt [.int .i64 n1_kind,.str n1_text,.int .i64 n1_cols,.sl 4 (Nd.encs n1_kids)])),(3,.s (.int .i64 i5)),(38,.s (.bool x7))],fun _ => none,0⟩ ?_ (fun σ' hle => ?_)
       ·replace h:=hj
        refine zAD (by exact tokW) (by exact gok) (by exact mixed) [] [22,30,34] [] rfl (by decide +kernel) ?_
        obtain ⟨⟨e8_kind,e8_text,e8_cols,e8_kids⟩,he8,h⟩:=zAc h
        refine And.intro (zAA Nd.encs_eq he8).1 ?_
        intro r9 hr9
        obtain rfl : [.int .i64 e8_kind,.str e8_text,.int .i64 e8_cols,.sl 4 (Nd.encs e8_kids)] = r9:=(hr9.trans (zAA Nd.encs_eq he8).2.1).symm
        intro b hb
        cases b with
        | true =>
         replace h:=zAs hb.symm h
         cases h
         exact (Le.forget _ ⟨rfl,rfl,rfl,trivial⟩)
        | false =>
         replace h:=zAr hb.symm h
         obtain ⟨⟨e10_kind,e10_text,e10_cols,e10_kids⟩,he10,h⟩:=zAc h
         refine And.intro (zAA Nd.encs_eq he10).1 ?_
         intro r11 hr11
         obtain rfl : [.int .i64 e10_kind,.str e10_text,.int .i64 e10_cols,.sl 4 (Nd.encs e10_kids)] = r11:=(hr11.trans (zAA Nd.encs_eq he10).2.1).symm
         obtain ⟨y12,hy12,h⟩:=zAc h
         refine ⟨_,⟨_,_,hy12,rfl,rfl⟩,?_⟩
         cases h
         exact (Le.forget _ ⟨rfl,rfl,rfl,trivial⟩)
       ·show Tri _ _ _ _
        refine zAk hle ?_
        refine zAf rfl (fun hb => ?_) (fun hb => ?_)
        ·replace h:=zAs hb h
         refine zAb ?_
         refine zAa (by exact tokW) (by exact gok) [] [] rfl ?_
         show Tri _ _ _ _
         refine zAv ?_
         cases h
         replace h : some _ = some _:=ho1
         have hy:=Option.some.inj h
         subst hy
         unfold zAQ
         exact ⟨_,Le.refl _ _,rfl,rfl⟩
        ·replace h:=zAr hb h
         refine zAj ?_
         show Tri _ _ _ _
         refine zAa (by exact tokW) (by exact gok) [] [] rfl ?_
         refine ⟨(k,IntKind.i64.wrap (i5 + 1)),h,(Le.forget _ ⟨rfl,rfl,trivial⟩),Nat.lt_succ_self k⟩
      ·replace h:=zAr hb h
       refine zAK ?_
       cases h
       exact ⟨_,rfl,(Le.forget _ trivial)⟩
   ·subst hz
    obtain _:=z
    replace h:=ho1
    show Tri _ _ _ _
    refine zAk hle ?_
    refine zAb ?_
    refine zAa (by exact tokW) (by exact gok) [] [] rfl ?_
    show Tri _ _ _ _
    refine zAv ?_
    have hy:=Option.some.inj h
    subst hy
    unfold zAQ
    exact ⟨_,Le.refl _ _,rfl,rfl⟩
theorem zNT : ∀ n,PSound Tryz.prog 31 (zAJ (zFD n)):=by
 intro n
 induction n with
 | zero => exact zBF Tryz.call31 (fun xs r h => by obtain ⟨_,_,h,_⟩:=h; cases h)
 | succ n ih => exact zNl n ih
def zLz : zAB:=zAJ fun xs r => ∃ n,zFD n xs r
theorem zPA : PSound Tryz.prog 31 zLz:=zCf zNT
def zEV (n : Nat) (xs : List AV) (r : Ret) : Prop:=∃ (a0 : Nd) (y0 : Int),zBo n a0 = some y0 ∧ xs = [.agg ((Nd.enc a0).map .s)] ∧ r = .val (.s (.int .i64 y0))
theorem zLu (n : Nat) (ih : PSound Tryz.prog 32 (zAJ (zEV n))) : PSound Tryz.prog 32 (zAJ (zEV (n + 1))):=by
 have gok : ∀ f s,look? f [(32,zAJ (zEV n))] = some s → PSound Tryz.prog f s:=zAE (by
  simp only [List.forall_mem_cons]
  exact ⟨ih,by simp⟩)
 refine zAT tokW Tryz.call32 Tryz.func32 rfl (fun xs r h => by obtain ⟨_,_,_,rfl,_⟩:=h; show 1 ≤ 21; decide) 21 rfl ?_
 rintro xs r w0 G0 ⟨⟨n1_kind,n1_text,n1_cols,n1_kids⟩,y0,h,rfl,rfl⟩ _
 rw [zBo] at h
 refine zAb ?_
 refine zAa (by exact tokW) (by exact gok) [] [] rfl ?_
 show Tri _ _ _ _
 refine zAb ?_
 refine zAa (by exact tokW) (by exact gok) [] [] rfl ?_
 show Tri _ _ _ _
 refine zAb ?_
 refine zAb ?_
 refine zAa (by exact tokW) (by exact gok) [] [] rfl ?_
 show Tri _ _ _ _
 obtain ⟨out4,hl,h⟩:=zAc h
 refine zAp ⟨ofL [(3,.s (.int .i64 out4))],fun _ => none,0⟩ ?_ (fun σ' hle => ?_)
 ·refine zAn (zAG (X:=Nat × Int × Int) (fun y => match y with | (k,out2,i3) => ⟨ofL [(1,.s (.pt [.int .i64 n1_kind,.str n1_text,.int .i64 n1_cols,.sl 4 (Nd.encs n1_kids)])),(3,.s (.int .i64 out2)),(4,.s (.int .i64 i3))],fun _ => none,0⟩) (fun y => zCo (zBo n) n1_kids y.1 y.2.1 y.2.2 = some out4) (fun y => y.1) (n,1,0) hl ?_ ?_)
  ·exact (Le.forget _ ⟨rfl,rfl,rfl,trivial⟩)
  ·rintro ⟨k,out2,i3⟩ h
   cases k with
   | zero => cases h
   | succ k =>
    replace h : zCo (zBo n) n1_kids (k+1) out2 i3 = some out4:=h
    rw [zCo] at h
    refine zAb ?_
    refine zAb ?_
    refine zAa (by exact tokW) (by exact gok) [] [8] rfl ?_
    intro n5 hn5
    obtain rfl : (n1_kids.length : Int) = n5:=(hn5.trans (congrArg (fun m : Nat => (m : Int)) (rlen Nd.encs_eq n1_kids))).symm
    show Tri _ _ _ _
    refine zAf rfl (fun hb => ?_) (fun hb => ?_)
    ·replace h:=zAs hb h
     refine zAj ?_
     show Tri _ _ _ _
     refine zAb ?_
     refine zAn ?_
     refine zAa (by exact tokW) (by exact gok) [] [16] rfl ?_
     obtain ⟨⟨e6_kind,e6_text,e6_cols,e6_kids⟩,he6,h⟩:=zAc h
     refine And.intro (zAA Nd.encs_eq he6).1 ?_
     intro r7 hr7
     obtain rfl : [.int .i64 e6_kind,.str e6_text,.int .i64 e6_cols,.sl 4 (Nd.encs e6_kids)] = r7:=(hr7.trans (zAA Nd.encs_eq he6).2.1).symm
     obtain ⟨y8,hy8,h⟩:=zAc h
     refine ⟨_,⟨_,_,hy8,rfl,rfl⟩,?_⟩
     show Tri _ _ _ _
     refine zAa (by exact tokW) (by exact gok) [] [] rfl ?_
     refine ⟨(k,IntKind.i64.wrap (out2 + y8),IntKind.i64.wrap (i3 + 1)),h,(Le.forget _ ⟨rfl,rfl,rfl,trivial⟩),Nat.lt_succ_self k⟩
    ·replace h:=zAr hb h
     refine zAK ?_
     cases h
     exact (Le.forget _ ⟨rfl,trivial⟩)
 ·show Tri _ _ _ _
  refine zAk hle ?_
  refine zAb ?_
  refine zAa (by exact tokW) (by exact gok) [] [] rfl ?_
  show Tri _ _ _ _
  refine zAv ?_
  have hy:=Option.some.inj h
  subst hy
  unfold zAQ
  exact ⟨_,Le.refl _ _,rfl,rfl⟩
theorem zMz : ∀ n,PSound Tryz.prog 32 (zAJ (zEV n)):=by
 intro n
 induction n with
 | zero => exact zBF Tryz.call32 (fun xs r h => by obtain ⟨_,_,h,_⟩:=h; cases h)
 | succ n ih => exact zLu n ih
def zF6 : zAB:=zAJ fun xs r => ∃ n,zEV n xs r
theorem zGL : PSound Tryz.prog 32 zF6:=zCf zMz
def zEW (n : Nat) (xs : List AV) (r : Ret) : Prop:=∃ (a0 : Nd) (y0 : Int),zCF n a0 = some y0 ∧ xs = [.agg ((Nd.enc a0).map .s)] ∧ r = .val (.s (.int .i64 y0))
theorem zLv (n : Nat) (ih : PSound Tryz.prog 33 (zAJ (zEW n))) : PSound Tryz.prog 33 (zAJ (zEW (n + 1))):=by
 have gok : ∀ f s,look? f [(33,zAJ (zEW n))] = some s → PSound Tryz.prog f s:=zAE (by
  simp only [List.forall_mem_cons]
  exact ⟨ih,by simp⟩)
 refine zAT tokW Tryz.call33 Tryz.func33 rfl (fun xs r h => by obtain ⟨_,_,_,rfl,_⟩:=h; show 1 ≤ 22; decide) 22 rfl ?_
 rintro xs r w0 G0 ⟨⟨n1_kind,n1_text,n1_cols,n1_kids⟩,y0,h,rfl,rfl⟩ _
 rw [zCF] at h
 refine zAb ?_
 refine zAa (by exact tokW) (by exact gok) [] [] rfl ?_
 show Tri _ _ _ _
 refine zAb ?_
 refine zAa (by exact tokW) (by exact gok) [] [] rfl ?_
 show Tri _ _ _ _
 refine zAb ?_
 refine zAb ?_
 refine zAa (by exact tokW) (by exact gok) [] [] rfl ?_
 show Tri _ _ _ _
 obtain ⟨out4,hl,h⟩:=zAc h
 refine zAp ⟨ofL [(3,.s (.int .i64 out4))],fun _ => none,0⟩ ?_ (fun σ' hle => ?_)
 ·refine zAn (zAG (X:=Nat × Int × Int) (fun y => match y with | (k,out2,i3) => ⟨ofL [(1,.s (.pt [.int .i64 n1_kind,.str n1_text,.int .i64 n1_cols,.sl 4 (Nd.encs n1_kids)])),(3,.s (.int .i64 out2)),(4,.s (.int .i64 i3))],fun _ => none,0⟩) (fun y => zCp (zCF n) n1_kids y.1 y.2.1 y.2.2 = some out4) (fun y => y.1) (n,0,0) hl ?_ ?_)
  ·exact (Le.forget _ ⟨rfl,rfl,rfl,trivial⟩)
  ·rintro ⟨k,out2,i3⟩ h
   cases k with
   | zero => cases h
   | succ k =>
    replace h : zCp (zCF n) n1_kids (k+1) out2 i3 = some out4:=h
    rw [zCp] at h
    refine zAb ?_
    refine zAb ?_
    refine zAa (by exact tokW) (by exact gok) [] [8] rfl ?_
    intro n5 hn5
    obtain rfl : (n1_kids.length : Int) = n5:=(hn5.trans (congrArg (fun m : Nat => (m : Int)) (rlen Nd.encs_eq n1_kids))).symm
    show Tri _ _ _ _
    refine zAf rfl (fun hb => ?_) (fun hb => ?_)
    ·replace h:=zAs hb h
     refine zAj ?_
     show Tri _ _ _ _
     refine zAb ?_
     refine zAn ?_
     refine zAa (by exact tokW) (by exact gok) [] [16] rfl ?_
     obtain ⟨⟨e6_kind,e6_text,e6_cols,e6_kids⟩,he6,h⟩:=zAc h
     refine And.intro (zAA Nd.encs_eq he6).1 ?_
     intro r7 hr7
     obtain rfl : [.int .i64 e6_kind,.str e6_text,.int .i64 e6_cols,.sl 4 (Nd.encs e6_kids)] = r7:=(hr7.trans (zAA Nd.encs_eq he6).2.1).symm
     obtain ⟨y8,hy8,h⟩:=zAc h
     refine ⟨_,⟨_,_,hy8,rfl,rfl⟩,?_⟩
     show Tri _ _ _ _
     refine zAa (by exact tokW) (by exact gok) [] [] rfl ?_
     refine ⟨(k,(if out2 < y8 then y8 else out2),IntKind.i64.wrap (i3 + 1)),h,(Le.forget _ ⟨rfl,rfl,rfl,trivial⟩),Nat.lt_succ_self k⟩
    ·replace h:=zAr hb h
     refine zAK ?_
     cases h
     exact (Le.forget _ ⟨rfl,trivial⟩)
 ·show Tri _ _ _ _
  refine zAk hle ?_
  refine zAb ?_
  refine zAa (by exact tokW) (by exact gok) [] [] rfl ?_
  show Tri _ _ _ _
  refine zAv ?_
  have hy:=Option.some.inj h
  subst hy
  unfold zAQ
  exact ⟨_,Le.refl _ _,rfl,rfl⟩
theorem zMA : ∀ n,PSound Tryz.prog 33 (zAJ (zEW n)):=by
 intro n
 induction n with
 | zero => exact zBF Tryz.call33 (fun xs r h => by obtain ⟨_,_,h,_⟩:=h; cases h)
 | succ n ih => exact zLv n ih
def zJ3 : zAB:=zAJ fun xs r => ∃ n,zEW n xs r
theorem zOt : PSound Tryz.prog 33 zJ3:=zCf zMA
def zPg (n : Nat) (xs : List AV) (r : Ret) : Prop:=∃ (a0 : Nd) (y0 : Bool),zC6 n a0 = some y0 ∧ xs = [.agg ((Nd.enc a0).map .s)] ∧ r = .val (.s (.bool y0))
def zJ5 : zAB:=zAJ fun xs r => ∃ n,zPg n xs r
theorem zOw : PSound Tryz.prog 25 zJ5:=by
 have gok : ∀ f s,look? f [(31,zLz),(32,zF6),(33,zJ3)] = some s → PSound Tryz.prog f s:=zAE (by
  simp only [List.forall_mem_cons]
  exact ⟨zPA,zGL,zOt,by simp⟩)
 refine zAT tokW Tryz.call25 Tryz.func25 rfl (fun xs r h => by obtain ⟨n,_,_,_,rfl,_⟩:=h; show 1 ≤ 20; decide) 20 rfl ?_
 rintro xs r w0 G0 ⟨n,⟨n1_kind,n1_text,n1_cols,n1_kids⟩,y0,h,rfl,rfl⟩ _
 rw [zC6] at h
 refine zAb ?_
 refine zAa (by exact tokW) (by exact gok) [] [] rfl ?_
 show Tri _ _ _ _
 refine zAb ?_
 obtain ⟨x2,hj,h⟩:=zAc h
 refine zAp ⟨ofL [(2,.s (.bool x2))],fun _ => none,0⟩ ?_ (fun σ' hle => ?_)
 ·replace h:=hj
  refine zAa (by exact tokW) (by exact gok) [] [6,10,15] rfl ?_
  intro b hb
  cases b with
  | true =>
   replace h:=zAs hb.symm h
   obtain ⟨y3,hy3,h⟩:=zAc h
   refine ⟨_,⟨_,_,_,hy3,rfl,rfl⟩,?_⟩
   intro b hb
   cases b with
   | true =>
    replace h:=zAs hb.symm h
    obtain ⟨y4,hy4,h⟩:=zAc h
    refine ⟨_,⟨_,_,_,hy4,rfl,rfl⟩,?_⟩
    intro b hb
    cases b with
    | true =>
     replace h:=zAs hb.symm h
     obtain ⟨y5,hy5,h⟩:=zAc h
     refine ⟨_,⟨_,_,_,hy5,rfl,rfl⟩,?_⟩
     cases h
     exact (Le.forget _ ⟨rfl,trivial⟩)
    | false =>
     replace h:=zAr hb.symm h
     cases h
     exact (Le.forget _ ⟨rfl,trivial⟩)
   | false =>
    replace h:=zAr hb.symm h
    intro b hb
    subst hb
    cases h
    exact (Le.forget _ ⟨rfl,trivial⟩)
  | false =>
   replace h:=zAr hb.symm h
   intro b hb
   subst hb
   intro b hb
   subst hb
   cases h
   exact (Le.forget _ ⟨rfl,trivial⟩)
 ·show Tri _ _ _ _
  refine zAk hle ?_
  refine zAv ?_
  have hy:=Option.some.inj h
  subst hy
  unfold zAQ
  exact ⟨_,Le.refl _ _,rfl,rfl⟩
def zPh (xs : List AV) (r : Ret) : Prop:=∃ (a0 : Nd) (a1 : Nd) (y0 : Bool),zC8 a0 a1 = some y0 ∧ xs = [.agg ((Nd.enc a0).map .s),.agg ((Nd.enc a1).map .s)] ∧ r = .val (.s (.bool y0))
def zHB : zAB:=zAJ fun xs r => zPh xs r
theorem zJp : PSound Tryz.prog 68 zHB:=by
 have gok : ∀ (f : Nat) (s : zAB),(fun _ => none : Nat → Option zAB) f = some s → PSound Tryz.prog f s:=fun _ _ h => by cases h
 refine zAT tokW Tryz.call68 Tryz.func68 rfl (fun xs r h => by obtain ⟨_,_,_,_,rfl,_⟩:=h; show 2 ≤ 26; decide) 26 rfl ?_
 rintro xs r w0 G0 ⟨⟨x1_kind,x1_text,x1_cols,x1_kids⟩,⟨y2_kind,y2_text,y2_cols,y2_kids⟩,y0,h,rfl,rfl⟩ _
 rw [zC8] at h
 refine zAb ?_
 refine zAa (by exact tokW) (by exact gok) [] [] rfl ?_
 show Tri _ _ _ _
 refine zAb ?_
 obtain ⟨x3,hj,h⟩:=zAc h
 refine zAp ⟨ofL [(4,.s (.bool x3))],fun _ => none,0⟩ ?_ (fun σ' hle => ?_)
 ·replace h:=hj
  refine zAa (by exact tokW) (by exact gok) [] [10,13,16,19] rfl ?_
  intro b hb
  cases b with
  | true =>
   replace h:=zAs hb.symm h
   intro n4 hn4
   obtain rfl : (x1_kids.length : Int) = n4:=(hn4.trans (congrArg (fun m : Nat => (m : Int)) (rlen Nd.encs_eq x1_kids))).symm
   intro n5 hn5
   obtain rfl : (y2_kids.length : Int) = n5:=(hn5.trans (congrArg (fun m : Nat => (m : Int)) (rlen Nd.encs_eq y2_kids))).symm
   intro b hb
   cases b with
   | true =>
    replace h:=zAs hb.symm h
    cases h
    exact (Le.forget _ ⟨rfl,trivial⟩)
   | false =>
    replace h:=zAr hb.symm h
    cases h
    exact (Le.forget _ ⟨rfl,trivial⟩)
  | false =>
   replace h:=zAr hb.symm h
   intro b hb
   subst hb
   cases h
   exact (Le.forget _ ⟨rfl,trivial⟩)
 ·show Tri _ _ _ _
  refine zAk hle ?_
  refine zAv ?_
  have hy:=Option.some.inj h
  subst hy
  unfold zAQ
  exact ⟨_,Le.refl _ _,rfl,rfl⟩
theorem zIi {l : List Int} {j : Nat} {v : Int} (h : l[j]? = some v) : zJG TW 3 (((l.map (irow .i64)).getD j []).drop 0) = some (.s (.int .i64 v)):=by
 rw [zDf h]; rfl
theorem zOZ {C : Nd → Option Int} : ∀ {ys : List Nd} {r : List Int},zAY C ys = some r → r.length = ys.length + 1
 | [],r,h => by simp only [zAY,Option.some.injEq] at h; subst h; rfl
 | y :: ys,r,h => by
  simp only [zAY] at h
  obtain ⟨q,hq,h⟩:=zAc h
  obtain ⟨c,hc,h⟩:=zAc h
  cases h
  simp [zOZ hq]
theorem zMi {C : Nd → Option Int} : ∀ {ys : List Nd} {r : List Int},zAY C ys = some r → ∀ j,j ≤ ys.length → ∃ q,zAY C (ys.drop j) = some q
 | ys,r,h,0,_ => ⟨r,h⟩
 | [],_,_,j + 1,hj => by simp at hj
 | y :: ys,r,h,j + 1,hj => by
  simp only [zAY] at h
  obtain ⟨q,hq,_⟩:=zAc h
  exact zMi hq j (by simpa using hj)
theorem zQy {C : Nd → Option Int} {A : Nd → Nd → Option Bool} {Q : Nd → Nd → Option Int} {b : List Nd} : ∀ {xs : List Nd} {p : List (List Int)},zAP C A Q b xs = some p → ∃ r,zAY C b = some r
 | [],p,h => by
  simp only [zAP] at h
  obtain ⟨r,hr,_⟩:=zAc h
  exact ⟨r,hr⟩
 | x :: xs,p,h => by
  simp only [zAP] at h
  obtain ⟨q,hq,_⟩:=zAc h
  exact zQy hq
theorem zO1 {C : Nd → Option Int} {A : Nd → Nd → Option Bool} {Q : Nd → Nd → Option Int} {b : List Nd} : ∀ {xs : List Nd} {p : List (List Int)},zAP C A Q b xs = some p → p.length = xs.length + 1
 | [],p,h => by
  simp only [zAP] at h
  obtain ⟨r,hr,h⟩:=zAc h
  cases h; rfl
 | x :: xs,p,h => by
  simp only [zAP] at h
  obtain ⟨q,hq,h⟩:=zAc h
  obtain ⟨c,hc,h⟩:=zAc h
  have:=zO1 hq
  cases q with
  | nil => cases h
  | cons r1 q =>
   dsimp only at h
   obtain ⟨r,hr,h⟩:=zAc h
   cases h
   simp only [List.length_cons] at this ⊢
   omega
theorem zMk {C : Nd → Option Int} {A : Nd → Nd → Option Bool} {Q : Nd → Nd → Option Int} {b : List Nd} : ∀ {xs : List Nd} {p : List (List Int)},zAP C A Q b xs = some p → ∀ i,i ≤ xs.length → ∃ q,zAP C A Q b (xs.drop i) = some q
 | xs,p,h,0,_ => ⟨p,h⟩
 | [],_,_,i + 1,hi => by simp at hi
 | x :: xs,p,h,i + 1,hi => by
  simp only [zAP] at h
  obtain ⟨q,hq,_⟩:=zAc h
  exact zMk hq i (by simpa using hi)
theorem zNr {C : Nd → Option Int} {A : Nd → Nd → Option Bool} {Q : Nd → Nd → Option Int} {x : Nd} {cx : Int} : ∀ {ys : List Nd} {vs r : List Int},zAN C A Q x cx ys vs = some r → vs.length = ys.length + 1 ∧ r.length = ys.length + 1
 | [],[v],r,h => by simp only [zAN,Option.some.injEq] at h; subst h; simp
 | y :: ys,v :: v2 :: vs,r,h => by
  simp only [zAN] at h
  obtain ⟨q,hq,h⟩:=zAc h
  obtain ⟨c,hc,h⟩:=zAc h
  obtain ⟨al,hal,h⟩:=zAc h
  have:=zNr hq
  cases al with
  | false => cases h; simp only [List.length_cons] at this ⊢; omega
  | true =>
   simp only [cond_true] at h
   obtain ⟨p,hp,h⟩:=zAc h
   cases h; simp only [List.length_cons] at this ⊢; omega
 | [],[],_,h => by simp [zAN] at h
 | [],_ :: _ :: _,_,h => by simp [zAN] at h
 | _ :: _,[],_,h => by simp [zAN] at h
 | _ :: _,[_],_,h => by simp [zAN] at h
theorem zO0 {C : Nd → Option Int} {A : Nd → Nd → Option Bool} {Q : Nd → Nd → Option Int} {x : Nd} {cx : Int} : ∀ {ys : List Nd} {vs r : List Int},zAN C A Q x cx ys vs = some r → ∀ j,j ≤ ys.length → ∃ q,zAN C A Q x cx (ys.drop j) (vs.drop j) = some q
 | ys,vs,r,h,0,_ => ⟨r,h⟩
 | y :: ys,v :: v2 :: vs,r,h,j + 1,hj => by
  simp only [zAN] at h
  obtain ⟨q,hq,_⟩:=zAc h
  exact zO0 hq j (by simpa using hj)
 | [],_,_,_,j + 1,hj => by simp at hj
 | _ :: _,[],_,h,_ + 1,_ => by simp [zAN] at h
 | _ :: _,[_],_,h,_ + 1,_ => by simp [zAN] at h
def zEN (n : Nat) (xs : List AV) (r : Ret) : Prop:=∃ (a0 : Nd) (a1 : Nd) (y0 : Int),zCe n a0 a1 = some y0 ∧ xs = [.agg ((Nd.enc a0).map .s),.agg ((Nd.enc a1).map .s)] ∧ r = .val (.s (.int .i64 y0))
def zD6 (n : Nat) (xs : List AV) (r : Ret) : Prop:=∃ (a0 : List Nd) (a1 : List Nd) (y0 : List (List Int)),zCq n a0 a1 = some y0 ∧ xs = [.s (.sl 4 (Nd.encs a0)),.s (.sl 4 (Nd.encs a1))] ∧ r = .val (.s (.sl 1 ((List.map zAw) y0)))
theorem zNn (n : Nat) (ih_r16_pair : PSound Tryz.prog 69 (zAJ (zEN n))) (ih_r16_table : PSound Tryz.prog 67 (zAJ (zD6 n))) : PSound Tryz.prog 69 (zAJ (zEN (n + 1))):=by
 have gok : ∀ f s,look? f [(67,zAJ (zD6 n))] = some s → PSound Tryz.prog f s:=zAE (by
  simp only [List.forall_mem_cons]
  exact ⟨ih_r16_table,by simp⟩)
 refine zAT tokW Tryz.call69 Tryz.func69 rfl (fun xs r h => by obtain ⟨_,_,_,_,rfl,_⟩:=h; show 2 ≤ 39; decide) 39 rfl ?_
 rintro xs r w0 G0 ⟨⟨x1_kind,x1_text,x1_cols,x1_kids⟩,⟨y2_kind,y2_text,y2_cols,y2_kids⟩,y0,h,rfl,rfl⟩ _
 rw [zCe] at h
 refine zAb ?_
 refine zAa (by exact tokW) (by exact gok) [] [] rfl ?_
 show Tri _ _ _ _
 refine zAb ?_
 refine zAa (by exact tokW) (by exact gok) [] [] rfl ?_
 show Tri _ _ _ _
 refine zAb ?_
 refine zAb ?_
 refine zAa (by exact tokW) (by exact gok) [] [] rfl ?_
 show Tri _ _ _ _
 obtain ⟨n3,hj,h⟩:=zAc h
 refine zAp ⟨ofL [(2,.s (.pt [.int .i64 x1_kind,.str x1_text,.int .i64 x1_cols,.sl 4 (Nd.encs x1_kids)])),(3,.s (.pt [.int .i64 y2_kind,.str y2_text,.int .i64 y2_cols,.sl 4 (Nd.encs y2_kids)])),(5,.s (.int .i64 n3))],fun _ => none,0⟩ ?_ (fun σ' hle => ?_)
 ·replace h:=hj
  refine zAf rfl (fun hb => ?_) (fun hb => ?_)
  ·replace h:=zAs hb h
   refine zAa (by exact tokW) (by exact gok) [] [] rfl ?_
   cases h
   exact (Le.forget _ ⟨rfl,rfl,rfl,trivial⟩)
  ·replace h:=zAr hb h
   refine zAj ?_
   cases h
   exact (Le.forget _ ⟨rfl,rfl,rfl,trivial⟩)
 ·show Tri _ _ _ _
  refine zAk hle ?_
  refine zAb ?_
  refine zAb ?_
  refine zAa (by exact tokW) (by exact gok) [] [] rfl ?_
  show Tri _ _ _ _
  obtain ⟨n6,hl,h⟩:=zAc h
  refine zAp ⟨ofL [(5,.s (.int .i64 n6))],fun _ => none,0⟩ ?_ (fun σ' hle => ?_)
  ·refine zAn (zAG (X:=Nat × Int × Int) (fun y => match y with | (k,n4,i5) => ⟨ofL [(2,.s (.pt [.int .i64 x1_kind,.str x1_text,.int .i64 x1_cols,.sl 4 (Nd.encs x1_kids)])),(3,.s (.pt [.int .i64 y2_kind,.str y2_text,.int .i64 y2_cols,.sl 4 (Nd.encs y2_kids)])),(5,.s (.int .i64 n4)),(6,.s (.int .i64 i5))],fun _ => none,0⟩) (fun y => zCI (zCq n) x1_kids y2_kids y.1 y.2.1 y.2.2 = some n6) (fun y => y.1) (n,n3,0) hl ?_ ?_)
   ·exact (Le.forget _ ⟨rfl,rfl,rfl,rfl,trivial⟩)
   ·rintro ⟨k,n4,i5⟩ h
    cases k with
    | zero => cases h
    | succ k =>
     replace h : zCI (zCq n) x1_kids y2_kids (k+1) n4 i5 = some n6:=h
     rw [zCI] at h
     refine zAb ?_
     refine zAb ?_
     refine zAa (by exact tokW) (by exact gok) [] [15] rfl ?_
     intro n7 hn7
     obtain rfl : (x1_kids.length : Int) = n7:=(hn7.trans (congrArg (fun m : Nat => (m : Int)) (rlen Nd.encs_eq x1_kids))).symm
     show Tri _ _ _ _
     refine zAf rfl (fun hb => ?_) (fun hb => ?_)
     ·replace h:=zAs hb h
      refine zAj ?_
      show Tri _ _ _ _
      refine zAb ?_
      refine zAn ?_
      refine zAD (by exact tokW) (by exact gok) (by exact mixed) [] [23,29,33,35] [] rfl (by decide +kernel) ?_
      obtain ⟨⟨e8_kind,e8_text,e8_cols,e8_kids⟩,he8,h⟩:=zAc h
      refine And.intro (zAA Nd.encs_eq he8).1 ?_
      intro r9 hr9
      obtain rfl : [.int .i64 e8_kind,.str e8_text,.int .i64 e8_cols,.sl 4 (Nd.encs e8_kids)] = r9:=(hr9.trans (zAA Nd.encs_eq he8).2.1).symm
      obtain ⟨⟨e10_kind,e10_text,e10_cols,e10_kids⟩,he10,h⟩:=zAc h
      refine And.intro (zAA Nd.encs_eq he10).1 ?_
      intro r11 hr11
      obtain rfl : [.int .i64 e10_kind,.str e10_text,.int .i64 e10_cols,.sl 4 (Nd.encs e10_kids)] = r11:=(hr11.trans (zAA Nd.encs_eq he10).2.1).symm
      obtain ⟨y12,hy12,h⟩:=zAc h
      refine ⟨_,⟨_,_,_,hy12,rfl,rfl⟩,?_⟩
      obtain ⟨e13,he13,h⟩:=zAc h
      refine And.intro (zAA (fun _ => rfl) he13).1 ?_
      intro r14 hr14
      obtain rfl : [.sl 1 ((List.map (irow .i64)) e13)] = r14:=(hr14.trans (zAA (fun _ => rfl) he13).2.1).symm
      obtain ⟨e15,he15,h⟩:=zAc h
      refine And.intro (zAA (fun _ => rfl) he15).1 ?_
      intro r16 hr16
      obtain rfl : [.int .i64 e15] = r16:=(hr16.trans (zAA (fun _ => rfl) he15).2.1).symm
      show Tri _ _ _ _
      refine zAa (by exact tokW) (by exact gok) [] [] rfl ?_
      refine ⟨(k,IntKind.i64.wrap (n4 + e15),IntKind.i64.wrap (i5 + 1)),h,(Le.forget _ ⟨rfl,rfl,rfl,rfl,trivial⟩),Nat.lt_succ_self k⟩
     ·replace h:=zAr hb h
      refine zAK ?_
      cases h
      exact (Le.forget _ ⟨rfl,trivial⟩)
  ·show Tri _ _ _ _
   refine zAk hle ?_
   refine zAb ?_
   refine zAa (by exact tokW) (by exact gok) [] [] rfl ?_
   show Tri _ _ _ _
   refine zAv ?_
   have hy:=Option.some.inj h
   subst hy
   unfold zAQ
   exact ⟨_,Le.refl _ _,rfl,rfl⟩
theorem zLx (n : Nat) (ih_r16_pair : PSound Tryz.prog 69 (zAJ (zEN n))) (ih_r16_table : PSound Tryz.prog 67 (zAJ (zD6 n))) : PSound Tryz.prog 67 (zAJ (zD6 (n + 1))):=by
 have gok : ∀ f s,look? f [(32,zF6),(68,zHB),(69,zAJ (zEN n))] = some s → PSound Tryz.prog f s:=zAE (by
  simp only [List.forall_mem_cons]
  exact ⟨zGL,zJp,ih_r16_pair,by simp⟩)
 refine zAT tokW Tryz.call67 Tryz.func67 rfl (fun xs r h => by obtain ⟨_,_,_,_,rfl,_⟩:=h; show 2 ≤ 144; decide) 144 rfl ?_
 rintro xs r w0 G0 ⟨a,b,y0,h,rfl,rfl⟩ _
 rw [zCq] at h
 obtain ⟨hlen,h⟩:=zAF h
 refine zAb ?_
 refine zAa (by exact tokW) (by exact gok) [] [] rfl ?_
 show Tri _ _ _ _
 refine zAb ?_
 refine zAa (by exact tokW) (by exact gok) [14] [12,13] rfl ?_
 intro n1 hn1
 obtain rfl : (a.length : Int) = n1:=(hn1.trans (congrArg (fun m : Nat => (m : Int)) (rlen Nd.encs_eq a))).symm
 intro n2 hn2
 obtain rfl : ((a.length + 1 : Nat) : Int) = n2:=(hn2.trans (zAM (by omega))).symm
 refine And.intro (show 0 ≤ _ ∧ _ from ⟨by omega,Int.le_refl _,show ((a.length + 1 : Nat) : Int) * ((24 : Nat) : Int) ≤ 281474976710656 by omega,by omega⟩) ?_
 show Tri _ _ _ _
 refine zAb ?_
 refine zAb ?_
 refine zAa (by exact tokW) (by exact gok) [] [16] rfl ?_
 intro n2 hn2
 obtain rfl : ((a.length + 1 : Nat) : Int) = n2:=(hn2.trans (congrArg (fun m : Nat => (m : Int)) (by simp))).symm
 show Tri _ _ _ _
 refine zAp ⟨ofL [(0,.s (.sl 4 (Nd.encs a))),(1,.s (.sl 4 (Nd.encs b))),(5,.orow 0)],zKZ 33 (zDE (a.length + 1)) (ddyn 3 (a.length + 1) (List.replicate (b.length + 1) 0) []),a.length + 2⟩ ?_ (fun σ' hle => ?_)
 ·refine zAn (zAG (X:=Nat) (fun t => ⟨ofL [(0,.s (.sl 4 (Nd.encs a))),(1,.s (.sl 4 (Nd.encs b))),(5,.orow 0),(16,.s (.int .i64 ((a.length + 1 : Nat) : Int))),(17,.s (.int .i64 (t : Int)))],zKZ 33 (zDE t ++ nils (a.length + 1 - t)) (ddyn 3 t (List.replicate (b.length + 1) 0) []),t + 1⟩) (fun t => t ≤ a.length + 1) (fun t => a.length + 1 - t) 0 (Nat.zero_le _) ?_ ?_)
  ·refine Le.trans (Le.toA 0 rfl) (Le.forgetH _ _ 1 ⟨rfl,rfl,rfl,rfl,rfl,trivial⟩ (fun k => ?_) rfl)
   cases k with
   | zero =>
    show some (Ob.arow _ 1 _) = some (Ob.arow _ 1 _)
    refine congrArg some (congrArg (Ob.arow _ 1) ?_)
    exact (zNp (a.length + 1)).trans rfl
   | succ q => show none = ddyn _ 0 _ [] q; simp [ddyn]
  ·intro t ht
   refine zAb ?_
   refine zAa (by exact tokW) (by exact gok) [] [18] rfl ?_
   intro b18 h18
   show Tri _ _ _ _
   refine zAb ?_
   refine zAf rfl (fun hb => ?_) (fun hb => ?_)
   ·refine zAj ?_
    show Tri _ _ _ _
    have htl : t < a.length + 1:=by
     rw [h18] at hb
     have:=of_decide_eq_true hb; omega
    obtain ⟨m,hm⟩ : ∃ m,a.length + 1 - t = m + 1:=⟨a.length - t,by omega⟩
    rw [hm]
    refine zAb ?_
    refine zAn ?_
    refine zAb ?_
    refine zAa (by exact tokW) (by exact gok) [] [] rfl ?_
    show Tri _ _ _ _
    refine zAa (by exact tokW) (by exact gok) [25] [23,24] rfl ?_
    intro n1 hn1
    obtain rfl : (b.length : Int) = n1:=(hn1.trans (congrArg (fun m : Nat => (m : Int)) (rlen Nd.encs_eq b))).symm
    intro n2 hn2
    obtain rfl : ((b.length + 1 : Nat) : Int) = n2:=(hn2.trans (zAM (by omega))).symm
    refine And.intro (show 0 ≤ _ ∧ _ from ⟨by omega,Int.le_refl _,show ((b.length + 1 : Nat) : Int) * ((8 : Nat) : Int) ≤ 281474976710656 by omega,by omega⟩) ?_
    have hlt1 : t < (zDE t ++ nils (m + 1)).length:=by simp [zDE,nils]
    refine And.intro ⟨Int.natCast_nonneg _,Int.ofNat_lt.2 hlt1⟩ ?_
    refine And.intro hlt1 ?_
    show Tri _ _ _ _
    refine zAa (by exact tokW) (by exact gok) [] [] rfl ?_
    refine ⟨t + 1,by omega,Le.forgetH _ _ (t + 2) ⟨rfl,rfl,rfl,rfl,congrArg (fun z => AV.s (.int .i64 z)) (zAM (by omega)),trivial⟩ (fun k => ?_) rfl,by omega⟩
    cases k with
    | zero =>
     show some (Ob.arow _ 1 ((zDE t ++ nils (m + 1)).set t (((zDE t ++ nils (m + 1)).getD t []).take 0 ++ [AV.orow (t + 1)] ++ ((zDE t ++ nils (m + 1)).getD t []).drop 1))) = some (Ob.arow _ 1 _)
     rw [zRP,show ([AV.s (S.sl 1 [])].take 0 ++ [AV.orow (t + 1)] ++ [AV.s (S.sl 1 [])].drop 1) = [AV.orow (t + 1)] from rfl,zRQ,show a.length + 1 - (t + 1) = m by omega]
    | succ q =>
     show (bif Nat.beq (q + 1) (t + 1) then some (Ob.row 3 1 (List.replicate (b.length + 1) [S.int .i64 0])) else ddyn 3 t (List.replicate (b.length + 1) 0) [] q) = ddyn 3 (t + 1) (List.replicate (b.length + 1) 0) [] q
     have hz : List.replicate (b.length + 1) [S.int .i64 0] = (List.replicate (b.length + 1) 0).map (irow .i64):=by simp [irow]
     rw [hz]
     have hd : ∀ q,ddyn 3 t (List.replicate (b.length + 1) 0) [] q = if q < t then some (.row 3 1 ((List.replicate (b.length + 1) 0).map (irow .i64))) else none:=fun q => by simp [ddyn]
     have hd' : ∀ q,ddyn 3 (t + 1) (List.replicate (b.length + 1) 0) [] q = if q < t + 1 then some (.row 3 1 ((List.replicate (b.length + 1) 0).map (irow .i64))) else none:=fun q => by simp [ddyn]
     rw [hd,hd']
     cases e : Nat.beq (q + 1) (t + 1) with
     | true => have:=Nat.eq_of_beq_eq_true e; rw [cond_true,if_pos (by omega)]
     | false =>
      have hne : q ≠ t:=fun e' => by subst e'; rw [Nat.beq_refl] at e; cases e
      rw [cond_false]
      by_cases h2 : q < t
      ·rw [if_pos h2,if_pos (by omega)]
      ·rw [if_neg h2,if_neg (by omega)]
   ·refine zAK ?_
    have htl : t = a.length + 1:=by
     rw [h18] at hb
     have:=of_decide_eq_false hb; omega
    subst htl
    refine Le.forgetH _ _ _ ⟨rfl,rfl,rfl,trivial⟩ (fun k => ?_) rfl
    rw [Nat.sub_self]
    simp [nils]
    rfl
 ·show Tri _ _ _ _
  refine zAk hle ?_
  refine zAb ?_
  refine zAb ?_
  refine zAa (by exact tokW) (by exact gok) [] [29] rfl ?_
  intro n1 hn1
  obtain rfl : (a.length : Int) = n1:=(hn1.trans (congrArg (fun m : Nat => (m : Int)) (rlen Nd.encs_eq a))).symm
  show Tri _ _ _ _
  refine zAp ⟨ofL [(0,.s (.sl 4 (Nd.encs a))),(1,.s (.sl 4 (Nd.encs b))),(5,.orow 0)],zKZ 33 (zDE (a.length + 1)) (ddyn 3 0 (List.replicate (b.length + 1) 0) y0),a.length + 2⟩ ?_ (fun σ' hle => ?_)
  ·refine zAn (zAG (X:=Nat × List (List Int)) (fun y => match y with | (k,L) => ⟨ofL [(0,.s (.sl 4 (Nd.encs a))),(1,.s (.sl 4 (Nd.encs b))),(5,.orow 0),(7,.s (.int .i64 ((k : Int) - 1)))],zKZ 33 (zDE (a.length + 1)) (ddyn 3 k (List.replicate (b.length + 1) 0) L),a.length + 2⟩)
    (fun y => match y with | (k,L) => (k = a.length + 1 ∧ L = []) ∨ (k ≤ a.length ∧ zAP (zBo n) zC8 (zCe n) b (a.drop k) = some L)) (fun y => y.1) (a.length + 1,[]) (.inl ⟨rfl,rfl⟩) ?_ ?_)
   ·exact Le.forgetH _ _ _ ⟨rfl,rfl,rfl,congrArg (fun z => AV.s (.int .i64 z)) (by omega),trivial⟩ (fun k => rfl) rfl
   ·rintro ⟨k,L⟩ hI
    refine zAb ?_
    refine zAb ?_
    refine zAa (by exact tokW) (by exact gok) [] [31] rfl ?_
    intro b31 h31
    show Tri _ _ _ _
    refine zAf rfl (fun hb => ?_) (fun hb => ?_)
    ·refine zAj ?_
     show Tri _ _ _ _
     have hk : 1 ≤ k:=by
      rw [h31] at hb
      have:=of_decide_eq_true hb; omega
     obtain ⟨i,rfl⟩ : ∃ i,k = i + 1:=⟨k - 1,by omega⟩
     refine zAk (Le.forgetH [(0,.s (.sl 4 (Nd.encs a))),(1,.s (.sl 4 (Nd.encs b))),(5,.orow 0),(7,.s (.int .i64 (i : Int)))] (zKZ 33 (zDE (a.length + 1)) (ddyn 3 i (List.replicate (b.length + 1) 0) ((List.replicate (b.length + 1) 0) :: L))) (a.length + 2) ⟨rfl,rfl,rfl,congrArg (fun z => AV.s (.int .i64 z)) (by omega),trivial⟩ (fun k => by cases k with | zero => rfl | succ q => exact zRp q) rfl) ?_
     have hin1 : i < a.length + 1:=by rcases hI with h | h <;> omega
     have hltk : i < (zDE (a.length + 1)).length:=by rw [zKG]; exact hin1
     have hgk : (zDE (a.length + 1)).getD i [] = [.orow (i + 1)]:=zOA hin1
     refine zAb ?_
     refine zAn ?_
     refine zAb ?_
     refine zAa (by exact tokW) (by exact gok) [] [35] rfl ?_
     intro n1 hn1
     obtain rfl : (b.length : Int) = n1:=(hn1.trans (congrArg (fun m : Nat => (m : Int)) (rlen Nd.encs_eq b))).symm
     show Tri _ _ _ _
     rcases hI with ⟨hin,rfl⟩ | ⟨hin,hrows⟩
     ·obtain rfl : i = a.length:=by omega
      obtain ⟨rl,hrl⟩:=zQy h
      refine zAp ⟨ofL [(0,.s (.sl 4 (Nd.encs a))),(1,.s (.sl 4 (Nd.encs b))),(5,.orow 0),(7,.s (.int .i64 (a.length : Int)))],zKZ 33 (zDE (a.length + 1)) (ddyn 3 a.length (List.replicate (b.length + 1) 0) [rl]),a.length + 2⟩ ?_ (fun σ' hle => ?_)
      ·refine zAn (zAG (X:=Nat × List Int) (fun y => match y with | (k,rd) => ⟨ofL [(0,.s (.sl 4 (Nd.encs a))),(1,.s (.sl 4 (Nd.encs b))),(5,.orow 0),(7,.s (.int .i64 (a.length : Int))),(8,.s (.int .i64 ((k : Int) - 1)))],zKZ 33 (zDE (a.length + 1)) (ddyn 3 a.length (List.replicate (b.length + 1) 0) [List.replicate k 0 ++ rd]),a.length + 2⟩)
        (fun y => match y with | (k,rd) => (k = b.length + 1 ∧ rd = []) ∨ (k ≤ b.length ∧ zAY (zBo n) (b.drop k) = some rd)) (fun y => y.1) (b.length + 1,[]) (.inl ⟨rfl,rfl⟩) ?_ ?_)
       ·refine Le.forgetH _ _ _ ⟨rfl,rfl,rfl,rfl,congrArg (fun z => AV.s (.int .i64 z)) (by omega),trivial⟩ (fun k => ?_) rfl
        rw [List.append_nil]; rfl
       ·rintro ⟨k,rd⟩ hI
        refine zAb ?_
        refine zAb ?_
        refine zAa (by exact tokW) (by exact gok) [] [37] rfl ?_
        intro b37 h37
        show Tri _ _ _ _
        refine zAf rfl (fun hb => ?_) (fun hb => ?_)
        ·refine zAj ?_
         show Tri _ _ _ _
         have hk : 1 ≤ k:=by
          rw [h37] at hb
          have:=of_decide_eq_true hb; omega
         obtain ⟨j,rfl⟩ : ∃ j,k = j + 1:=⟨k - 1,by omega⟩
         refine zAk (Le.forget [(0,.s (.sl 4 (Nd.encs a))),(1,.s (.sl 4 (Nd.encs b))),(5,.orow 0),(7,.s (.int .i64 (a.length : Int))),(8,.s (.int .i64 (j : Int)))] ⟨rfl,rfl,rfl,rfl,congrArg (fun z => AV.s (.int .i64 z)) (by omega),trivial⟩) ?_
         have wj : IntKind.i64.wrap ((j : Int) - 1) = (j : Int) - 1:=wrap64_in (by omega) (by rcases hI with h | h <;> omega)
         refine zAb ?_
         refine zAn ?_
         refine zAb ?_
         refine zAb ?_
         refine zAa (by exact tokW) (by exact gok) [] [42,43,47] rfl ?_
         intro n1 hn1
         obtain rfl : (a.length : Int) = n1:=(hn1.trans (congrArg (fun m : Nat => (m : Int)) (rlen Nd.encs_eq a))).symm
         intro b1 hb1
         obtain rfl : true = b1:=(hb1.trans (beq_self_eq_true _)).symm
         intro n1 hn1
         obtain rfl : (b.length : Int) = n1:=(hn1.trans (congrArg (fun m : Nat => (m : Int)) (rlen Nd.encs_eq b))).symm
         show Tri _ _ _ _
         refine zAf rfl (fun hb2 => ?_) (fun hb2 => ?_)
         ·refine zAK ?_
          show Tri _ _ _ _
          refine zAa (by exact tokW) (by exact gok) [] [] rfl ?_
          have hj : j = b.length:=Int.ofNat.inj (eq_of_beq hb2)
          refine ⟨(j,[0]),.inr ⟨by omega,by rw [hj,List.drop_length]; rfl⟩,Le.forgetH _ _ _ ⟨rfl,rfl,rfl,rfl,congrArg (fun z => AV.s (.int .i64 z)) wj,trivial⟩ (fun k => ?_) rfl,Nat.lt_succ_self j⟩
          rcases hI with ⟨_,rfl⟩ | ⟨h,_⟩
          ·cases k with
           | zero => rfl
           | succ q =>
            show ddyn 3 a.length (List.replicate (b.length + 1) 0) [List.replicate (j + 1) 0 ++ []] q = ddyn 3 a.length (List.replicate (b.length + 1) 0) [List.replicate j 0 ++ [0]] q
            rw [show List.replicate (j + 1) (0 : Int) ++ [] = List.replicate j 0 ++ [0] by rw [List.append_nil,List.replicate_succ']]
          ·omega
         ·have hj : j ≠ b.length:=fun e => by rw [e] at hb2; simp at hb2
          obtain ⟨hj2,hd⟩ : j + 1 ≤ b.length ∧ zAY (zBo n) (b.drop (j + 1)) = some rd:=by
           rcases hI with ⟨h,_⟩ | h
           ·omega
           ·exact h
          obtain ⟨q,hq⟩:=zMi hrl j (by omega)
          have hqq:=hq
          have hy : b[j]? = some (b[j]'(by omega)):=List.getElem?_eq_getElem _
          rw [List.drop_eq_getElem_cons (show j < b.length by omega)] at hq
          generalize b[j]'(by omega) = y at hy hq
          obtain ⟨yk,yt,yc,yks⟩:=y
          simp only [zAY,hd] at hq
          obtain ⟨p0,hp0,hq⟩:=zAc hq
          cases hp0
          obtain ⟨c,hc,hq⟩:=zAc hq
          have hrdl:=zOZ hd
          cases rd with
          | nil => simp at hrdl
          | cons w ws =>
          simp only [List.headD_cons,Option.some.injEq] at hq
          refine zAj ?_
          show Tri _ _ _ _
          refine zAb ?_
          refine zAa (by exact tokW) (by exact gok) [] [] rfl ?_
          show Tri _ _ _ _
          refine zAb ?_
          refine zAb ?_
          refine zAa (by exact tokW) (by exact gok) [] [52,53] rfl ?_
          intro n1 hn1
          obtain rfl : (a.length : Int) = n1:=(hn1.trans (congrArg (fun m : Nat => (m : Int)) (rlen Nd.encs_eq a))).symm
          intro b1 hb1
          obtain rfl : false = b1:=(hb1.trans (decide_eq_false (Int.lt_irrefl _))).symm
          show Tri _ _ _ _
          refine zAf rfl (fun h => by cases h) (fun _ => ?_)
          refine zAj ?_
          show Tri _ _ _ _
          refine zAb ?_
          refine zAb ?_
          refine zAa (by exact tokW) (by exact gok) [] [70,71] rfl ?_
          intro n1 hn1
          obtain rfl : (b.length : Int) = n1:=(hn1.trans (congrArg (fun m : Nat => (m : Int)) (rlen Nd.encs_eq b))).symm
          intro b1 hb1
          obtain rfl : true = b1:=(hb1.trans (decide_eq_true (by omega))).symm
          show Tri _ _ _ _
          refine zAf rfl (fun _ => ?_) (fun h => by cases h)
          have g4 : (List.replicate (j + 1) 0 ++ w :: ws)[j + 1]? = some w:=by simp [List.getElem?_append]
          have hlt4 : j + 1 < (List.map (irow .i64) (List.replicate (j + 1) 0 ++ w :: ws)).length:=by simp
          have hlt4' : j < (List.map (irow .i64) (List.replicate (j + 1) 0 ++ w :: ws)).length:=by simp; omega
          refine zAb ?_
          refine zAD (by exact tokW) (by exact gok) (by exact mixed) [] [74,82] [7,8,11,12] rfl (by decide +kernel) ?_
          refine And.intro ⟨Int.natCast_nonneg _,Int.ofNat_lt.2 (by rw [rlen Nd.encs_eq]; omega)⟩ ?_
          intro r hr
          obtain rfl : [.int .i64 yk,.str yt,.int .i64 yc,.sl 4 (Nd.encs yks)] = r:=(hr.trans (zEH hy)).symm
          refine ⟨_,⟨_,_,_,hc,rfl,rfl⟩,?_⟩
          refine And.intro ⟨Int.natCast_nonneg _,Int.ofNat_lt.2 hltk⟩ ?_
          refine And.intro hltk ⟨_,hgk,?_⟩
          intro z hz
          obtain rfl : ((j + 1 : Nat) : Int) = z:=(hz.trans (zAM (by omega))).symm
          refine zJO rfl rfl rfl rfl rfl (zKW rfl rfl rfl rfl rfl rfl zCZ rfl) ⟨Int.natCast_nonneg _,Int.ofNat_lt.2 hlt4⟩ ?_
          refine zP1 rfl rfl rfl rfl rfl rfl zCZ hlt4 (zIi g4) ?_
          show Tri _ _ _ _
          refine zAb ?_
          refine zAa (by exact tokW) (by exact gok) [] [87] rfl ?_
          intro b1 hb1
          obtain rfl : true = b1:=(hb1.trans (by decide)).symm
          show Tri _ _ _ _
          refine zAf rfl (fun _ => ?_) (fun h => by cases h)
          refine zAa (by exact tokW) (by exact gok) [] [] rfl ?_
          show Tri _ _ _ _
          refine zAb ?_
          refine zAb ?_
          refine zAD (by exact tokW) (by exact gok) (by exact mixed) [] [96,97] [] rfl (by decide +kernel) ?_
          intro n1 hn1
          obtain rfl : (a.length : Int) = n1:=(hn1.trans (congrArg (fun m : Nat => (m : Int)) (rlen Nd.encs_eq a))).symm
          intro b1 hb1
          obtain rfl : false = b1:=(hb1.trans (decide_eq_false (Int.lt_irrefl _))).symm
          show Tri _ _ _ _
          refine zAf rfl (fun h => by cases h) (fun _ => ?_)
          refine zAj ?_
          show Tri _ _ _ _
          refine zAa (by exact tokW) (by exact gok) [] [141] rfl ?_
          refine And.intro ⟨Int.natCast_nonneg _,Int.ofNat_lt.2 hltk⟩ ?_
          refine And.intro hltk ⟨_,hgk,?_⟩
          intro z9 hz9
          subst hz9
          refine zAx rfl rfl rfl rfl rfl (zKW rfl rfl rfl rfl rfl rfl zCZ rfl) ⟨Int.natCast_nonneg _,Int.ofNat_lt.2 hlt4'⟩ ?_
          refine zD9 rfl rfl rfl (zNh rfl rfl rfl rfl zCZ rfl rfl rfl) hlt4' ?_
          show Tri _ _ _ _
          refine zAa (by exact tokW) (by exact gok) [] [] rfl ?_
          refine ⟨(j,(IntKind.i64.wrap (c + w) :: w :: ws)),.inr ⟨by omega,by rw [hqq,← hq]⟩,Le.forgetH _ _ _ ⟨rfl,rfl,rfl,rfl,congrArg (fun z => AV.s (.int .i64 z)) wj,trivial⟩ (fun k => ?_) rfl,Nat.lt_succ_self j⟩
          cases k with
          | zero => rfl
          | succ q =>
           show (bif Nat.beq (q + 1) (a.length + 1) then some (Ob.row 3 1 (((List.replicate (j + 1) 0 ++ w :: ws).map (irow .i64)).set j ((((List.replicate (j + 1) 0 ++ w :: ws).map (irow .i64)).getD j []).take 0 ++ [S.int .i64 (IntKind.i64.wrap (c + w))] ++ (((List.replicate (j + 1) 0 ++ w :: ws).map (irow .i64)).getD j []).drop (0 + 1)))) else ddyn 3 a.length (List.replicate (b.length + 1) 0) ((List.replicate (j + 1) 0 ++ w :: ws) :: []) q) = ddyn 3 a.length (List.replicate (b.length + 1) 0) ((List.replicate j 0 ++ (IntKind.i64.wrap (c + w) :: w :: ws)) :: []) q
           rw [zHS (l:=List.replicate (j + 1) 0 ++ w :: ws) (j:=j) (v:=0) (x:=IntKind.i64.wrap (c + w)) (by simp [List.getElem?_append]),zGi]
           exact zMG q
        ·refine zAK ?_
         have hk : k = 0:=by
          rw [h37] at hb
          have:=of_decide_eq_false hb; omega
         subst hk
         rcases hI with ⟨h1,_⟩ | ⟨_,h1⟩
         ·omega
         ·rw [List.drop_zero,hrl] at h1
          cases h1
          exact Le.forgetH _ _ _ ⟨rfl,rfl,rfl,rfl,trivial⟩ (fun k => rfl) rfl
      ·show Tri _ _ _ _
       refine zAk hle ?_
       refine zAa (by exact tokW) (by exact gok) [] [] rfl ?_
       refine ⟨(a.length,[rl]),.inr ⟨Nat.le_refl _,by rw [List.drop_length]; simp [zAP,hrl]⟩,Le.forgetH _ _ _ ⟨rfl,rfl,rfl,congrArg (fun z => AV.s (.int .i64 z)) (wrap64_in (by omega) (by omega)),trivial⟩ (fun k => rfl) rfl,Nat.lt_succ_self _⟩
     ·obtain ⟨q,hq⟩:=zMk h i (by omega)
      have ha : a[i]? = some (a[i]'(by omega)):=List.getElem?_eq_getElem _
      have hq0:=hq
      rw [List.drop_eq_getElem_cons (show i < a.length by omega)] at hq
      generalize a[i]'(by omega) = x at ha hq
      simp only [zAP,hrows] at hq
      obtain ⟨p0,hp0,hq⟩:=zAc hq
      cases hp0
      obtain ⟨cx,hcx,hq⟩:=zAc hq
      cases L with
      | nil => cases hq
      | cons r1 L =>
      dsimp only at hq
      obtain ⟨rr,hrow,hq⟩:=zAc hq
      simp only [Option.some.injEq] at hq
      subst hq
      have hrl:=zNr hrow
      have hlt2k : i + 1 < (zDE (a.length + 1)).length:=by rw [zKG]; omega
      have hgk2 : (zDE (a.length + 1)).getD (i + 1) [] = [.orow (i + 2)]:=zOA (by omega)
      have hne : ((i : Int) == (a.length : Int)) = false:=by
       cases e : ((i : Int) == (a.length : Int)) with
       | false => rfl
       | true => have:=eq_of_beq e; omega
      refine zAp ⟨ofL [(0,.s (.sl 4 (Nd.encs a))),(1,.s (.sl 4 (Nd.encs b))),(5,.orow 0),(7,.s (.int .i64 (i : Int)))],zKZ 33 (zDE (a.length + 1)) (ddyn 3 i (List.replicate (b.length + 1) 0) (rr :: r1 :: L)),a.length + 2⟩ ?_ (fun σ' hle => ?_)
      ·obtain ⟨xk,xt,xc,xks⟩:=x
       refine zAn (zAG (X:=Nat × List Int) (fun y => match y with | (k,rd) => ⟨ofL [(0,.s (.sl 4 (Nd.encs a))),(1,.s (.sl 4 (Nd.encs b))),(5,.orow 0),(7,.s (.int .i64 (i : Int))),(8,.s (.int .i64 ((k : Int) - 1)))],zKZ 33 (zDE (a.length + 1)) (ddyn 3 i (List.replicate (b.length + 1) 0) ((List.replicate k 0 ++ rd) :: r1 :: L)),a.length + 2⟩)
        (fun y => match y with | (k,rd) => (k = b.length + 1 ∧ rd = []) ∨ (k ≤ b.length ∧ zAN (zBo n) zC8 (zCe n) ⟨xk,xt,xc,xks⟩ cx (b.drop k) (r1.drop k) = some rd)) (fun y => y.1) (b.length + 1,[]) (.inl ⟨rfl,rfl⟩) ?_ ?_)
       ·refine Le.forgetH _ _ _ ⟨rfl,rfl,rfl,rfl,congrArg (fun z => AV.s (.int .i64 z)) (by omega),trivial⟩ (fun k => ?_) rfl
        rw [List.append_nil]; rfl
       ·rintro ⟨k,rd⟩ hI
        refine zAb ?_
        refine zAb ?_
        refine zAa (by exact tokW) (by exact gok) [] [37] rfl ?_
        intro b37 h37
        show Tri _ _ _ _
        refine zAf rfl (fun hb => ?_) (fun hb => ?_)
        ·refine zAj ?_
         show Tri _ _ _ _
         have hk : 1 ≤ k:=by
          rw [h37] at hb
          have:=of_decide_eq_true hb; omega
         obtain ⟨j,rfl⟩ : ∃ j,k = j + 1:=⟨k - 1,by omega⟩
         refine zAk (Le.forget [(0,.s (.sl 4 (Nd.encs a))),(1,.s (.sl 4 (Nd.encs b))),(5,.orow 0),(7,.s (.int .i64 (i : Int))),(8,.s (.int .i64 (j : Int)))] ⟨rfl,rfl,rfl,rfl,congrArg (fun z => AV.s (.int .i64 z)) (by omega),trivial⟩) ?_
         have wj : IntKind.i64.wrap ((j : Int) - 1) = (j : Int) - 1:=wrap64_in (by omega) (by rcases hI with h | h <;> omega)
         refine zAb ?_
         refine zAn ?_
         refine zAb ?_
         refine zAb ?_
         refine zAa (by exact tokW) (by exact gok) [] [42,43] rfl ?_
         intro n1 hn1
         obtain rfl : (a.length : Int) = n1:=(hn1.trans (congrArg (fun m : Nat => (m : Int)) (rlen Nd.encs_eq a))).symm
         intro b1 hb1
         obtain rfl : false = b1:=(hb1.trans hne).symm
         show Tri _ _ _ _
         refine zAf rfl (fun hb2 => by cases hb2) (fun _ => ?_)
         refine zAj ?_
         show Tri _ _ _ _
         have hjb : j ≤ b.length:=by rcases hI with h | h <;> omega
         obtain ⟨q,hq⟩:=zO0 hrow j hjb
         have hqq:=hq
         have hv : r1[j]? = some (r1[j]'(by omega)):=List.getElem?_eq_getElem _
         rw [List.drop_eq_getElem_cons (show j < r1.length by omega)] at hq
         generalize r1[j]'(by omega) = v at hv hq
         have hltr : j < (List.map (irow .i64) r1).length:=by simp; omega
         have hlt4 : ∀ l : List Int,j < (List.map (irow .i64) (List.replicate (j + 1) 0 ++ l)).length:=fun l => by simp; omega
         refine zAb ?_
         refine zAa (by exact tokW) (by exact gok) [] [] rfl ?_
         show Tri _ _ _ _
         refine zAb ?_
         refine zAb ?_
         refine zAa (by exact tokW) (by exact gok) [] [52,53] rfl ?_
         intro n1 hn1
         obtain rfl : (a.length : Int) = n1:=(hn1.trans (congrArg (fun m : Nat => (m : Int)) (rlen Nd.encs_eq a))).symm
         intro b1 hb1
         obtain rfl : true = b1:=(hb1.trans (decide_eq_true (by omega))).symm
         show Tri _ _ _ _
         refine zAf rfl (fun _ => ?_) (fun h => by cases h)
         refine zAD (by exact tokW) (by exact gok) (by exact mixed) [] [56,61,64] [8,9,11,12] rfl (by decide +kernel) ?_
         refine And.intro ⟨Int.natCast_nonneg _,Int.ofNat_lt.2 (by rw [rlen Nd.encs_eq]; omega)⟩ ?_
         intro r hr
         obtain rfl : [.int .i64 xk,.str xt,.int .i64 xc,.sl 4 (Nd.encs xks)] = r:=(hr.trans (zEH ha)).symm
         refine ⟨_,⟨_,_,_,hcx,rfl,rfl⟩,?_⟩
         intro z hz
         obtain rfl : ((i + 1 : Nat) : Int) = z:=(hz.trans (zAM (by omega))).symm
         refine And.intro ⟨Int.natCast_nonneg _,Int.ofNat_lt.2 hlt2k⟩ ?_
         refine And.intro hlt2k ⟨_,hgk2,?_⟩
         intro z9 hz9
         subst hz9
         refine zJO rfl rfl rfl rfl rfl (zKW rfl rfl rfl rfl rfl rfl zId rfl) ⟨Int.natCast_nonneg _,Int.ofNat_lt.2 hltr⟩ ?_
         refine zP1 rfl rfl rfl rfl rfl rfl zId hltr (zIi hv) ?_
         show Tri _ _ _ _
         refine zAb ?_
         rcases hI with ⟨hj,rfl⟩ | ⟨hj,hd⟩
         ·obtain rfl : j = b.length:=by omega
          rw [List.drop_length,List.drop_eq_nil_of_le (show r1.length ≤ b.length + 1 by omega)] at hq
          simp only [zAN,Option.some.injEq] at hq
          refine zAb ?_
          refine zAa (by exact tokW) (by exact gok) [] [70,71] rfl ?_
          intro n1 hn1
          obtain rfl : (b.length : Int) = n1:=(hn1.trans (congrArg (fun m : Nat => (m : Int)) (rlen Nd.encs_eq b))).symm
          intro b1 hb1
          obtain rfl : false = b1:=(hb1.trans (decide_eq_false (by omega))).symm
          show Tri _ _ _ _
          refine zAf rfl (fun h => by cases h) (fun _ => ?_)
          refine zAj ?_
          show Tri _ _ _ _
          refine zAb ?_
          refine zAb ?_
          refine zAD (by exact tokW) (by exact gok) (by exact mixed) [] [96,97,101,102] [] rfl (by decide +kernel) ?_
          intro n1 hn1
          obtain rfl : (a.length : Int) = n1:=(hn1.trans (congrArg (fun m : Nat => (m : Int)) (rlen Nd.encs_eq a))).symm
          intro b1 hb1
          obtain rfl : true = b1:=(hb1.trans (decide_eq_true (by omega))).symm
          intro n1 hn1
          obtain rfl : (b.length : Int) = n1:=(hn1.trans (congrArg (fun m : Nat => (m : Int)) (rlen Nd.encs_eq b))).symm
          intro b1 hb1
          obtain rfl : false = b1:=(hb1.trans (decide_eq_false (by omega))).symm
          show Tri _ _ _ _
          refine zAf rfl (fun h => by cases h) (fun _ => ?_)
          refine zAj ?_
          show Tri _ _ _ _
          have hlt4':=hlt4 []
          refine zAa (by exact tokW) (by exact gok) [] [141] rfl ?_
          refine And.intro ⟨Int.natCast_nonneg _,Int.ofNat_lt.2 hltk⟩ ?_
          refine And.intro hltk ⟨_,hgk,?_⟩
          intro z9 hz9
          subst hz9
          refine zAx rfl rfl rfl rfl rfl (zKW rfl rfl rfl rfl rfl rfl zCZ rfl) ⟨Int.natCast_nonneg _,Int.ofNat_lt.2 hlt4'⟩ ?_
          refine zD9 rfl rfl rfl (zNh rfl rfl rfl rfl zCZ rfl rfl rfl) hlt4' ?_
          show Tri _ _ _ _
          refine zAa (by exact tokW) (by exact gok) [] [] rfl ?_
          refine ⟨(b.length,[(IntKind.i64.wrap (cx + v))]),.inr ⟨by omega,by rw [hqq,← hq]⟩,Le.forgetH _ _ _ ⟨rfl,rfl,rfl,rfl,congrArg (fun z => AV.s (.int .i64 z)) wj,trivial⟩ (fun k => ?_) rfl,Nat.lt_succ_self b.length⟩
          cases k with
          | zero => rfl
          | succ q =>
           show (bif Nat.beq (q + 1) (i + 1) then some (Ob.row 3 1 (((List.replicate (b.length + 1) (0 : Int) ++ []).map (irow .i64)).set b.length ((((List.replicate (b.length + 1) (0 : Int) ++ []).map (irow .i64)).getD b.length []).take 0 ++ [S.int .i64 ((IntKind.i64.wrap (cx + v)))] ++ (((List.replicate (b.length + 1) (0 : Int) ++ []).map (irow .i64)).getD b.length []).drop (0 + 1)))) else ddyn 3 i (List.replicate (b.length + 1) 0) ((List.replicate (b.length + 1) (0 : Int) ++ []) :: (r1 :: L)) q) = ddyn 3 i (List.replicate (b.length + 1) 0) ((List.replicate b.length 0 ++ [(IntKind.i64.wrap (cx + v))]) :: (r1 :: L)) q
           rw [zHS (l:=List.replicate (b.length + 1) (0 : Int) ++ []) (j:=b.length) (v:=0) (x:=(IntKind.i64.wrap (cx + v))) (by simp [List.getElem?_append]),zGi]
           exact zMG q
         ·have hy : b[j]? = some (b[j]'(by omega)):=List.getElem?_eq_getElem _
          rw [List.drop_eq_getElem_cons (show j < b.length by omega)] at hq
          generalize b[j]'(by omega) = y at hy hq
          obtain ⟨yk,yt,yc,yks⟩:=y
          have hv2 : r1[j + 1]? = some (r1[j + 1]'(by omega)):=List.getElem?_eq_getElem _
          have hdr:=List.drop_eq_getElem_cons (show j + 1 < r1.length by omega)
          rw [hdr] at hq
          simp only [zAN] at hq
          rw [← hdr] at hq
          generalize r1[j + 1]'(by omega) = v2 at hv2 hq
          rw [hd] at hq
          obtain ⟨p0,hp0,hq⟩:=zAc hq
          cases hp0
          obtain ⟨c,hc,hq⟩:=zAc hq
          obtain ⟨al,hal,hq⟩:=zAc hq
          have hrdl:=(zNr hd).2
          cases rd with
          | nil => simp at hrdl
          | cons w ws =>
          simp only [List.headD_cons] at hq
          have hltr2 : j + 1 < (List.map (irow .i64) r1).length:=by simp; omega
          have g4 : (List.replicate (j + 1) 0 ++ w :: ws)[j + 1]? = some w:=by simp [List.getElem?_append]
          have hlt5 : j + 1 < (List.map (irow .i64) (List.replicate (j + 1) 0 ++ w :: ws)).length:=by simp
          have hlt4':=hlt4 (w :: ws)
          refine zAp ⟨ofL [(0,.s (.sl 4 (Nd.encs a))),(1,.s (.sl 4 (Nd.encs b))),(5,.orow 0),(7,.s (.int .i64 (i : Int))),(8,.s (.int .i64 (j : Int))),(9,.s (.int .i64 ((bif (decide ((IntKind.i64.wrap (cx + v)) < 0) || decide ((IntKind.i64.wrap (c + w)) < (IntKind.i64.wrap (cx + v)))) then (IntKind.i64.wrap (c + w)) else (IntKind.i64.wrap (cx + v))))))],zKZ 33 (zDE (a.length + 1)) (ddyn 3 i (List.replicate (b.length + 1) 0) ((List.replicate (j + 1) 0 ++ w :: ws) :: r1 :: L)),a.length + 2⟩ ?_ (fun σ' hle => ?_)
          ·refine zAb ?_
           refine zAa (by exact tokW) (by exact gok) [] [70,71] rfl ?_
           intro n1 hn1
           obtain rfl : (b.length : Int) = n1:=(hn1.trans (congrArg (fun m : Nat => (m : Int)) (rlen Nd.encs_eq b))).symm
           intro b1 hb1
           obtain rfl : true = b1:=(hb1.trans (decide_eq_true (by omega))).symm
           show Tri _ _ _ _
           refine zAf rfl (fun _ => ?_) (fun h => by cases h)
           refine zAb ?_
           refine zAD (by exact tokW) (by exact gok) (by exact mixed) [] [74,82] [7,8,11,12] rfl (by decide +kernel) ?_
           refine And.intro ⟨Int.natCast_nonneg _,Int.ofNat_lt.2 (by rw [rlen Nd.encs_eq]; omega)⟩ ?_
           intro r hr
           obtain rfl : [.int .i64 yk,.str yt,.int .i64 yc,.sl 4 (Nd.encs yks)] = r:=(hr.trans (zEH hy)).symm
           refine ⟨_,⟨_,_,_,hc,rfl,rfl⟩,?_⟩
           refine And.intro ⟨Int.natCast_nonneg _,Int.ofNat_lt.2 hltk⟩ ?_
           refine And.intro hltk ⟨_,hgk,?_⟩
           intro z hz
           obtain rfl : ((j + 1 : Nat) : Int) = z:=(hz.trans (zAM (by omega))).symm
           refine zJO rfl rfl rfl rfl rfl (zKW rfl rfl rfl rfl rfl rfl zCZ rfl) ⟨Int.natCast_nonneg _,Int.ofNat_lt.2 hlt5⟩ ?_
           refine zP1 rfl rfl rfl rfl rfl rfl zCZ hlt5 (zIi g4) ?_
           show Tri _ _ _ _
           refine zAb ?_
           refine zAa (by exact tokW) (by exact gok) [] [87,91] rfl ?_
           intro b1 hb1
           subst hb1
           cases e1 : decide ((IntKind.i64.wrap (cx + v)) < 0) with
           | true =>
            show Tri _ _ _ _
            refine zAf rfl (fun _ => ?_) (fun h => by cases h)
            refine zAa (by exact tokW) (by exact gok) [] [] rfl ?_
            exact Le.forgetH _ _ _ ⟨rfl,rfl,rfl,rfl,rfl,rfl,trivial⟩ (fun k => rfl) rfl
           | false =>
            intro b2 hb2
            subst hb2
            cases e2 : decide ((IntKind.i64.wrap (c + w)) < (IntKind.i64.wrap (cx + v))) with
            | true =>
             show Tri _ _ _ _
             refine zAf rfl (fun _ => ?_) (fun h => by cases h)
             refine zAa (by exact tokW) (by exact gok) [] [] rfl ?_
             exact Le.forgetH _ _ _ ⟨rfl,rfl,rfl,rfl,rfl,rfl,trivial⟩ (fun k => rfl) rfl
            | false =>
             show Tri _ _ _ _
             refine zAf rfl (fun h => by cases h) (fun _ => ?_)
             refine zAj ?_
             exact Le.forgetH _ _ _ ⟨rfl,rfl,rfl,rfl,rfl,rfl,trivial⟩ (fun k => rfl) rfl
          ·show Tri _ _ _ _
           obtain ⟨l1,hl1⟩ : ∃ l1,(bif (decide ((IntKind.i64.wrap (cx + v)) < 0) || decide ((IntKind.i64.wrap (c + w)) < (IntKind.i64.wrap (cx + v)))) then (IntKind.i64.wrap (c + w)) else (IntKind.i64.wrap (cx + v))) = l1:=⟨_,rfl⟩
           rw [hl1] at hle
           refine zAk hle ?_
           replace hq : (bif al then ((zCe n ⟨xk,xt,xc,xks⟩ ⟨yk,yt,yc,yks⟩).bind fun p => some ((if IntKind.i64.wrap (p + v2) < l1 then IntKind.i64.wrap (p + v2) else l1) :: w :: ws)) else some (l1 :: w :: ws)) = some q:=by
            rw [← hl1]; exact hq
           refine zAb ?_
           have hq2 : ∃ l2,q = l2 :: w :: ws ∧ (bif al then (∃ p,zCe n ⟨xk,xt,xc,xks⟩ ⟨yk,yt,yc,yks⟩ = some p ∧ l2 = (if IntKind.i64.wrap (p + v2) < l1 then IntKind.i64.wrap (p + v2) else l1)) else l2 = l1):=by
            cases al with
            | true =>
             obtain ⟨p,hp,hq⟩:=zAc hq
             cases hq
             exact ⟨_,rfl,show ∃ p,_ ∧ _ from ⟨p,hp,rfl⟩⟩
            | false => cases hq; exact ⟨_,rfl,show _ = _ from rfl⟩
           obtain ⟨l2,rfl,hl2⟩:=hq2
           refine zAp ⟨ofL [(0,.s (.sl 4 (Nd.encs a))),(1,.s (.sl 4 (Nd.encs b))),(5,.orow 0),(7,.s (.int .i64 (i : Int))),(8,.s (.int .i64 (j : Int))),(9,.s (.int .i64 (l2)))],zKZ 33 (zDE (a.length + 1)) (ddyn 3 i (List.replicate (b.length + 1) 0) ((List.replicate (j + 1) 0 ++ w :: ws) :: r1 :: L)),a.length + 2⟩ ?_ (fun σ' hle => ?_)
           ·refine zAb ?_
            refine zAD (by exact tokW) (by exact gok) (by exact mixed) [] [96,97,101,102,107,111] [] rfl (by decide +kernel) ?_
            intro n1 hn1
            obtain rfl : (a.length : Int) = n1:=(hn1.trans (congrArg (fun m : Nat => (m : Int)) (rlen Nd.encs_eq a))).symm
            intro b1 hb1
            obtain rfl : true = b1:=(hb1.trans (decide_eq_true (by omega))).symm
            intro n1 hn1
            obtain rfl : (b.length : Int) = n1:=(hn1.trans (congrArg (fun m : Nat => (m : Int)) (rlen Nd.encs_eq b))).symm
            intro b1 hb1
            obtain rfl : true = b1:=(hb1.trans (decide_eq_true (by omega))).symm
            refine And.intro ⟨Int.natCast_nonneg _,Int.ofNat_lt.2 (by rw [rlen Nd.encs_eq]; omega)⟩ ?_
            intro r hr
            obtain rfl : [.int .i64 xk,.str xt,.int .i64 xc,.sl 4 (Nd.encs xks)] = r:=(hr.trans (zEH ha)).symm
            refine And.intro ⟨Int.natCast_nonneg _,Int.ofNat_lt.2 (by rw [rlen Nd.encs_eq]; omega)⟩ ?_
            intro r hr
            obtain rfl : [.int .i64 yk,.str yt,.int .i64 yc,.sl 4 (Nd.encs yks)] = r:=(hr.trans (zEH hy)).symm
            refine ⟨_,⟨_,_,_,hal,rfl,rfl⟩,?_⟩
            show Tri _ _ _ _
            refine zAf rfl (fun hb => ?_) (fun hb => ?_)
            ·rw [hb] at hl2
             obtain ⟨p,hp,rfl⟩:=hl2
             refine zAD (by exact tokW) (by exact gok) (by exact mixed) [] [118,122,127,131] [13,14,17,18] rfl (by decide +kernel) ?_
             refine And.intro ⟨Int.natCast_nonneg _,Int.ofNat_lt.2 (by rw [rlen Nd.encs_eq]; omega)⟩ ?_
             intro r hr
             obtain rfl : [.int .i64 xk,.str xt,.int .i64 xc,.sl 4 (Nd.encs xks)] = r:=(hr.trans (zEH ha)).symm
             refine And.intro ⟨Int.natCast_nonneg _,Int.ofNat_lt.2 (by rw [rlen Nd.encs_eq]; omega)⟩ ?_
             intro r hr
             obtain rfl : [.int .i64 yk,.str yt,.int .i64 yc,.sl 4 (Nd.encs yks)] = r:=(hr.trans (zEH hy)).symm
             refine ⟨_,⟨_,_,_,hp,rfl,rfl⟩,?_⟩
             intro z hz
             obtain rfl : ((i + 1 : Nat) : Int) = z:=(hz.trans (zAM (by omega))).symm
             refine And.intro ⟨Int.natCast_nonneg _,Int.ofNat_lt.2 hlt2k⟩ ?_
             refine And.intro hlt2k ⟨_,hgk2,?_⟩
             intro z hz
             obtain rfl : ((j + 1 : Nat) : Int) = z:=(hz.trans (zAM (by omega))).symm
             refine zJO rfl rfl rfl rfl rfl (zKW rfl rfl rfl rfl rfl rfl zId rfl) ⟨Int.natCast_nonneg _,Int.ofNat_lt.2 hltr2⟩ ?_
             refine zP1 rfl rfl rfl rfl rfl rfl zId hltr2 (zIi hv2) ?_
             exact Le.forgetH _ _ _ ⟨rfl,rfl,rfl,rfl,rfl,rfl,trivial⟩ (fun k => rfl) rfl
            ·rw [hb] at hl2
             cases hl2
             refine zAj ?_
             exact Le.forgetH _ _ _ ⟨rfl,rfl,rfl,rfl,rfl,rfl,trivial⟩ (fun k => rfl) rfl
           ·show Tri _ _ _ _
            refine zAk hle ?_
            refine zAa (by exact tokW) (by exact gok) [] [141] rfl ?_
            refine And.intro ⟨Int.natCast_nonneg _,Int.ofNat_lt.2 hltk⟩ ?_
            refine And.intro hltk ⟨_,hgk,?_⟩
            intro z9 hz9
            subst hz9
            refine zAx rfl rfl rfl rfl rfl (zKW rfl rfl rfl rfl rfl rfl zCZ rfl) ⟨Int.natCast_nonneg _,Int.ofNat_lt.2 hlt4'⟩ ?_
            refine zD9 rfl rfl rfl (zNh rfl rfl rfl rfl zCZ rfl rfl rfl) hlt4' ?_
            show Tri _ _ _ _
            refine zAa (by exact tokW) (by exact gok) [] [] rfl ?_
            refine ⟨(j,(z9 :: w :: ws)),.inr ⟨by omega,hqq⟩,Le.forgetH _ _ _ ⟨rfl,rfl,rfl,rfl,congrArg (fun z => AV.s (.int .i64 z)) wj,trivial⟩ (fun k => ?_) rfl,Nat.lt_succ_self j⟩
            cases k with
            | zero => rfl
            | succ q =>
             show (bif Nat.beq (q + 1) (i + 1) then some (Ob.row 3 1 (((List.replicate (j + 1) 0 ++ w :: ws).map (irow .i64)).set j ((((List.replicate (j + 1) 0 ++ w :: ws).map (irow .i64)).getD j []).take 0 ++ [S.int .i64 (z9)] ++ (((List.replicate (j + 1) 0 ++ w :: ws).map (irow .i64)).getD j []).drop (0 + 1)))) else ddyn 3 i (List.replicate (b.length + 1) 0) ((List.replicate (j + 1) 0 ++ w :: ws) :: (r1 :: L)) q) = ddyn 3 i (List.replicate (b.length + 1) 0) ((List.replicate j 0 ++ (z9 :: w :: ws)) :: (r1 :: L)) q
             rw [zHS (l:=List.replicate (j + 1) 0 ++ w :: ws) (j:=j) (v:=0) (x:=z9) (by simp [List.getElem?_append]),zGi]
             exact zMG q
        ·refine zAK ?_
         have hk : k = 0:=by
          rw [h37] at hb
          have:=of_decide_eq_false hb; omega
         subst hk
         rcases hI with ⟨h1,_⟩ | ⟨_,h1⟩
         ·omega
         ·rw [List.drop_zero,List.drop_zero,hrow] at h1
          cases h1
          exact Le.forgetH _ _ _ ⟨rfl,rfl,rfl,rfl,trivial⟩ (fun k => rfl) rfl
      ·show Tri _ _ _ _
       refine zAk hle ?_
       refine zAa (by exact tokW) (by exact gok) [] [] rfl ?_
       refine ⟨(i,rr :: r1 :: L),.inr ⟨by omega,hq0⟩,Le.forgetH _ _ _ ⟨rfl,rfl,rfl,congrArg (fun z => AV.s (.int .i64 z)) (wrap64_in (by omega) (by omega)),trivial⟩ (fun k => rfl) rfl,Nat.lt_succ_self _⟩
    ·refine zAK ?_
     have hk : k = 0:=by
      rw [h31] at hb
      have:=of_decide_eq_false hb; omega
     subst hk
     rcases hI with ⟨h1,_⟩ | ⟨_,h1⟩
     ·omega
     ·rw [List.drop_zero,h] at h1
      cases h1
      exact Le.forgetH _ _ _ ⟨rfl,rfl,rfl,trivial⟩ (fun k => rfl) rfl
  ·show Tri _ _ _ _
   refine zAk hle ?_
   refine zAb ?_
   refine zAa (by exact tokW) (by exact gok) [] [] rfl ?_
   show Tri _ _ _ _
   refine zAv ?_
   unfold zAQ
   have hyl:=zO1 h
   refine ⟨_,Le.giveWhole [(4,.s (.sl 1 (y0.map fun r => [S.sl 1 (r.map (irow .i64))])))] ⟨.arow rfl (by rw [zKG,List.length_map,hyl]) (fun r hr => by obtain ⟨r',_,rfl⟩:=List.mem_map.1 hr; rfl) fun q x s hx hs => ?_,trivial⟩ rfl,rfl,rfl⟩
   have e2 : (y0.map fun r => [S.sl 1 (r.map (irow .i64))]).flatten = y0.map fun r => S.sl 1 (r.map (irow .i64)):=zRt _ y0
   have e1 : (zDE (a.length + 1)).flatten = (List.range (a.length + 1)).map fun q => AV.orow (q + 1):=zRt _ _
   rw [e1,List.getElem?_map] at hx
   rw [e2,List.getElem?_map] at hs
   cases hy : y0[q]? with
   | none => rw [hy] at hs; cases hs
   | some r =>
    rw [hy] at hs; cases hs
    have hql : q < a.length + 1:=by rw [← hyl]; exact (List.getElem?_eq_some_iff.1 hy).1
    rw [List.getElem?_range hql] at hx
    cases hx
    exact .row (e:=3) (show ddyn 3 0 (List.replicate (b.length + 1) 0) y0 q = some (.row 3 1 (r.map (irow .i64))) by simp [ddyn,hy])
theorem zH9 : ∀ n,PSound Tryz.prog 69 (zAJ (zEN n)) ∧ PSound Tryz.prog 67 (zAJ (zD6 n)):=by
 intro n
 induction n with
 | zero =>
  refine ⟨?_,?_⟩
  ·exact zBF Tryz.call69 (fun xs r h => by obtain ⟨_,_,_,h,_⟩:=h; rw [zCe] at h; cases h)
  ·exact zBF Tryz.call67 (fun xs r h => by obtain ⟨_,_,_,h,_⟩:=h; rw [zCq] at h; cases h)
 | succ n ih =>
  obtain ⟨ih_r16_pair,ih_r16_table⟩:=ih
  exact ⟨zNn n ih_r16_pair ih_r16_table,zLx n ih_r16_pair ih_r16_table⟩
def zLD : zAB:=zAJ fun xs r => ∃ n,zEN n xs r
theorem zPE : PSound Tryz.prog 69 zLD:=zCf (fun n => (zH9 n).1)
def zJ8 : zAB:=zAJ fun xs r => ∃ n,zD6 n xs r
theorem zOy : PSound Tryz.prog 67 zJ8:=zCf (fun n => (zH9 n).2)
def zGr (n : Nat) (xs : List AV) (r : Ret) : Prop:=∃ (a0 : Int) (y0 : List UInt8),zDU n a0 = some y0 ∧ xs = [.s (.int .i64 a0)] ∧ r = .val (.s (.str y0))
theorem zOX (n : Nat) (ih : PSound Tryz.prog 91 (zAJ (zGr n))) : PSound Tryz.prog 91 (zAJ (zGr (n + 1))):=by
 have gok : ∀ f s,look? f [(91,zAJ (zGr n))] = some s → PSound Tryz.prog f s:=zAE (by
  simp only [List.forall_mem_cons]
  exact ⟨ih,by simp⟩)
 refine zAT tokW Tryz.call91 Tryz.func91 rfl (fun xs r h => by obtain ⟨_,_,_,rfl,_⟩:=h; show 1 ≤ 44; decide) 44 rfl ?_
 rintro xs r w0 G0 ⟨n1,y0,h,rfl,rfl⟩ _
 rw [zDU] at h
 refine zAb ?_
 refine zAa (by exact tokW) (by exact gok) [] [] rfl ?_
 show Tri _ _ _ _
 refine zAb ?_
 refine zAb ?_
 refine zAa (by exact tokW) (by exact gok) [] [] rfl ?_
 show Tri _ _ _ _
 refine zAf rfl (fun hb => ?_) (fun hb => ?_)
 ·replace h:=zAs hb h
  refine zAb ?_
  refine zAa (by exact tokW) (by exact gok) [] [11,12] rfl ?_
  refine And.intro (by decide) ?_
  intro r2 hr2
  obtain rfl : (List.map brow) [b8of (IntKind.u8.wrap (IntKind.i64.wrap (48 - (n1.tmod 10))))] = r2:=(hr2.trans (by simp [List.map_append,List.map_take,List.map_drop,irow,brow,zAC,List.map_cons,List.map_nil,zAz,Nd.encs_eq,Nd.enc,zAg,zAe,zAh,zAo,zAw,zAl,zAt,zAd,zAu,zAm,zAO])).symm
  refine And.intro (show List.map brow [b8of (IntKind.u8.wrap (IntKind.i64.wrap (48 - (n1.tmod 10))))] = ((List.map brow [b8of (IntKind.u8.wrap (IntKind.i64.wrap (48 - (n1.tmod 10))))]).map zFo).map brow from by rw [zEq]) ?_
  intro s3 hs3
  obtain rfl : [b8of (IntKind.u8.wrap (IntKind.i64.wrap (48 - (n1.tmod 10))))] = s3:=(hs3.trans (zEq _)).symm
  show Tri _ _ _ _
  refine zAb ?_
  refine zAb ?_
  refine zAa (by exact tokW) (by exact gok) [] [] rfl ?_
  refine And.intro (by decide) ?_
  show Tri _ _ _ _
  refine zAf rfl (fun hb => ?_) (fun hb => ?_)
  ·replace h:=zAs hb h
   refine zAb ?_
   refine zAa (by exact tokW) (by exact gok) [] [] rfl ?_
   refine And.intro (by decide) ?_
   obtain ⟨y4,hy4,h⟩:=zAc h
   refine ⟨_,⟨_,_,hy4,rfl,rfl⟩,?_⟩
   obtain ⟨hq,h⟩:=zAF h
   refine And.intro (Nat.le_trans hq (by decide)) ?_
   obtain ⟨hq,h⟩:=zAF h
   refine And.intro (Nat.le_trans hq (by decide)) ?_
   show Tri _ _ _ _
   refine zAv ?_
   have hy:=Option.some.inj h
   subst hy
   unfold zAQ
   exact ⟨_,Le.refl _ _,rfl,rfl⟩
  ·replace h:=zAr hb h
   refine zAj ?_
   show Tri _ _ _ _
   refine zAb ?_
   refine zAa (by exact tokW) (by exact gok) [] [] rfl ?_
   obtain ⟨hq,h⟩:=zAF h
   refine And.intro (Nat.le_trans hq (by decide)) ?_
   show Tri _ _ _ _
   refine zAv ?_
   have hy:=Option.some.inj h
   subst hy
   unfold zAQ
   exact ⟨_,Le.refl _ _,rfl,rfl⟩
 ·replace h:=zAr hb h
  refine zAj ?_
  show Tri _ _ _ _
  refine zAb ?_
  refine zAa (by exact tokW) (by exact gok) [] [] rfl ?_
  show Tri _ _ _ _
  refine zAb ?_
  obtain ⟨⟨n7,s8⟩,hl,h⟩:=zAc h
  refine zAp ⟨ofL [(0,.s (.int .i64 n7)),(4,.s (.str s8))],fun _ => none,0⟩ ?_ (fun σ' hle => ?_)
  ·refine zAn (zAG (X:=Nat × Int × (List UInt8)) (fun y => match y with | (k,n5,s6) => ⟨ofL [(0,.s (.int .i64 n5)),(4,.s (.str s6))],fun _ => none,0⟩) (fun y => zBS  y.1 y.2.1 y.2.2 = some (n7,s8)) (fun y => y.1) (n,n1,[]) hl ?_ ?_)
   ·exact (Le.forget _ ⟨rfl,rfl,trivial⟩)
   ·rintro ⟨k,n5,s6⟩ h
    cases k with
    | zero => cases h
    | succ k =>
     replace h : zBS  (k+1) n5 s6 = some (n7,s8):=h
     rw [zBS] at h
     refine zAb ?_
     refine zAb ?_
     refine zAa (by exact tokW) (by exact gok) [] [] rfl ?_
     show Tri _ _ _ _
     refine zAf rfl (fun hb => ?_) (fun hb => ?_)
     ·replace h:=zAs hb h
      refine zAj ?_
      show Tri _ _ _ _
      refine zAn ?_
      refine zAb ?_
      refine zAa (by exact tokW) (by exact gok) [] [31,32] rfl ?_
      refine And.intro (by decide) ?_
      intro r9 hr9
      obtain rfl : (List.map brow) [b8of (IntKind.u8.wrap (IntKind.i64.wrap (48 + (n5.tmod 10))))] = r9:=(hr9.trans (by simp [List.map_append,List.map_take,List.map_drop,irow,brow,zAC,List.map_cons,List.map_nil,zAz,Nd.encs_eq,Nd.enc,zAg,zAe,zAh,zAo,zAw,zAl,zAt,zAd,zAu,zAm,zAO])).symm
      refine And.intro (show List.map brow [b8of (IntKind.u8.wrap (IntKind.i64.wrap (48 + (n5.tmod 10))))] = ((List.map brow [b8of (IntKind.u8.wrap (IntKind.i64.wrap (48 + (n5.tmod 10))))]).map zFo).map brow from by rw [zEq]) ?_
      intro s10 hs10
      obtain rfl : [b8of (IntKind.u8.wrap (IntKind.i64.wrap (48 + (n5.tmod 10))))] = s10:=(hs10.trans (zEq _)).symm
      obtain ⟨hq,h⟩:=zAF h
      refine And.intro (Nat.le_trans hq (by decide)) ?_
      show Tri _ _ _ _
      refine zAa (by exact tokW) (by exact gok) [] [] rfl ?_
      refine And.intro (by decide) ?_
      refine ⟨(k,IntKind.i64.wrap (n5.tdiv 10),[b8of (IntKind.u8.wrap (IntKind.i64.wrap (48 + (n5.tmod 10))))] ++ s6),h,(Le.forget _ ⟨rfl,rfl,trivial⟩),Nat.lt_succ_self k⟩
     ·replace h:=zAr hb h
      refine zAK ?_
      cases h
      exact (Le.forget _ ⟨rfl,rfl,trivial⟩)
  ·show Tri _ _ _ _
   refine zAk hle ?_
   refine zAb ?_
   refine zAa (by exact tokW) (by exact gok) [] [40,41] rfl ?_
   intro r11 hr11
   obtain rfl : (List.map brow) [b8of (IntKind.u8.wrap (IntKind.i64.wrap (48 + n7)))] = r11:=(hr11.trans (by simp [List.map_append,List.map_take,List.map_drop,irow,brow,zAC,List.map_cons,List.map_nil,zAz,Nd.encs_eq,Nd.enc,zAg,zAe,zAh,zAo,zAw,zAl,zAt,zAd,zAu,zAm,zAO])).symm
   refine And.intro (show List.map brow [b8of (IntKind.u8.wrap (IntKind.i64.wrap (48 + n7)))] = ((List.map brow [b8of (IntKind.u8.wrap (IntKind.i64.wrap (48 + n7)))]).map zFo).map brow from by rw [zEq]) ?_
   intro s12 hs12
   obtain rfl : [b8of (IntKind.u8.wrap (IntKind.i64.wrap (48 + n7)))] = s12:=(hs12.trans (zEq _)).symm
   obtain ⟨hq,h⟩:=zAF h
   refine And.intro (Nat.le_trans hq (by decide)) ?_
   show Tri _ _ _ _
   refine zAv ?_
   have hy:=Option.some.inj h
   subst hy
   unfold zAQ
   exact ⟨_,Le.refl _ _,rfl,rfl⟩
theorem zPl : ∀ n,PSound Tryz.prog 91 (zAJ (zGr n)):=by
 intro n
 induction n with
 | zero => exact zBF Tryz.call91 (fun xs r h => by obtain ⟨_,_,h,_⟩:=h; cases h)
 | succ n ih => exact zOX n ih
def zNR : zAB:=zAJ fun xs r => ∃ n,zGr n xs r
theorem zQZ : PSound Tryz.prog 91 zNR:=zCf zPl
def zNL (n : Nat) (xs : List AV) (r : Ret) : Prop:=∃ (a0 : List UInt8) (y0 : List UInt8),zEx n a0 = some y0 ∧ xs = [.s (.str a0)] ∧ r = .val (.s (.str y0))
def zJc : zAB:=zAJ fun xs r => ∃ n,zNL n xs r
theorem zM4 : PSound Tryz.prog 92 zJc:=by
 have gok : ∀ (f : Nat) (s : zAB),(fun _ => none : Nat → Option zAB) f = some s → PSound Tryz.prog f s:=fun _ _ h => by cases h
 refine zAT tokW Tryz.call92 Tryz.func92 rfl (fun xs r h => by obtain ⟨n,_,_,_,rfl,_⟩:=h; show 1 ≤ 35; decide) 35 rfl ?_
 rintro xs r w0 G0 ⟨n,s1,y0,h,rfl,rfl⟩ _
 rw [zEx] at h
 refine zAb ?_
 refine zAa (by exact tokW) (by exact gok) [] [] rfl ?_
 show Tri _ _ _ _
 refine zAb ?_
 refine zAa (by exact tokW) (by exact gok) [5] [] rfl ?_
 show Tri _ _ _ _
 refine zAk (Le.rename [(0,0)] [(0,.s (.str s1)),(3,.orow 0)] [(0,.row 5 1 ((List.map brow) [b8of 34]))] 1 ⟨rfl,rfl,trivial⟩ ⟨rfl,⟨_,rfl,congrArg (Ob.row 5 1) (by simp [List.map_append,List.map_take,List.map_drop,irow,brow,zAC,List.map_cons,List.map_nil,zAz,Nd.encs_eq,Nd.enc,zAg,zAe,zAh,zAo,zAw,zAl,zAt,zAd,zAu,zAm,zAO])⟩,trivial⟩ rfl rfl rfl rfl rfl) ?_
 refine zAb ?_
 refine zAb ?_
 refine zAa (by exact tokW) (by exact gok) [] [] rfl ?_
 show Tri _ _ _ _
 obtain ⟨l5,hl,h⟩:=zAc h
 refine zAp ⟨ofL [(3,.orow 0)],ofH [(0,.row 5 1 ((List.map brow) l5))],1⟩ ?_ (fun σ' hle => ?_)
 ·refine zAn (zAG (X:=Nat × Int × (List UInt8)) (fun y => match y with | (k,i3,l4) => ⟨ofL [(0,.s (.str s1)),(3,.orow 0),(4,.s (.int .i64 i3))],ofH [(0,.row 5 1 ((List.map brow) l4))],1⟩) (fun y => zBT s1 y.1 y.2.1 y.2.2 = some l5) (fun y => y.1) (n,0,[b8of 34]) hl ?_ ?_)
  ·exact (Le.rename [(0,0)] _ _ _ ⟨rfl,rfl,rfl,trivial⟩ ⟨rfl,⟨_,rfl,rfl⟩,trivial⟩ rfl rfl rfl rfl rfl)
  ·rintro ⟨k,i3,l4⟩ h
   cases k with
   | zero => cases h
   | succ k =>
    replace h : zBT s1 (k+1) i3 l4 = some l5:=h
    rw [zBT] at h
    refine zAb ?_
    refine zAb ?_
    refine zAa (by exact tokW) (by exact gok) [] [] rfl ?_
    show Tri _ _ _ _
    refine zAf rfl (fun hb => ?_) (fun hb => ?_)
    ·replace h:=zAs hb h
     refine zAj ?_
     show Tri _ _ _ _
     refine zAb ?_
     obtain ⟨l6,hj,h⟩:=zAc h
     refine zAp ⟨ofL [(0,.s (.str s1)),(3,.orow 0),(4,.s (.int .i64 i3))],ofH [(0,.row 5 1 ((List.map brow) l6))],1⟩ ?_ (fun σ' hle => ?_)
     ·replace h:=hj
      refine zAn ?_
      refine zAb ?_
      refine zAb ?_
      obtain ⟨x7,hj,h⟩:=zAc h
      refine zAp ⟨ofL [(0,.s (.str s1)),(3,.orow 0),(4,.s (.int .i64 i3)),(21,.s (.bool x7))],ofH [(0,.row 5 1 ((List.map brow) l4))],1⟩ ?_ (fun σ' hle => ?_)
      ·replace h:=hj
       refine zAa (by exact tokW) (by exact gok) [] [14,16,19] rfl ?_
       obtain ⟨c8,hc8,h⟩:=zAc h
       refine And.intro (zBc hc8).1 ?_
       intro v9 hv9
       obtain rfl : (c8.toNat : Int) = v9:=(hv9.trans (zBc hc8).2).symm
       intro b hb
       cases b with
       | true =>
        replace h:=zAs hb.symm h
        cases h
        exact (Le.rename [(0,0)] _ _ _ ⟨rfl,rfl,rfl,rfl,trivial⟩ ⟨rfl,⟨_,rfl,rfl⟩,trivial⟩ rfl rfl rfl rfl rfl)
       | false =>
        replace h:=zAr hb.symm h
        obtain ⟨c10,hc10,h⟩:=zAc h
        refine And.intro (zBc hc10).1 ?_
        intro v11 hv11
        obtain rfl : (c10.toNat : Int) = v11:=(hv11.trans (zBc hc10).2).symm
        cases h
        exact (Le.rename [(0,0)] _ _ _ ⟨rfl,rfl,rfl,rfl,trivial⟩ ⟨rfl,⟨_,rfl,rfl⟩,trivial⟩ rfl rfl rfl rfl rfl)
      ·show Tri _ _ _ _
       refine zAk hle ?_
       obtain ⟨l12,hj,h⟩:=zAc h
       refine zAp ⟨ofL [(0,.s (.str s1)),(3,.orow 0),(4,.s (.int .i64 i3))],ofH [(0,.row 5 1 ((List.map brow) l12))],1⟩ ?_ (fun σ' hle => ?_)
       ·replace h:=hj
        refine zAf rfl (fun hb => ?_) (fun hb => ?_)
        ·replace h:=zAs hb h
         refine zAa (by exact tokW) (by exact gok) [24] [23] rfl ?_
         intro r13 hr13
         obtain rfl : (List.map brow) [b8of 92] = r13:=(hr13.trans (by simp [List.map_append,List.map_take,List.map_drop,irow,brow,zAC,List.map_cons,List.map_nil,zAz,Nd.encs_eq,Nd.enc,zAg,zAe,zAh,zAo,zAw,zAl,zAt,zAd,zAu,zAm,zAO])).symm
         obtain ⟨hq,h⟩:=zAF h
         refine And.intro (show (((List.map brow) l4).length + ((List.map brow) [b8of 92]).length) * 1 ≤ 140737488355328 ∧ ((List.map brow) l4).length + ((List.map brow) [b8of 92]).length ≤ 9223372036854775807 from by simp only [List.length_append,List.length_cons,List.length_nil,List.length_map,rlen (fun _ => rfl)] at hq ⊢; omega) ?_
         cases h
         exact (Le.trans (Le.rename [(1,0)] [(0,.s (.str s1)),(3,.orow 0),(4,.s (.int .i64 i3))] [(0,.row 5 1 ((List.map brow) (l4 ++ [b8of 92])))] 1 ⟨rfl,rfl,rfl,trivial⟩ ⟨rfl,⟨_,rfl,congrArg (Ob.row 5 1) (by simp [List.map_append,List.map_take,List.map_drop,irow,brow,zAC,List.map_cons,List.map_nil,zAz,Nd.encs_eq,Nd.enc,zAg,zAe,zAh,zAo,zAw,zAl,zAt,zAd,zAu,zAm,zAO])⟩,trivial⟩ rfl rfl rfl rfl rfl) (Le.rename [(0,0)] _ _ _ ⟨rfl,rfl,rfl,trivial⟩ ⟨rfl,⟨_,rfl,rfl⟩,trivial⟩ rfl rfl rfl rfl rfl))
        ·replace h:=zAr hb h
         refine zAj ?_
         cases h
         exact (Le.rename [(0,0)] _ _ _ ⟨rfl,rfl,rfl,trivial⟩ ⟨rfl,⟨_,rfl,rfl⟩,trivial⟩ rfl rfl rfl rfl rfl)
       ·show Tri _ _ _ _
        refine zAk hle ?_
        refine zAa (by exact tokW) (by exact gok) [30] [28,29] rfl ?_
        obtain ⟨c14,hc14,h⟩:=zAc h
        refine And.intro (zBc hc14).1 ?_
        intro v15 hv15
        obtain rfl : (c14.toNat : Int) = v15:=(hv15.trans (zBc hc14).2).symm
        intro r16 hr16
        obtain rfl : (List.map brow) [c14] = r16:=(hr16.trans (by simp [List.map_append,List.map_take,List.map_drop,irow,brow,zAC,List.map_cons,List.map_nil,zAz,Nd.encs_eq,Nd.enc,zAg,zAe,zAh,zAo,zAw,zAl,zAt,zAd,zAu,zAm,zAO])).symm
        obtain ⟨hq,h⟩:=zAF h
        refine And.intro (show (((List.map brow) l12).length + ((List.map brow) [c14]).length) * 1 ≤ 140737488355328 ∧ ((List.map brow) l12).length + ((List.map brow) [c14]).length ≤ 9223372036854775807 from by simp only [List.length_append,List.length_cons,List.length_nil,List.length_map,rlen (fun _ => rfl)] at hq ⊢; omega) ?_
        cases h
        exact (Le.trans (Le.rename [(1,0)] [(0,.s (.str s1)),(3,.orow 0),(4,.s (.int .i64 i3))] [(0,.row 5 1 ((List.map brow) (l12 ++ [c14])))] 1 ⟨rfl,rfl,rfl,trivial⟩ ⟨rfl,⟨_,rfl,congrArg (Ob.row 5 1) (by simp [List.map_append,List.map_take,List.map_drop,irow,brow,zAC,List.map_cons,List.map_nil,zAz,Nd.encs_eq,Nd.enc,zAg,zAe,zAh,zAo,zAw,zAl,zAt,zAd,zAu,zAm,zAO])⟩,trivial⟩ rfl rfl rfl rfl rfl) (Le.rename [(0,0)] _ _ _ ⟨rfl,rfl,rfl,trivial⟩ ⟨rfl,⟨_,rfl,rfl⟩,trivial⟩ rfl rfl rfl rfl rfl))
     ·show Tri _ _ _ _
      refine zAk hle ?_
      refine zAa (by exact tokW) (by exact gok) [] [] rfl ?_
      refine ⟨(k,IntKind.i64.wrap (i3 + 1),l6),h,(Le.rename [(0,0)] _ _ _ ⟨rfl,rfl,rfl,trivial⟩ ⟨rfl,⟨_,rfl,rfl⟩,trivial⟩ rfl rfl rfl rfl rfl),Nat.lt_succ_self k⟩
    ·replace h:=zAr hb h
     refine zAK ?_
     cases h
     exact (Le.rename [(0,0)] _ _ _ ⟨rfl,trivial⟩ ⟨rfl,⟨_,rfl,rfl⟩,trivial⟩ rfl rfl rfl rfl rfl)
 ·show Tri _ _ _ _
  refine zAk hle ?_
  refine zAb ?_
  refine zAa (by exact tokW) (by exact gok) [33] [32,34] rfl ?_
  intro r17 hr17
  obtain rfl : (List.map brow) [b8of 34] = r17:=(hr17.trans (by simp [List.map_append,List.map_take,List.map_drop,irow,brow,zAC,List.map_cons,List.map_nil,zAz,Nd.encs_eq,Nd.enc,zAg,zAe,zAh,zAo,zAw,zAl,zAt,zAd,zAu,zAm,zAO])).symm
  obtain ⟨hq,h⟩:=zAF h
  refine And.intro (show (((List.map brow) l5).length + ((List.map brow) [b8of 34]).length) * 1 ≤ 140737488355328 ∧ ((List.map brow) l5).length + ((List.map brow) [b8of 34]).length ≤ 9223372036854775807 from by simp only [List.length_append,List.length_cons,List.length_nil,List.length_map,rlen (fun _ => rfl)] at hq ⊢; omega) ?_
  have hraw : ((List.map brow) l5) ++ ((List.map brow) [b8of 34]) = (List.map brow) (l5 ++ [b8of 34]):=(show ((List.map brow) l5) ++ ((List.map brow) [b8of 34]) = (List.map brow) (l5 ++ [b8of 34]) from (by simp [List.map_append,List.map_take,List.map_drop,irow,brow,zAC,List.map_cons,List.map_nil,zAz,Nd.encs_eq,Nd.enc,zAg,zAe,zAh,zAo,zAw,zAl,zAt,zAd,zAu,zAm,zAO]))
  refine And.intro (show ((List.map brow) l5) ++ ((List.map brow) [b8of 34]) = ((((List.map brow) l5) ++ ((List.map brow) [b8of 34])).map zFo).map brow from by rw [hraw,zEq]) ?_
  intro s18 hs18
  obtain rfl : l5 ++ [b8of 34] = s18:=(hs18.trans ((congrArg (List.map zFo) hraw).trans (zEq _))).symm
  show Tri _ _ _ _
  refine zAk (Le.rename [] [(2,.s (.str (l5 ++ [b8of 34])))] [] 0 ⟨rfl,trivial⟩ trivial rfl rfl rfl rfl rfl) ?_
  refine zAv ?_
  have hy:=Option.some.inj h
  subst hy
  unfold zAQ
  exact ⟨_,Le.refl _ _,rfl,rfl⟩
def zFC (n : Nat) (xs : List AV) (r : Ret) : Prop:=∃ (a0 : Nd) (y0 : List UInt8),zCS n a0 = some y0 ∧ xs = [.agg ((Nd.enc a0).map .s)] ∧ r = .val (.s (.str y0))
theorem zNk (n : Nat) (ih : PSound Tryz.prog 70 (zAJ (zFC n))) : PSound Tryz.prog 70 (zAJ (zFC (n + 1))):=by
 have gok : ∀ f s,look? f [(91,zNR),(92,zJc),(70,zAJ (zFC n))] = some s → PSound Tryz.prog f s:=zAE (by
  simp only [List.forall_mem_cons]
  exact ⟨zQZ,zM4,ih,by simp⟩)
 refine zAT tokW Tryz.call70 Tryz.func70 rfl (fun xs r h => by obtain ⟨_,_,_,rfl,_⟩:=h; show 1 ≤ 69; decide) 69 rfl ?_
 rintro xs r w0 G0 ⟨⟨a1_kind,a1_text,a1_cols,a1_kids⟩,y0,h,rfl,rfl⟩ _
 rw [zCS] at h
 refine zAb ?_
 refine zAa (by exact tokW) (by exact gok) [] [] rfl ?_
 show Tri _ _ _ _
 refine zAb ?_
 refine zAa (by exact tokW) (by exact gok) [3] [] rfl ?_
 show Tri _ _ _ _
 refine zAk (Le.giveBox 0 [.str [],.str [114,111,119],.str [115,121,109],.str [110,117,109],.str [116,101,120,116],.str [102,114,97,99],.str [114,111,111,116],.str [115,117,98],.str [115,117,112],.str [98,111,116,104],.str [97,99,99,101,110,116],.str [102,101,110,99,101],.str [109,97,116,114,105,120]] rfl rfl) ?_
 refine zAb ?_
 refine zAa (by exact tokW) (by exact gok) [] [] rfl ?_
 obtain ⟨y2,hy2,h⟩:=zAc h
 refine ⟨_,⟨_,_,_,hy2,rfl,rfl⟩,?_⟩
 obtain ⟨hq,h⟩:=zAF h
 refine And.intro (Nat.le_trans hq (by decide)) ?_
 show Tri _ _ _ _
 refine zAb ?_
 refine zAb ?_
 obtain ⟨x3,hj,h⟩:=zAc h
 refine zAp ⟨ofL [(1,.s (.pt [.int .i64 a1_kind,.str a1_text,.int .i64 a1_cols,.sl 4 (Nd.encs a1_kids)])),(3,.s (.pt [.str [],.str [114,111,119],.str [115,121,109],.str [110,117,109],.str [116,101,120,116],.str [102,114,97,99],.str [114,111,111,116],.str [115,117,98],.str [115,117,112],.str [98,111,116,104],.str [97,99,99,101,110,116],.str [102,101,110,99,101],.str [109,97,116,114,105,120]])),(4,.s (.str ([110,111,100,101] ++ y2))),(18,.s (.bool x3))],fun _ => none,0⟩ ?_ (fun σ' hle => ?_)
 ·replace h:=hj
  refine zAa (by exact tokW) (by exact gok) [] [14] rfl ?_
  intro b hb
  cases b with
  | true =>
   replace h:=zAs hb.symm h
   cases h
   exact (Le.rename [] _ [] 0 ⟨rfl,rfl,rfl,rfl,trivial⟩ trivial rfl rfl rfl rfl rfl)
  | false =>
   replace h:=zAr hb.symm h
   cases h
   exact (Le.rename [] _ [] 0 ⟨rfl,rfl,rfl,rfl,trivial⟩ trivial rfl rfl rfl rfl rfl)
 ·show Tri _ _ _ _
  refine zAk hle ?_
  obtain ⟨x4,hj,h⟩:=zAc h
  refine zAp ⟨ofL [(1,.s (.pt [.int .i64 a1_kind,.str a1_text,.int .i64 a1_cols,.sl 4 (Nd.encs a1_kids)])),(4,.s (.str x4))],fun _ => none,0⟩ ?_ (fun σ' hle => ?_)
  ·replace h:=hj
   refine zAf rfl (fun hb => ?_) (fun hb => ?_)
   ·replace h:=zAs hb h
    refine zAa (by exact tokW) (by exact gok) [] [20] rfl ?_
    intro vsp hvsp
    cases hc : (a1_kind == 1) with
    | true =>
     replace h:=zAs hc h
     obtain rfl : (1 : Int) = vsp:=(hvsp.trans (eq_of_beq hc)).symm
     refine And.intro (by decide) ?_
     cases h
     exact (Le.forget _ ⟨rfl,rfl,trivial⟩)
    | false =>
     replace h:=zAr hc h
     cases hc : (a1_kind == 2) with
     | true =>
      replace h:=zAs hc h
      obtain rfl : (2 : Int) = vsp:=(hvsp.trans (eq_of_beq hc)).symm
      refine And.intro (by decide) ?_
      cases h
      exact (Le.forget _ ⟨rfl,rfl,trivial⟩)
     | false =>
      replace h:=zAr hc h
      cases hc : (a1_kind == 3) with
      | true =>
       replace h:=zAs hc h
       obtain rfl : (3 : Int) = vsp:=(hvsp.trans (eq_of_beq hc)).symm
       refine And.intro (by decide) ?_
       cases h
       exact (Le.forget _ ⟨rfl,rfl,trivial⟩)
      | false =>
       replace h:=zAr hc h
       cases hc : (a1_kind == 4) with
       | true =>
        replace h:=zAs hc h
        obtain rfl : (4 : Int) = vsp:=(hvsp.trans (eq_of_beq hc)).symm
        refine And.intro (by decide) ?_
        cases h
        exact (Le.forget _ ⟨rfl,rfl,trivial⟩)
       | false =>
        replace h:=zAr hc h
        cases hc : (a1_kind == 5) with
        | true =>
         replace h:=zAs hc h
         obtain rfl : (5 : Int) = vsp:=(hvsp.trans (eq_of_beq hc)).symm
         refine And.intro (by decide) ?_
         cases h
         exact (Le.forget _ ⟨rfl,rfl,trivial⟩)
        | false =>
         replace h:=zAr hc h
         cases hc : (a1_kind == 6) with
         | true =>
          replace h:=zAs hc h
          obtain rfl : (6 : Int) = vsp:=(hvsp.trans (eq_of_beq hc)).symm
          refine And.intro (by decide) ?_
          cases h
          exact (Le.forget _ ⟨rfl,rfl,trivial⟩)
         | false =>
          replace h:=zAr hc h
          cases hc : (a1_kind == 7) with
          | true =>
           replace h:=zAs hc h
           obtain rfl : (7 : Int) = vsp:=(hvsp.trans (eq_of_beq hc)).symm
           refine And.intro (by decide) ?_
           cases h
           exact (Le.forget _ ⟨rfl,rfl,trivial⟩)
          | false =>
           replace h:=zAr hc h
           cases hc : (a1_kind == 8) with
           | true =>
            replace h:=zAs hc h
            obtain rfl : (8 : Int) = vsp:=(hvsp.trans (eq_of_beq hc)).symm
            refine And.intro (by decide) ?_
            cases h
            exact (Le.forget _ ⟨rfl,rfl,trivial⟩)
           | false =>
            replace h:=zAr hc h
            cases hc : (a1_kind == 9) with
            | true =>
             replace h:=zAs hc h
             obtain rfl : (9 : Int) = vsp:=(hvsp.trans (eq_of_beq hc)).symm
             refine And.intro (by decide) ?_
             cases h
             exact (Le.forget _ ⟨rfl,rfl,trivial⟩)
            | false =>
             replace h:=zAr hc h
             cases hc : (a1_kind == 10) with
             | true =>
              replace h:=zAs hc h
              obtain rfl : (10 : Int) = vsp:=(hvsp.trans (eq_of_beq hc)).symm
              refine And.intro (by decide) ?_
              cases h
              exact (Le.forget _ ⟨rfl,rfl,trivial⟩)
             | false =>
              replace h:=zAr hc h
              cases hc : (a1_kind == 11) with
              | true =>
               replace h:=zAs hc h
               obtain rfl : (11 : Int) = vsp:=(hvsp.trans (eq_of_beq hc)).symm
               refine And.intro (by decide) ?_
               cases h
               exact (Le.forget _ ⟨rfl,rfl,trivial⟩)
              | false =>
               replace h:=zAr hc h
               cases hc : (a1_kind == 12) with
               | true =>
                replace h:=zAs hc h
                obtain rfl : (12 : Int) = vsp:=(hvsp.trans (eq_of_beq hc)).symm
                refine And.intro (by decide) ?_
                cases h
                exact (Le.forget _ ⟨rfl,rfl,trivial⟩)
               | false =>
                replace h:=zAr hc h
                cases h
   ·replace h:=zAr hb h
    refine zAj ?_
    cases h
    exact (Le.forget _ ⟨rfl,rfl,trivial⟩)
  ·show Tri _ _ _ _
   refine zAk hle ?_
   refine zAb ?_
   refine zAb ?_
   refine zAa (by exact tokW) (by exact gok) [] [] rfl ?_
   show Tri _ _ _ _
   obtain ⟨x5,hj,h⟩:=zAc h
   refine zAp ⟨ofL [(1,.s (.pt [.int .i64 a1_kind,.str a1_text,.int .i64 a1_cols,.sl 4 (Nd.encs a1_kids)])),(4,.s (.str x5))],fun _ => none,0⟩ ?_ (fun σ' hle => ?_)
   ·replace h:=hj
    refine zAf rfl (fun hb => ?_) (fun hb => ?_)
    ·replace h:=zAs hb h
     refine zAa (by exact tokW) (by exact gok) [] [] rfl ?_
     obtain ⟨hq,h⟩:=zAF h
     refine And.intro (Nat.le_trans hq (by decide)) ?_
     obtain ⟨y6,hy6,h⟩:=zAc h
     refine ⟨_,⟨_,_,_,hy6,rfl,rfl⟩,?_⟩
     obtain ⟨hq,h⟩:=zAF h
     refine And.intro (Nat.le_trans hq (by decide)) ?_
     cases h
     exact (Le.forget _ ⟨rfl,rfl,trivial⟩)
    ·replace h:=zAr hb h
     refine zAj ?_
     cases h
     exact (Le.forget _ ⟨rfl,rfl,trivial⟩)
   ·show Tri _ _ _ _
    refine zAk hle ?_
    refine zAb ?_
    refine zAb ?_
    refine zAa (by exact tokW) (by exact gok) [] [] rfl ?_
    show Tri _ _ _ _
    obtain ⟨x7,hj,h⟩:=zAc h
    refine zAp ⟨ofL [(1,.s (.pt [.int .i64 a1_kind,.str a1_text,.int .i64 a1_cols,.sl 4 (Nd.encs a1_kids)])),(4,.s (.str x7))],fun _ => none,0⟩ ?_ (fun σ' hle => ?_)
    ·replace h:=hj
     refine zAf rfl (fun hb => ?_) (fun hb => ?_)
     ·replace h:=zAs hb h
      refine zAa (by exact tokW) (by exact gok) [] [] rfl ?_
      obtain ⟨hq,h⟩:=zAF h
      refine And.intro (Nat.le_trans hq (by decide)) ?_
      obtain ⟨y8,hy8,h⟩:=zAc h
      refine ⟨_,⟨_,_,_,hy8,rfl,rfl⟩,?_⟩
      obtain ⟨hq,h⟩:=zAF h
      refine And.intro (Nat.le_trans hq (by decide)) ?_
      cases h
      exact (Le.forget _ ⟨rfl,rfl,trivial⟩)
     ·replace h:=zAr hb h
      refine zAj ?_
      cases h
      exact (Le.forget _ ⟨rfl,rfl,trivial⟩)
    ·show Tri _ _ _ _
     refine zAk hle ?_
     refine zAb ?_
     refine zAb ?_
     refine zAa (by exact tokW) (by exact gok) [] [43] rfl ?_
     intro n9 hn9
     obtain rfl : (a1_kids.length : Int) = n9:=(hn9.trans (congrArg (fun m : Nat => (m : Int)) (rlen Nd.encs_eq a1_kids))).symm
     show Tri _ _ _ _
     refine zAf rfl (fun hb => ?_) (fun hb => ?_)
     ·replace h:=zAs hb h
      refine zAb ?_
      refine zAa (by exact tokW) (by exact gok) [] [] rfl ?_
      show Tri _ _ _ _
      refine zAv ?_
      have hy:=Option.some.inj h
      subst hy
      unfold zAQ
      exact ⟨_,Le.refl _ _,rfl,rfl⟩
     ·replace h:=zAr hb h
      refine zAj ?_
      show Tri _ _ _ _
      refine zAb ?_
      refine zAa (by exact tokW) (by exact gok) [] [] rfl ?_
      obtain ⟨hq,h⟩:=zAF h
      refine And.intro (Nat.le_trans hq (by decide)) ?_
      show Tri _ _ _ _
      refine zAb ?_
      refine zAb ?_
      refine zAa (by exact tokW) (by exact gok) [] [] rfl ?_
      show Tri _ _ _ _
      obtain ⟨x12,hl,h⟩:=zAc h
      refine zAp ⟨ofL [(4,.s (.str x12))],fun _ => none,0⟩ ?_ (fun σ' hle => ?_)
      ·refine zAn (zAG (X:=Nat × (List UInt8) × Int) (fun y => match y with | (k,x10,x11) => ⟨ofL [(1,.s (.pt [.int .i64 a1_kind,.str a1_text,.int .i64 a1_cols,.sl 4 (Nd.encs a1_kids)])),(4,.s (.str x10)),(5,.s (.int .i64 x11))],fun _ => none,0⟩) (fun y => zCG (zCS n) a1_kids y.1 y.2.1 y.2.2 = some x12) (fun y => y.1) (n,x7 ++ [40],0) hl ?_ ?_)
       ·exact (Le.forget _ ⟨rfl,rfl,rfl,trivial⟩)
       ·rintro ⟨k,x10,x11⟩ h
        cases k with
        | zero => cases h
        | succ k =>
         replace h : zCG (zCS n) a1_kids (k+1) x10 x11 = some x12:=h
         rw [zCG] at h
         refine zAb ?_
         refine zAb ?_
         refine zAa (by exact tokW) (by exact gok) [] [51] rfl ?_
         intro n13 hn13
         obtain rfl : (a1_kids.length : Int) = n13:=(hn13.trans (congrArg (fun m : Nat => (m : Int)) (rlen Nd.encs_eq a1_kids))).symm
         show Tri _ _ _ _
         refine zAf rfl (fun hb => ?_) (fun hb => ?_)
         ·replace h:=zAs hb h
          refine zAj ?_
          show Tri _ _ _ _
          refine zAb ?_
          obtain ⟨x14,hj,h⟩:=zAc h
          refine zAp ⟨ofL [(1,.s (.pt [.int .i64 a1_kind,.str a1_text,.int .i64 a1_cols,.sl 4 (Nd.encs a1_kids)])),(4,.s (.str x14)),(5,.s (.int .i64 x11))],fun _ => none,0⟩ ?_ (fun σ' hle => ?_)
          ·replace h:=hj
           refine zAn ?_
           refine zAb ?_
           refine zAb ?_
           refine zAa (by exact tokW) (by exact gok) [] [] rfl ?_
           show Tri _ _ _ _
           obtain ⟨x15,hj,h⟩:=zAc h
           refine zAp ⟨ofL [(1,.s (.pt [.int .i64 a1_kind,.str a1_text,.int .i64 a1_cols,.sl 4 (Nd.encs a1_kids)])),(4,.s (.str x15)),(5,.s (.int .i64 x11))],fun _ => none,0⟩ ?_ (fun σ' hle => ?_)
           ·replace h:=hj
            refine zAf rfl (fun hb => ?_) (fun hb => ?_)
            ·replace h:=zAs hb h
             refine zAa (by exact tokW) (by exact gok) [] [] rfl ?_
             obtain ⟨hq,h⟩:=zAF h
             refine And.intro (Nat.le_trans hq (by decide)) ?_
             cases h
             exact (Le.forget _ ⟨rfl,rfl,rfl,trivial⟩)
            ·replace h:=zAr hb h
             refine zAj ?_
             cases h
             exact (Le.forget _ ⟨rfl,rfl,rfl,trivial⟩)
           ·show Tri _ _ _ _
            refine zAk hle ?_
            refine zAa (by exact tokW) (by exact gok) [] [63] rfl ?_
            obtain ⟨⟨e16_kind,e16_text,e16_cols,e16_kids⟩,he16,h⟩:=zAc h
            refine And.intro (zAA Nd.encs_eq he16).1 ?_
            intro r17 hr17
            obtain rfl : [.int .i64 e16_kind,.str e16_text,.int .i64 e16_cols,.sl 4 (Nd.encs e16_kids)] = r17:=(hr17.trans (zAA Nd.encs_eq he16).2.1).symm
            obtain ⟨y18,hy18,h⟩:=zAc h
            refine ⟨_,⟨_,_,hy18,rfl,rfl⟩,?_⟩
            obtain ⟨hq,h⟩:=zAF h
            refine And.intro (Nat.le_trans hq (by decide)) ?_
            cases h
            exact (Le.forget _ ⟨rfl,rfl,rfl,trivial⟩)
          ·show Tri _ _ _ _
           refine zAk hle ?_
           refine zAa (by exact tokW) (by exact gok) [] [] rfl ?_
           refine ⟨(k,x14,IntKind.i64.wrap (x11 + 1)),h,(Le.forget _ ⟨rfl,rfl,rfl,trivial⟩),Nat.lt_succ_self k⟩
         ·replace h:=zAr hb h
          refine zAK ?_
          cases h
          exact (Le.forget _ ⟨rfl,trivial⟩)
      ·show Tri _ _ _ _
       refine zAk hle ?_
       refine zAb ?_
       refine zAa (by exact tokW) (by exact gok) [] [] rfl ?_
       obtain ⟨hq,h⟩:=zAF h
       refine And.intro (Nat.le_trans hq (by decide)) ?_
       show Tri _ _ _ _
       refine zAv ?_
       have hy:=Option.some.inj h
       subst hy
       unfold zAQ
       exact ⟨_,Le.refl _ _,rfl,rfl⟩
theorem zNS : ∀ n,PSound Tryz.prog 70 (zAJ (zFC n)):=by
 intro n
 induction n with
 | zero => exact zBF Tryz.call70 (fun xs r h => by obtain ⟨_,_,h,_⟩:=h; cases h)
 | succ n ih => exact zNk n ih
def zLy : zAB:=zAJ fun xs r => ∃ n,zFC n xs r
theorem zPz : PSound Tryz.prog 70 zLy:=zCf zNS
end Go.Proofs.YtgfneloodabafaaGreatDoor
