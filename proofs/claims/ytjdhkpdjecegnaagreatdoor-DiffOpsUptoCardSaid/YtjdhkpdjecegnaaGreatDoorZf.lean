/-
  Joined out of: DzT, PTyp9, PCnt, PByte, PText, PVal, PDist, PDump, PFill, PAwk, PCost, PMet, PNode, PRow, PWt, PEdit4, PEdit5, PAlign, PDif1, PDif2, PDif3, PDif4, PMrg1, PMrg2, PDif5, PMrg3.
-/
import Derived.Lib.ItoaLen
import Derived.Test.YtjdhkpdjecegnaaGreatDoorZe
set_option linter.unusedVariables false
set_option linter.unusedSimpArgs false
set_option maxHeartbeats 2000000
set_option maxRecDepth 100000
namespace Go.Proofs.YtjdhkpdjecegnaaGreatDoor
open Go.Abs
def zGX (n : Nat) (xs : List AV) (r : Ret) : Prop:=∃ (a0 : List (List Int)) (y0 : List Int),zBh n a0 = some y0 ∧ xs = [.s (.sl 1 ((List.map zAu) a0))] ∧ r = .row 3 1 ((List.map (irow .i64)) y0)
def zDf : zAx:=zAG fun xs r => ∃ n,zGX n xs r
theorem zEm : PSound Tryz.prog 47 zDf:=by
 have gok : ∀ f s,look? f [(69,zE7)] = some s → PSound Tryz.prog f s:=zAB (by
  simp only [List.forall_mem_cons]
  exact ⟨zHA,by simp⟩)
 refine zAS tokW Tryz.call47 Tryz.func47 rfl (fun xs r h => by obtain ⟨n,_,_,_,rfl,_⟩:=h; show 1 ≤ 36; decide) 36 rfl ?_;rintro xs r w0 G0 ⟨n,slices1,y0,h,rfl,rfl⟩ _;rw [zBh] at h;refine zAa ?_;refine zAb [2] [] rfl ?_;show Tri _ _ _ _;refine zAm (Le.rename [] [(0,.s (.sl 1 ((List.map zAu) slices1)))] [] 0 ⟨rfl,trivial⟩ trivial rfl rfl rfl rfl rfl) ?_;refine zAa ?_;refine zAb [] [] rfl ?_;show Tri _ _ _ _;refine zAa ?_;refine zAa ?_;refine zAb [] [10] rfl ?_;intro n2 hn2;obtain rfl : (slices1.length : Int) = n2:=(hn2.trans (congrArg (fun m : Nat => (m : Int)) (rlen (fun _ => rfl) slices1))).symm;show Tri _ _ _ _
 obtain ⟨size5,hl,h⟩:=zAc h;refine zAp ⟨ofL [(0,.s (.sl 1 ((List.map zAu) slices1))),(3,.s (.int .i64 size5))],fun _ => none,0⟩ ?_ (fun σ' hle => ?_)
 ·refine zAk (zAA (X:=Nat × Int × Int) (fun y => match y with | (k,x3,size4) => ⟨ofL [(0,.s (.sl 1 ((List.map zAu) slices1))),(3,.s (.int .i64 size4)),(9,.s (.sl 1 ((List.map zAu) slices1))),(10,.s (.int .i64 (slices1.length : Int))),(11,.s (.int .i64 x3))],fun _ => none,0⟩) (fun y => zAT slices1 y.1 y.2.1 y.2.2 = some size5) (fun y => y.1) (n,0,0) hl ?_ ?_)
  ·exact (Le.forget _ ⟨rfl,rfl,rfl,rfl,rfl,trivial⟩)
  ·rintro ⟨k,x3,size4⟩ h;cases k with
   | zero => cases h
   | succ k =>
    replace h : zAT slices1 (k+1) x3 size4 = some size5:=h;rw [zAT] at h;refine zAa ?_;refine zAb [] [] rfl ?_;show Tri _ _ _ _;refine zAa ?_;refine zAe rfl (fun hb => ?_) (fun hb => ?_)
    ·replace h:=zAr hb h;refine zAj ?_;show Tri _ _ _ _;refine zAa ?_;refine zAk ?_;refine zAa ?_;refine zAb [] [13] rfl ?_;obtain ⟨e6,he6,h⟩:=zAc h;refine And.intro (zAw (fun _ => rfl) he6).1 ?_;intro r7 hr7;obtain rfl : [.sl 1 ((List.map (irow .i64)) e6)] = r7:=(hr7.trans (zAw (fun _ => rfl) he6).2.1).symm;show Tri _ _ _ _;refine zAa ?_;refine zAb [] [17] rfl ?_;intro n8 hn8;obtain rfl : (e6.length : Int) = n8:=(hn8.trans (congrArg (fun m : Nat => (m : Int)) (rlen (fun _ => rfl) e6))).symm;show Tri _ _ _ _;refine zAa ?_;refine zAb [] [] rfl ?_;show Tri _ _ _ _;refine zAe rfl (fun hb => ?_) (fun hb => ?_)
     ·replace h:=zAr hb h;cases h
     ·replace h:=zAq hb h;refine zAj ?_;show Tri _ _ _ _;refine zAb [] [] rfl ?_;refine ⟨(k,IntKind.i64.wrap (x3 + 1),IntKind.i64.wrap (size4 + (e6.length : Int))),h,(Le.forget _ ⟨rfl,rfl,rfl,rfl,rfl,trivial⟩),Nat.lt_succ_self k⟩
    ·replace h:=zAq hb h;refine zAC ?_;cases h;exact (Le.forget _ ⟨rfl,rfl,trivial⟩)
 ·show Tri _ _ _ _;refine zAm hle ?_;refine zAa ?_;refine zAb [24] [] rfl ?_;obtain ⟨y9,hy9,h⟩:=zAc h;refine ⟨_,⟨_,_,hy9,rfl,rfl⟩,?_⟩
  show Tri _ _ _ _;refine zAa ?_;refine zAa ?_;refine zAb [] [26] rfl ?_;intro n10 hn10;obtain rfl : (slices1.length : Int) = n10:=(hn10.trans (congrArg (fun m : Nat => (m : Int)) (rlen (fun _ => rfl) slices1))).symm;show Tri _ _ _ _;obtain ⟨l14,hl,h⟩:=zAc h;refine zAp ⟨ofL [(6,.orow 0)],ofH [(0,.row 3 1 ((List.map (irow .i64)) l14))],1⟩ ?_ (fun σ' hle => ?_)
  ·refine zAk (zAA (X:=Nat × Int × (List Int)) (fun y => match y with | (k,x11,l13) => ⟨ofL [(6,.orow 0),(25,.s (.sl 1 ((List.map zAu) slices1))),(26,.s (.int .i64 (slices1.length : Int))),(27,.s (.int .i64 x11))],ofH [(0,.row 3 1 ((List.map (irow .i64)) l13))],1⟩) (fun y => zAU slices1 y.1 y.2.1 y.2.2 = some l14) (fun y => y.1) (n,0,y9) hl ?_ ?_)
   ·exact (Le.rename [(0,0)] _ _ _ ⟨rfl,rfl,rfl,rfl,trivial⟩ ⟨rfl,⟨_,rfl,rfl⟩,trivial⟩ rfl rfl rfl rfl rfl)
   ·rintro ⟨k,x11,l13⟩ h;cases k with
    | zero => cases h
    | succ k =>
     replace h : zAU slices1 (k+1) x11 l13 = some l14:=h;rw [zAU] at h;refine zAa ?_;refine zAb [] [] rfl ?_;show Tri _ _ _ _;refine zAa ?_;refine zAe rfl (fun hb => ?_) (fun hb => ?_)
     ·replace h:=zAr hb h;refine zAj ?_;show Tri _ _ _ _;refine zAa ?_;refine zAk ?_;refine zAa ?_;refine zAb [] [29] rfl ?_;obtain ⟨e15,he15,h⟩:=zAc h;refine And.intro (zAw (fun _ => rfl) he15).1 ?_;intro r16 hr16;obtain rfl : [.sl 1 ((List.map (irow .i64)) e15)] = r16:=(hr16.trans (zAw (fun _ => rfl) he15).2.1).symm;show Tri _ _ _ _;refine zAb [33] [] rfl ?_;obtain ⟨hq,h⟩:=zAJ h
      refine And.intro (show (((List.map (irow .i64)) l13).length + ((List.map (irow .i64)) e15).length) * 8 ≤ 140737488355328 ∧ ((List.map (irow .i64)) l13).length + ((List.map (irow .i64)) e15).length ≤ 9223372036854775807 from by simp only [List.length_append,List.length_cons,List.length_nil,List.length_map,rlen (fun _ => rfl)] at hq ⊢; omega) ?_;show Tri _ _ _ _
      refine zAm (Le.rename [(1,0)] [(6,.orow 0),(25,.s (.sl 1 ((List.map zAu) slices1))),(26,.s (.int .i64 (slices1.length : Int))),(27,.s (.int .i64 x11))] [(0,.row 3 1 ((List.map (irow .i64)) (l13 ++ e15)))] 1 ⟨rfl,rfl,rfl,rfl,trivial⟩ ⟨rfl,⟨_,rfl,congrArg (Ob.row 3 1) (by simp [List.map_append,List.map_take,List.map_drop,irow,brow,zAF,List.map_cons,List.map_nil,zAy,Nd.encs_eq,Nd.enc,zAh,zAg,zAi,zAs,zAu,zAn,zAl,zAd,zAP,zAM,zAH])⟩,trivial⟩ rfl rfl rfl rfl rfl) ?_;refine zAb [] [] rfl ?_
      refine ⟨(k,IntKind.i64.wrap (x11 + 1),l13 ++ e15),h,(Le.rename [(0,0)] _ _ _ ⟨rfl,rfl,rfl,rfl,trivial⟩ ⟨rfl,⟨_,rfl,rfl⟩,trivial⟩ rfl rfl rfl rfl rfl),Nat.lt_succ_self k⟩
     ·replace h:=zAq hb h;refine zAC ?_;cases h;exact (Le.rename [(0,0)] _ _ _ ⟨rfl,trivial⟩ ⟨rfl,⟨_,rfl,rfl⟩,trivial⟩ rfl rfl rfl rfl rfl)
  ·show Tri _ _ _ _;refine zAm hle ?_;refine zAa ?_;refine zAb [] [] rfl ?_;show Tri _ _ _ _;refine zAv ?_;have hy:=Option.some.inj h;subst hy;unfold zAO;exact ⟨_,Le.refl _ _,0,rfl,rfl⟩
def zNE (n : Nat) (xs : List AV) (os : List Ob) (x : AV) (os' : List (Option Ob)) : Prop:=∃ (a0 : (Int × List Int × Int × Int × List Nd × Int × List UInt8 × List UInt8)) (a1 : List (Int × List Int × Int × Int × List Nd × Int × List UInt8 × List UInt8)) (z0 : List (Int × List Int × Int × Int × List Nd × Int × List UInt8 × List UInt8)),zCo n a0 a1 = some z0 ∧ xs = [.agg ((zAd a0).map .s),.op 0 0] ∧ os = [.box 27 [.orow 1],.row 54 8 ((List.map zAd) a1)] ∧ x = .tup [] ∧ os' = [some (.box 27 [.orow 2]),none,some (.row 54 8 ((List.map zAd) z0))]
def zGc : zAx:=zCl (fun xs os x os' => ∃ n,zNE n xs os x os')
theorem zId : PSound Tryz.prog 23 zGc:=by
 have gok : ∀ f s,look? f [(24,zNU)] = some s → PSound Tryz.prog f s:=zAB (by
  simp only [List.forall_mem_cons]
  exact ⟨zRj,by simp⟩)
 refine PSound.withNil (zGB tokW Tryz.call23 Tryz.func23 rfl (fun xs os x os' h => by obtain ⟨n,_,_,_,_,rfl,rfl,_,rfl⟩:=h; exact ⟨by show 2 ≤ 8; decide,by show 2 ≤ 3; decide⟩) 8 rfl ?_) _;rintro xs os x os' w0 G0 B0 ⟨n,⟨op1_kind,op1_row,op1_at,op1_n,op1_nodes,op1_slot,op1_old,op1_text⟩,o2,z0,h,rfl,rfl,rfl,rfl⟩ _;rw [zCo] at h;refine zAa ?_;refine zAb [] [] rfl ?_;show Tri _ _ _ _;refine zAz (by exact tokW) (by exact gok) (by exact mixed) [7] [6] [0,4,5] rfl (by decide +kernel) ?_;obtain ⟨⟨y3_kind,y3_row,y3_at,y3_n,y3_nodes,y3_slot,y3_old,y3_text⟩,hy3,h⟩:=zAc h;refine ⟨_,⟨_,_,_,hy3,rfl,rfl⟩,?_⟩
 intro r4 hr4;obtain rfl : (List.map zAd) [(y3_kind,y3_row,y3_at,y3_n,y3_nodes,y3_slot,y3_old,y3_text)] = r4:=(hr4.trans (by simp [List.map_append,List.map_take,List.map_drop,irow,brow,zAF,List.map_cons,List.map_nil,zAy,Nd.encs_eq,Nd.enc,zAh,zAg,zAi,zAs,zAu,zAn,zAl,zAd,zAP,zAM,zAH])).symm;obtain ⟨hq,h⟩:=zAJ h
 refine And.intro (show (((List.map zAd) o2).length + ((List.map zAd) [(y3_kind,y3_row,y3_at,y3_n,y3_nodes,y3_slot,y3_old,y3_text)]).length) * 112 ≤ 140737488355328 ∧ ((List.map zAd) o2).length + ((List.map zAd) [(y3_kind,y3_row,y3_at,y3_n,y3_nodes,y3_slot,y3_old,y3_text)]).length ≤ 9223372036854775807 from by simp only [List.length_append,List.length_cons,List.length_nil,List.length_map,rlen (fun _ => rfl)] at hq ⊢; omega) ?_;have hy:=Option.some.inj h;subst hy;unfold zCM
 exact ⟨_,(Le.trans (Le.rename [(0,0),(2,2)] [] [(0,.box 27 [.orow 2]),(2,.row 54 8 ((List.map zAd) (o2 ++ [(y3_kind,y3_row,y3_at,y3_n,y3_nodes,y3_slot,y3_old,y3_text)])))] 3 trivial ⟨rfl,⟨_,rfl,rfl⟩,rfl,⟨_,rfl,congrArg (Ob.row 54 8) (by simp [List.map_append,List.map_take,List.map_drop,irow,brow,zAF,List.map_cons,List.map_nil,zAy,Nd.encs_eq,Nd.enc,zAh,zAg,zAi,zAs,zAu,zAn,zAl,zAd,zAP,zAM,zAH])⟩,trivial⟩ rfl rfl rfl rfl rfl) (Le.rename [(0,0),(2,2)] [] [(0,.box 27 [.orow 2]),(2,.row 54 8 ((List.map zAd) (o2 ++ [(y3_kind,y3_row,y3_at,y3_n,y3_nodes,y3_slot,y3_old,y3_text)])))] 3 trivial ⟨rfl,⟨_,rfl,rfl⟩,rfl,⟨_,rfl,rfl⟩,trivial⟩ rfl rfl rfl rfl rfl)),rfl,rfl,rfl,rfl,rfl,rfl,trivial⟩
def zCg (n : Nat) (xs : List AV) (os : List Ob) (x : AV) (os' : List (Option Ob)) : Prop:=∃ (a0 : List Nd) (a1 : List Nd) (a2 : List Int) (a3 : List (Int × List Int × Int × Int × List Nd × Int × List UInt8 × List UInt8)) (z0 : List (Int × List Int × Int × Int × List Nd × Int × List UInt8 × List UInt8)),zA0 n a0 a1 a2 a3 = some z0 ∧ xs = [.s (.sl 4 (Nd.encs a0)),.s (.sl 4 (Nd.encs a1)),.s (.sl 1 ((List.map (irow .i64)) a2)),.clo 23 [.op 0 0]] ∧ os = [.box 27 [.orow 1],.row 54 8 ((List.map zAd) a3)] ∧ x = .tup [] ∧ os' = [some (.box 27 [.orow 2]),none,some (.row 54 8 ((List.map zAd) z0))]
theorem zG4 (n : Nat) (ih : PSound Tryz.prog 26 (zCl (zCg n))) : PSound Tryz.prog 26 (zCl (zCg (n + 1))):=by
 have gok : ∀ f s,look? f [(45,zGd),(23,zGc),(47,zDf),(26,zCl (zCg n))] = some s → PSound Tryz.prog f s:=zAB (by
  simp only [List.forall_mem_cons]
  exact ⟨zIe,zId,zEm,ih,by simp⟩)
 refine PSound.withNil (zGB tokW Tryz.call26 Tryz.func26 rfl (fun xs os x os' h => by obtain ⟨_,_,_,_,_,_,rfl,rfl,_,rfl⟩:=h; exact ⟨by show 4 ≤ 92; decide,by show 2 ≤ 3; decide⟩) 92 rfl ?_) _;rintro xs os x os' w0 G0 B0 ⟨a1,a2,a3,o4,z0,h,rfl,rfl,rfl,rfl⟩ _;rw [zA0] at h;refine zAa ?_;refine zAb [] [] rfl ?_;obtain ⟨y5,hy5,h⟩:=zAc h;refine ⟨_,⟨_,_,_,_,hy5,rfl,rfl⟩,?_⟩
 show Tri _ _ _ _;refine zAa ?_;refine zAb [] [17] rfl ?_;intro n6 hn6;obtain rfl : (a2.length : Int) = n6:=(hn6.trans (congrArg (fun m : Nat => (m : Int)) (rlen Nd.encs_eq a2))).symm;show Tri _ _ _ _;obtain ⟨l11,hl,h⟩:=zAc h;refine zAp ⟨ofL [],ofH [(0,.box 27 [.orow 2]),(2,.row 54 8 ((List.map zAd) l11))],3⟩ ?_ (fun σ' hle => ?_)
 ·refine zAk (zAA (X:=Nat × Int × (List (Int × Int)) × (List (Int × List Int × Int × Int × List Nd × Int × List UInt8 × List UInt8))) (fun y => match y with | (k,x8,x9,l10) => ⟨ofL [(0,.s (.sl 4 (Nd.encs a1))),(2,.s (.sl 1 ((List.map (irow .i64)) a3))),(3,.clo 23 [.op 0 0]),(8,.s (.sl 2 ((List.map zAl) x9))),(16,.s (.sl 4 (Nd.encs a2))),(17,.s (.int .i64 (a2.length : Int))),(18,.s (.int .i64 x8))],ofH [(0,.box 27 [.orow 2]),(2,.row 54 8 ((List.map zAd) l10))],3⟩) (fun y => zBe (zA0 n) n a1 a2 a3 y.1 y.2.1 y.2.2.1 y.2.2.2 = some l11) (fun y => y.1) (n,0,y5,o4) hl ?_ ?_)
  ·exact (Le.rename [(0,0),(1,2)] _ _ _ ⟨rfl,rfl,rfl,rfl,rfl,rfl,rfl,trivial⟩ ⟨rfl,⟨_,rfl,rfl⟩,rfl,⟨_,rfl,rfl⟩,trivial⟩ rfl rfl rfl rfl rfl)
  ·rintro ⟨k,x8,x9,l10⟩ h;cases k with
   | zero => cases h
   | succ k =>
    replace h : zBe (zA0 n) n a1 a2 a3 (k+1) x8 x9 l10 = some l11:=h;rw [zBe] at h;refine zAa ?_;refine zAb [] [] rfl ?_;show Tri _ _ _ _;refine zAa ?_;refine zAe rfl (fun hb => ?_) (fun hb => ?_)
    ·replace h:=zAr hb h;refine zAj ?_;show Tri _ _ _ _;refine zAa ?_;obtain ⟨⟨x12,l13⟩,hj,h⟩:=zAc h;refine zAp ⟨ofL [(0,.s (.sl 4 (Nd.encs a1))),(2,.s (.sl 1 ((List.map (irow .i64)) a3))),(3,.clo 23 [.op 0 0]),(8,.s (.sl 2 ((List.map zAl) x12))),(16,.s (.sl 4 (Nd.encs a2))),(17,.s (.int .i64 (a2.length : Int))),(18,.s (.int .i64 x8))],ofH [(0,.box 27 [.orow 2]),(2,.row 54 8 ((List.map zAd) l13))],3⟩ ?_ (fun σ' hle => ?_)
     ·replace h:=hj;refine zAk ?_;refine zAa ?_;refine zAb [10] [21] rfl ?_;obtain ⟨⟨e14_kind,e14_text,e14_cols,e14_kids⟩,he14,h⟩:=zAc h;refine And.intro (zAw Nd.encs_eq he14).1 ?_;intro r15 hr15;obtain rfl : [.int .i64 e14_kind,.str e14_text,.int .i64 e14_cols,.sl 4 (Nd.encs e14_kids)] = r15:=(hr15.trans (zAw Nd.encs_eq he14).2.1).symm;show Tri _ _ _ _;refine zAm (Le.giveBox 3 [.int .i64 e14_kind,.str e14_text,.int .i64 e14_cols,.sl 4 (Nd.encs e14_kids)] rfl rfl) ?_;refine zAa ?_;refine zAa ?_;obtain ⟨x16,hj,h⟩:=zAc h
      refine zAp ⟨ofL [(0,.s (.sl 4 (Nd.encs a1))),(2,.s (.sl 1 ((List.map (irow .i64)) a3))),(3,.clo 23 [.op 0 0]),(8,.s (.sl 2 ((List.map zAl) x9))),(9,.s (.int .i64 x8)),(10,.s (.pt [.int .i64 e14_kind,.str e14_text,.int .i64 e14_cols,.sl 4 (Nd.encs e14_kids)])),(16,.s (.sl 4 (Nd.encs a2))),(17,.s (.int .i64 (a2.length : Int))),(18,.s (.int .i64 x8)),(33,.s (.bool x16))],ofH [(0,.box 27 [.orow 2]),(2,.row 54 8 ((List.map zAd) l10))],3⟩ ?_ (fun σ' hle => ?_)
      ·replace h:=hj;refine zAb [] [24,26,28] rfl ?_;intro n17 hn17;obtain rfl : (x9.length : Int) = n17:=(hn17.trans (congrArg (fun m : Nat => (m : Int)) (rlen (fun _ => rfl) x9))).symm;intro b hb;cases b with
       | true =>
        replace h:=zAr hb.symm h;cases h;exact (Le.rename [(0,0),(2,2)] _ _ _ ⟨rfl,rfl,rfl,rfl,rfl,rfl,rfl,rfl,rfl,rfl,trivial⟩ ⟨rfl,⟨_,rfl,rfl⟩,rfl,⟨_,rfl,rfl⟩,trivial⟩ rfl rfl rfl rfl rfl)
       | false =>
        replace h:=zAq hb.symm h;obtain ⟨⟨e18_0,e18_1⟩,he18,h⟩:=zAc h;refine And.intro (zAw (fun _ => rfl) he18).1 ?_;intro r19 hr19;obtain rfl : [.int .i64 e18_0,.int .i64 e18_1] = r19:=(hr19.trans (zAw (fun _ => rfl) he18).2.1).symm;refine And.intro (by decide) ?_;cases h;exact (Le.rename [(0,0),(2,2)] _ _ _ ⟨rfl,rfl,rfl,rfl,rfl,rfl,rfl,rfl,rfl,rfl,trivial⟩ ⟨rfl,⟨_,rfl,rfl⟩,rfl,⟨_,rfl,rfl⟩,trivial⟩ rfl rfl rfl rfl rfl)
      ·show Tri _ _ _ _;refine zAm hle ?_;refine zAe rfl (fun hb => ?_) (fun hb => ?_)
       ·replace h:=zAr hb h;refine zAa ?_;refine zAb [] [38] rfl ?_;intro r20 hr20;obtain rfl : Nd.encs [Nd.mk e14_kind e14_text e14_cols e14_kids] = r20:=(hr20.trans (by simp [List.map_append,List.map_take,List.map_drop,irow,brow,zAF,List.map_cons,List.map_nil,zAy,Nd.encs_eq,Nd.enc,zAh,zAg,zAi,zAs,zAu,zAn,zAl,zAd,zAP,zAM,zAH])).symm;obtain ⟨w21,hw21,h⟩:=zAc h;refine ⟨_,_,⟨_,_,_,_,hw21,rfl,rfl,rfl,rfl⟩,?_⟩
        show Tri _ _ _ _;refine zAC ?_;cases h;exact (Le.rename [(0,0),(3,2)] _ _ _ ⟨rfl,rfl,rfl,rfl,rfl,rfl,rfl,trivial⟩ ⟨rfl,⟨_,rfl,rfl⟩,rfl,⟨_,rfl,rfl⟩,trivial⟩ rfl rfl rfl rfl rfl)
       ·replace h:=zAq hb h;refine zAj ?_;show Tri _ _ _ _;refine zAa ?_;refine zAb [11] [43,46] rfl ?_;obtain ⟨⟨e22_0,e22_1⟩,he22,h⟩:=zAc h;refine And.intro (zAw (fun _ => rfl) he22).1 ?_;intro r23 hr23;obtain rfl : [.int .i64 e22_0,.int .i64 e22_1] = r23:=(hr23.trans (zAw (fun _ => rfl) he22).2.1).symm;refine And.intro (by decide) ?_;obtain ⟨⟨e24_kind,e24_text,e24_cols,e24_kids⟩,he24,h⟩:=zAc h;refine And.intro (zAw Nd.encs_eq he24).1 ?_;intro r25 hr25;obtain rfl : [.int .i64 e24_kind,.str e24_text,.int .i64 e24_cols,.sl 4 (Nd.encs e24_kids)] = r25:=(hr25.trans (zAw Nd.encs_eq he24).2.1).symm;show Tri _ _ _ _
        refine zAm (Le.giveBox 3 [.int .i64 e24_kind,.str e24_text,.int .i64 e24_cols,.sl 4 (Nd.encs e24_kids)] rfl rfl) ?_;refine zAa ?_;refine zAb [] [49] rfl ?_;obtain ⟨hq,h⟩:=zAJ h;refine And.intro ⟨hq.1,Int.le_trans hq.2.1 (Int.ofNat_le.2 (Nat.le_of_eq (rlen (fun _ => rfl) _).symm)),Int.le_refl _⟩ ?_;intro r26 hr26;obtain rfl : (List.map zAl) ((x9.take (x9.length : Int).toNat).drop (1 : Int).toNat) = r26:=(hr26.trans ((congrArg (fun m : Nat => (((List.map zAl) x9).take m).drop (1 : Int).toNat) (rlen (fun _ => rfl) _)).trans (rcut (fun _ => rfl) _ _ _))).symm;show Tri _ _ _ _;refine zAa ?_;refine zAa ?_;refine zAb [] [] rfl ?_
        show Tri _ _ _ _;obtain ⟨l27,hj,h⟩:=zAc h;refine zAp ⟨ofL [(0,.s (.sl 4 (Nd.encs a1))),(2,.s (.sl 1 ((List.map (irow .i64)) a3))),(3,.clo 23 [.op 0 0]),(8,.s (.sl 2 ((List.map zAl) ((x9.take (x9.length : Int).toNat).drop (1 : Int).toNat)))),(9,.s (.int .i64 x8)),(10,.s (.pt [.int .i64 e14_kind,.str e14_text,.int .i64 e14_cols,.sl 4 (Nd.encs e14_kids)])),(11,.s (.pt [.int .i64 e24_kind,.str e24_text,.int .i64 e24_cols,.sl 4 (Nd.encs e24_kids)])),(16,.s (.sl 4 (Nd.encs a2))),(17,.s (.int .i64 (a2.length : Int))),(18,.s (.int .i64 x8))],ofH [(0,.box 27 [.orow 2]),(2,.row 54 8 ((List.map zAd) l27))],3⟩ ?_ (fun σ' hle => ?_)
        ·replace h:=hj;refine zAe rfl (fun hb => ?_) (fun hb => ?_)
         ·replace h:=zAr hb h;refine zAb [] [] rfl ?_;obtain ⟨w28,hw28,h⟩:=zAc h;refine ⟨_,_,⟨_,_,_,_,hw28,rfl,rfl,rfl,rfl⟩,?_⟩
          cases h;exact (Le.rename [(0,0),(4,2)] _ _ _ ⟨rfl,rfl,rfl,rfl,rfl,rfl,rfl,rfl,rfl,rfl,trivial⟩ ⟨rfl,⟨_,rfl,rfl⟩,rfl,⟨_,rfl,rfl⟩,trivial⟩ rfl rfl rfl rfl rfl)
         ·replace h:=zAq hb h;refine zAj ?_;cases h;exact (Le.rename [(0,0),(2,2)] _ _ _ ⟨rfl,rfl,rfl,rfl,rfl,rfl,rfl,rfl,rfl,rfl,trivial⟩ ⟨rfl,⟨_,rfl,rfl⟩,rfl,⟨_,rfl,rfl⟩,trivial⟩ rfl rfl rfl rfl rfl)
        ·show Tri _ _ _ _;refine zAm hle ?_;refine zAa ?_;refine zAb [] [66] rfl ?_;intro n29 hn29;obtain rfl : (e14_kids.length : Int) = n29:=(hn29.trans (congrArg (fun m : Nat => (m : Int)) (rlen Nd.encs_eq e14_kids))).symm;show Tri _ _ _ _;obtain ⟨l33,hl,h⟩:=zAc h
         refine zAp ⟨ofL [(0,.s (.sl 4 (Nd.encs a1))),(2,.s (.sl 1 ((List.map (irow .i64)) a3))),(3,.clo 23 [.op 0 0]),(8,.s (.sl 2 ((List.map zAl) ((x9.take (x9.length : Int).toNat).drop (1 : Int).toNat)))),(16,.s (.sl 4 (Nd.encs a2))),(17,.s (.int .i64 (a2.length : Int))),(18,.s (.int .i64 x8))],ofH [(0,.box 27 [.orow 2]),(2,.row 54 8 ((List.map zAd) l33))],3⟩ ?_ (fun σ' hle => ?_)
         ·refine zAk (zAA (X:=Nat × Int × (List (Int × List Int × Int × Int × List Nd × Int × List UInt8 × List UInt8))) (fun y => match y with | (k,x31,l32) => ⟨ofL [(0,.s (.sl 4 (Nd.encs a1))),(2,.s (.sl 1 ((List.map (irow .i64)) a3))),(3,.clo 23 [.op 0 0]),(8,.s (.sl 2 ((List.map zAl) ((x9.take (x9.length : Int).toNat).drop (1 : Int).toNat)))),(9,.s (.int .i64 x8)),(10,.s (.pt [.int .i64 e14_kind,.str e14_text,.int .i64 e14_cols,.sl 4 (Nd.encs e14_kids)])),(11,.s (.pt [.int .i64 e24_kind,.str e24_text,.int .i64 e24_cols,.sl 4 (Nd.encs e24_kids)])),(16,.s (.sl 4 (Nd.encs a2))),(17,.s (.int .i64 (a2.length : Int))),(18,.s (.int .i64 x8)),(66,.s (.int .i64 (e14_kids.length : Int))),(67,.s (.int .i64 x31))],ofH [(0,.box 27 [.orow 2]),(2,.row 54 8 ((List.map zAd) l32))],3⟩) (fun y => zBf (zA0 n) n a3 x8 e14_kids e24_kids y.1 y.2.1 y.2.2 = some l33) (fun y => y.1) (n,0,l27) hl ?_ ?_)
          ·exact (Le.rename [(0,0),(2,2)] _ _ _ ⟨rfl,rfl,rfl,rfl,rfl,rfl,rfl,rfl,rfl,rfl,rfl,rfl,trivial⟩ ⟨rfl,⟨_,rfl,rfl⟩,rfl,⟨_,rfl,rfl⟩,trivial⟩ rfl rfl rfl rfl rfl)
          ·rintro ⟨k,x31,l32⟩ h;cases k with
           | zero => cases h
           | succ k =>
            replace h : zBf (zA0 n) n a3 x8 e14_kids e24_kids (k+1) x31 l32 = some l33:=h;rw [zBf] at h;refine zAa ?_;refine zAb [] [] rfl ?_;show Tri _ _ _ _;refine zAa ?_;refine zAe rfl (fun hb => ?_) (fun hb => ?_)
            ·replace h:=zAr hb h;refine zAj ?_;show Tri _ _ _ _;refine zAa ?_;refine zAk ?_;refine zAa ?_;refine zAb [] [] rfl ?_;show Tri _ _ _ _;refine zAz (by exact tokW) (by exact gok) (by exact mixed) [] [73,79,85,86] [19] rfl (by decide +kernel) ?_;obtain ⟨⟨e34_kind,e34_text,e34_cols,e34_kids⟩,he34,h⟩:=zAc h;refine And.intro (zAw Nd.encs_eq he34).1 ?_;intro r35 hr35;obtain rfl : [.int .i64 e34_kind,.str e34_text,.int .i64 e34_cols,.sl 4 (Nd.encs e34_kids)] = r35:=(hr35.trans (zAw Nd.encs_eq he34).2.1).symm;obtain ⟨⟨e36_kind,e36_text,e36_cols,e36_kids⟩,he36,h⟩:=zAc h
             refine And.intro (zAw Nd.encs_eq he36).1 ?_;intro r37 hr37;obtain rfl : [.int .i64 e36_kind,.str e36_text,.int .i64 e36_cols,.sl 4 (Nd.encs e36_kids)] = r37:=(hr37.trans (zAw Nd.encs_eq he36).2.1).symm;intro r38 hr38;obtain rfl : (List.map (irow .i64)) [x8,x31] = r38:=(hr38.trans (by simp [List.map_append,List.map_take,List.map_drop,irow,brow,zAF,List.map_cons,List.map_nil,zAy,Nd.encs_eq,Nd.enc,zAh,zAg,zAi,zAs,zAu,zAn,zAl,zAd,zAP,zAM,zAH])).symm;intro r39 hr39
             obtain rfl : (List.map zAu) [a3,[x8,x31]] = r39:=(hr39.trans (by simp [List.map_append,List.map_take,List.map_drop,irow,brow,zAF,List.map_cons,List.map_nil,zAy,Nd.encs_eq,Nd.enc,zAh,zAg,zAi,zAs,zAu,zAn,zAl,zAd,zAP,zAM,zAH])).symm;obtain ⟨y40,hy40,h⟩:=zAc h;refine ⟨_,⟨_,_,_,hy40,rfl,rfl⟩,?_⟩
             obtain ⟨w41,hw41,h⟩:=zAc h;refine ⟨_,_,⟨_,_,_,_,_,hw41,rfl,rfl,rfl,rfl⟩,?_⟩
             show Tri _ _ _ _;refine zAb [] [] rfl ?_;refine ⟨(k,IntKind.i64.wrap (x31 + 1),w41),h,(Le.rename [(0,0),(3,2)] _ _ _ ⟨rfl,rfl,rfl,rfl,rfl,rfl,rfl,rfl,rfl,rfl,rfl,rfl,trivial⟩ ⟨rfl,⟨_,rfl,rfl⟩,rfl,⟨_,rfl,rfl⟩,trivial⟩ rfl rfl rfl rfl rfl),Nat.lt_succ_self k⟩
            ·replace h:=zAq hb h;refine zAC ?_;cases h;exact (Le.rename [(0,0),(2,2)] _ _ _ ⟨rfl,rfl,rfl,rfl,rfl,rfl,rfl,trivial⟩ ⟨rfl,⟨_,rfl,rfl⟩,rfl,⟨_,rfl,rfl⟩,trivial⟩ rfl rfl rfl rfl rfl)
         ·cases h;exact (Le.trans hle (Le.rename [(0,0),(2,2)] _ _ _ ⟨rfl,rfl,rfl,rfl,rfl,rfl,rfl,trivial⟩ ⟨rfl,⟨_,rfl,rfl⟩,rfl,⟨_,rfl,rfl⟩,trivial⟩ rfl rfl rfl rfl rfl))
     ·show Tri _ _ _ _;refine zAm hle ?_;refine zAb [] [] rfl ?_;refine ⟨(k,IntKind.i64.wrap (x8 + 1),x12,l13),h,(Le.rename [(0,0),(2,2)] _ _ _ ⟨rfl,rfl,rfl,rfl,rfl,rfl,rfl,trivial⟩ ⟨rfl,⟨_,rfl,rfl⟩,rfl,⟨_,rfl,rfl⟩,trivial⟩ rfl rfl rfl rfl rfl),Nat.lt_succ_self k⟩
    ·replace h:=zAq hb h;refine zAC ?_;cases h;exact (Le.rename [(0,0),(2,2)] _ _ _ trivial ⟨rfl,⟨_,rfl,rfl⟩,rfl,⟨_,rfl,rfl⟩,trivial⟩ rfl rfl rfl rfl rfl)
 ·have hy:=Option.some.inj h;subst hy;unfold zCM;exact ⟨_,(Le.trans hle (Le.rename [(0,0),(2,2)] [] [(0,.box 27 [.orow 2]),(2,.row 54 8 ((List.map zAd) l11))] 3 trivial ⟨rfl,⟨_,rfl,rfl⟩,rfl,⟨_,rfl,rfl⟩,trivial⟩ rfl rfl rfl rfl rfl)),rfl,rfl,rfl,rfl,rfl,rfl,trivial⟩
theorem zHp : ∀ n,PSound Tryz.prog 26 (zCl (zCg n)):=by
 intro n
 induction n with
 | zero => exact zHC Tryz.call26 (fun xs os x os' h => by obtain ⟨_,_,_,_,_,h,_⟩:=h; cases h) _
 | succ n ih => exact zG4 n ih
def zFs : zAx:=zCl (fun xs os x os' => ∃ n,zCg n xs os x os')
theorem zIf : PSound Tryz.prog 26 zFs:=zII zHp _
theorem zF5 {F : List Nd → List Nd → List Int → List (Int × List Int × Int × Int × List Nd × Int × List UInt8 × List UInt8) → Option (List (Int × List Int × Int × Int × List Nd × Int × List UInt8 × List UInt8))} {n : Nat} {xk yk : List Nd} {path : List Int} {j : Int} {o : List (Int × List Int × Int × Int × List Nd × Int × List UInt8 × List UInt8)} : ∀ {N : Nat} {y0 : List (Int × List Int × Int × Int × List Nd × Int × List UInt8 × List UInt8)},zBs F n xk yk path j o N = some y0 → ∃ A : Nat → List (Int × List Int × Int × Int × List Nd × Int × List UInt8 × List UInt8),A 0 = o ∧ A N = y0 ∧ ∀ i,i < N →
  ((at? xk ((xk.length - 1 - i : Nat) : Int)).bind fun ⟨u_kind,u_text,u_cols,u_kids⟩ => (at? yk ((xk.length - 1 - i : Nat) : Int)).bind fun ⟨v_kind,v_text,v_cols,v_kids⟩ => (zBh n [path,[j,((xk.length - 1 - i : Nat) : Int)]]).bind fun y => F u_kids v_kids y (A i)) = some (A (i + 1))
 | 0,y0,h => ⟨fun _ => o,rfl,Option.some.inj h,fun i hi => by omega⟩
 | N + 1,y0,h => by
  unfold zBs at h;obtain ⟨acc,h1,h⟩:=zAc h;obtain ⟨A,q1,q2,q3⟩:=zF5 h1;refine ⟨fun i => if i = N + 1 then y0 else A i,by dsimp only; rw [if_neg (by omega)]; exact q1,by dsimp only; rw [if_pos rfl],fun i hi => ?_⟩
  dsimp only;rw [if_neg (by omega : ¬ i = N + 1)]
  by_cases e : i = N
  ·subst e;rw [if_pos rfl,q2]
   exact h
  ·rw [if_neg (by omega)]
   exact q3 i (by omega)
theorem zF4 {F : List Nd → List Nd → List Int → List (Int × List Int × Int × Int × List Nd × Int × List UInt8 × List UInt8) → Option (List (Int × List Int × Int × Int × List Nd × Int × List UInt8 × List UInt8))} {n : Nat} {a b : List Nd} {path : List Int} {p : List (Int × Int)} {o : List (Int × List Int × Int × Int × List Nd × Int × List UInt8 × List UInt8)} : ∀ {N : Nat} {y0 : List (Int × Int)} {z0 : List (Int × List Int × Int × Int × List Nd × Int × List UInt8 × List UInt8)},zBr F n a b path p o N = some (y0,z0) → ∃ (P : Nat → List (Int × Int)) (O : Nat → List (Int × List Int × Int × Int × List Nd × Int × List UInt8 × List UInt8)),P 0 = p ∧ O 0 = o ∧ P N = y0 ∧ O N = z0 ∧ ∀ i,i < N →
  ∃ x,a[a.length - 1 - i]? = some x ∧ zBI F n b path ((a.length - 1 - i : Nat) : Int) x (P i) (O i) = some (P (i + 1),O (i + 1))
 | 0,y0,z0,h => by
  obtain ⟨h1,h2⟩:=Prod.mk.inj (Option.some.inj h)
  exact ⟨fun _ => p,fun _ => o,rfl,rfl,h1,h2,fun i hi => by omega⟩
 | N + 1,y0,z0,h => by
  unfold zBr at h;obtain ⟨⟨p1,o1⟩,h1,h⟩:=zAc h;obtain ⟨x,hx,h⟩:=zAc h;obtain ⟨P,O,q1,q2,q3,q4,q5⟩:=zF4 h1;refine ⟨fun i => if i = N + 1 then y0 else P i,fun i => if i = N + 1 then z0 else O i,by dsimp only; rw [if_neg (by omega)]; exact q1,by dsimp only; rw [if_neg (by omega)]; exact q2,by dsimp only; rw [if_pos rfl],by dsimp only; rw [if_pos rfl],fun i hi => ?_⟩
  dsimp only;rw [if_neg (by omega : ¬ i = N + 1),if_neg (by omega : ¬ i = N + 1)]
  by_cases e : i = N
  ·subst e;rw [if_pos rfl,if_pos rfl,q3,q4]
   exact ⟨x,hx,h⟩
  ·rw [if_neg (by omega),if_neg (by omega)]
   exact q5 i (by omega)
def zCC (n : Nat) (xs : List AV) (os : List Ob) (x : AV) (os' : List (Option Ob)) : Prop:=∃ (a0 : List Nd) (a1 : List Nd) (a2 : List Int) (a3 : List (Int × List Int × Int × Int × List Nd × Int × List UInt8 × List UInt8)) (z0 : List (Int × List Int × Int × Int × List Nd × Int × List UInt8 × List UInt8)),zBK n a0 a1 a2 a3 = some z0 ∧ xs = [.s (.sl 4 (Nd.encs a0)),.s (.sl 4 (Nd.encs a1)),.s (.sl 1 ((List.map (irow .i64)) a2)),.clo 23 [.op 0 0]] ∧ os = [.box 27 [.orow 1],.row 54 8 ((List.map zAd) a3)] ∧ x = .tup [] ∧ os' = [some (.box 27 [.orow 2]),none,some (.row 54 8 ((List.map zAd) z0))]
theorem zHH (n : Nat) (ih : PSound Tryz.prog 25 (zCl (zCC n))) : PSound Tryz.prog 25 (zCl (zCC (n + 1))):=by
 have gok : ∀ f s,look? f [(45,zGd),(46,zDD),(23,zGc),(47,zDf),(25,zCl (zCC n))] = some s → PSound Tryz.prog f s:=zAB (by
  simp only [List.forall_mem_cons]
  exact ⟨zIe,zFH,zId,zEm,ih,by simp⟩)
 refine PSound.withNil (zUk Tryz.call25 Tryz.func25 rfl (fun xs os x os' h => by obtain ⟨_,_,_,_,_,_,rfl,rfl,_,rfl⟩:=h; exact ⟨by show 4 ≤ 81; decide,by show 2 ≤ 3; decide⟩) 81 rfl ?_) _;rintro xs os x os' w0 G0 B0 ⟨a1,b2,path3,o4,z0,h,rfl,rfl,rfl,rfl⟩ _;rw [zBK] at h;obtain ⟨y5,hy5,h⟩:=zAc h;obtain ⟨hla,h⟩:=zAJ h;obtain ⟨⟨p6,l6⟩,hr,h⟩:=zAc h;obtain rfl : l6 = z0:=Option.some.inj h;obtain ⟨P,O,hP0,hO0,hPN,hON,hst⟩:=zF4 hr
 clear h hr
 refine zNx rfl ?_;refine zAb [7] [] rfl ?_;refine ⟨rfl,?_⟩
 refine zNx rfl ?_;refine zAb [8] [] rfl ?_;refine ⟨_,⟨_,_,_,_,hy5,rfl,rfl⟩,?_⟩
 refine ⟨rfl,?_⟩
 refine zNx rfl ?_;refine zAb [] [] rfl ?_;refine ⟨_,⟨_,rfl,rfl⟩,?_⟩
 refine ⟨rfl,?_⟩
 refine zTR (Le.rename [(0,0),(2,2),(3,3),(1,4)] [(5,.s (.pt [.sl 4 (Nd.encs b2)])),(6,.s (.pt [.sl 1 ((List.map (irow .i64)) path3)])),(7,.op 2 0),(8,.op 3 0),(17,.clo 68 [.s (.pt [.sl 4 (Nd.encs a1)])])] [(0,.box 27 [.orow 4]),(2,.box 56 [.clo 23 [.op 0 0]]),(3,.box 78 [.s (.sl 2 ((List.map zAl) y5))]),(4,.row 54 8 ((List.map zAd) o4))] 5 ⟨rfl,rfl,rfl,rfl,rfl,trivial⟩ ⟨rfl,⟨_,rfl,rfl⟩,rfl,⟨_,rfl,rfl⟩,rfl,⟨_,rfl,rfl⟩,rfl,⟨_,rfl,rfl⟩,trivial⟩ rfl rfl rfl rfl rfl) ?_;refine zRy ?_
 refine zRz rfl rfl (sz:=4) (rows:=Nd.encs a1) zRK Tryz.call68 rfl (fun r hr => by rw [Nd.encs_eq] at hr; obtain ⟨o,_,rfl⟩:=List.mem_map.1 hr; cases o; rfl) (by rw [rlen Nd.encs_eq]; omega)
  (fun i => (ofH [(0,.box 27 [.orow 4]),(2,.box 56 [.clo 23 [.op 0 0]]),(3,.box 78 [.s (.sl 2 ((List.map zAl) (P i)))]),(4,.row 54 8 ((List.map zAd) (O i)))],5)) (by dsimp only; rw [hP0,hO0]) 4 (zIa rfl) (by show 2 ≤ 4; decide) (fun _ => by show 4 ≤ 5; decide) (by show 18 < 81; decide) (by show 19 < 81; decide) ?_ ?_
 ·intro i j row hij hrow l w X G B hl;rw [rlen Nd.encs_eq] at hij;obtain ⟨⟨x_kind,x_text,x_cols,x_kids⟩,hx,h⟩:=hst i (by omega)
  rw [show a1.length - 1 - i = j by omega] at hx h;rw [Nd.encs_eq,List.getElem?_map,hx] at hrow;obtain rfl:=Option.some.inj hrow;refine zAa ?_;refine zAb [9] [] rfl ?_;show Tri _ _ _ _;refine zAb [10] [] rfl ?_;refine ⟨rfl,fun w X G B hl => ?_⟩
  refine zAm (Le.giveBox 5 [.int .i64 (j : Int)] rfl rfl) ?_;refine zAm (Le.giveBox 6 [.int .i64 x_kind,.str x_text,.int .i64 x_cols,.sl 4 (Nd.encs x_kids)] rfl rfl) ?_;refine zAk ?_;rw [zBI] at h;refine zAa ?_;refine zAa ?_;obtain ⟨c,hj,h⟩:=zAc h
  refine zAp ⟨ofL [(5,.s (.pt [.sl 4 (Nd.encs b2)])),(6,.s (.pt [.sl 1 ((List.map (irow .i64)) path3)])),(7,.op 2 0),(8,.op 3 0),(9,.s (.pt [.int .i64 (j : Int)])),(10,.s (.pt [.int .i64 x_kind,.str x_text,.int .i64 x_cols,.sl 4 (Nd.encs x_kids)])),(33,.s (.bool c))],ofH [(0,.box 27 [.orow 4]),(2,.box 56 [.clo 23 [.op 0 0]]),(3,.box 78 [.s (.sl 2 ((List.map zAl) (P i)))]),(4,.row 54 8 ((List.map zAd) (O i)))],5⟩ ?_ (fun σ' hle => ?_)
  ·replace h:=hj;refine zDB (by exact tokW) (by exact gok) (by exact mixed) [] [21,23,26,28] [0,4,5] [0,4,5] rfl (by decide +kernel) ?_;intro n17 hn17;obtain rfl : ((P i).length : Int) = n17:=(hn17.trans (congrArg (fun m : Nat => (m : Int)) (rlen (fun _ => rfl) (P i)))).symm;intro b hb;cases b with
   | true =>
    replace h:=zAr hb.symm h;cases h;exact (Le.rename [(0,0),(2,2),(3,3),(4,4)] _ _ _ ⟨rfl,rfl,rfl,rfl,rfl,rfl,rfl,trivial⟩ ⟨rfl,⟨_,rfl,rfl⟩,rfl,⟨_,rfl,rfl⟩,rfl,⟨_,rfl,rfl⟩,rfl,⟨_,rfl,rfl⟩,trivial⟩ rfl rfl rfl rfl rfl)
   | false =>
    replace h:=zAq hb.symm h;obtain ⟨⟨e18_0,e18_1⟩,he18,h⟩:=zAc h;intro n19 hn19;obtain rfl : ((P i).length : Int) = n19:=(hn19.trans (congrArg (fun m : Nat => (m : Int)) (rlen (fun _ => rfl) (P i)))).symm;refine And.intro (zAw (fun _ => rfl) he18).1 ?_;intro r19 hr19;obtain rfl : [.int .i64 e18_0,.int .i64 e18_1] = r19:=(hr19.trans (zAw (fun _ => rfl) he18).2.1).symm;refine And.intro (by decide) ?_;cases h;exact (Le.rename [(0,0),(2,2),(3,3),(4,4)] _ _ _ ⟨rfl,rfl,rfl,rfl,rfl,rfl,rfl,trivial⟩ ⟨rfl,⟨_,rfl,rfl⟩,rfl,⟨_,rfl,rfl⟩,rfl,⟨_,rfl,rfl⟩,rfl,⟨_,rfl,rfl⟩,trivial⟩ rfl rfl rfl rfl rfl)
  ·show Tri _ _ _ _;refine zAm hle ?_;refine zAe rfl (fun hb => ?_) (fun hb => ?_)
   ·replace h:=zAr hb h;refine zAa ?_;refine zAb [] [38] rfl ?_;intro r20 hr20;obtain rfl : Nd.encs [Nd.mk x_kind x_text x_cols x_kids] = r20:=hr20.symm;obtain ⟨w21,hw21,h⟩:=zAc h;refine ⟨_,_,⟨_,_,_,_,hw21,rfl,rfl,rfl,rfl⟩,?_⟩
    show Tri _ _ _ _;refine zAC ?_;obtain ⟨hP,hO⟩:=Prod.mk.inj (Option.some.inj h)
    refine ⟨rfl,_,Le.rename [(0,0),(2,2),(3,3),(5,4)] [] [(0,.box 27 [.orow 4]),(2,.box 56 [.clo 23 [.op 0 0]]),(3,.box 78 [.s (.sl 2 ((List.map zAl) (P (i + 1))))]),(4,.row 54 8 ((List.map zAd) (O (i + 1))))] 5 trivial ⟨rfl,⟨_,rfl,rfl⟩,rfl,⟨_,rfl,rfl⟩,rfl,⟨_,rfl,by rw [← hP]; rfl⟩,rfl,⟨_,rfl,by rw [← hO]; rfl⟩,trivial⟩ rfl rfl rfl rfl rfl,rfl,rfl⟩
   ·replace h:=zAq hb h;refine zAj ?_;show Tri _ _ _ _;refine zAa ?_;refine zDB (by exact tokW) (by exact gok) (by exact mixed) [11] [44,46,49] [1,2,10,11] [1,2] rfl (by decide +kernel) ?_;obtain ⟨⟨e22_0,e22_1⟩,he22,h⟩:=zAc h;intro n20 hn20;obtain rfl : ((P i).length : Int) = n20:=(hn20.trans (congrArg (fun m : Nat => (m : Int)) (rlen (fun _ => rfl) (P i)))).symm;refine And.intro (zAw (fun _ => rfl) he22).1 ?_;intro r23 hr23;obtain rfl : [.int .i64 e22_0,.int .i64 e22_1] = r23:=(hr23.trans (zAw (fun _ => rfl) he22).2.1).symm;refine And.intro (by decide) ?_;obtain ⟨⟨y_kind,y_text,y_cols,y_kids⟩,he24,h⟩:=zAc h
    refine And.intro (zAw Nd.encs_eq he24).1 ?_;intro r25 hr25;obtain rfl : [.int .i64 y_kind,.str y_text,.int .i64 y_cols,.sl 4 (Nd.encs y_kids)] = r25:=(hr25.trans (zAw Nd.encs_eq he24).2.1).symm;show Tri _ _ _ _;refine zAm (Le.giveBox 5 [.int .i64 y_kind,.str y_text,.int .i64 y_cols,.sl 4 (Nd.encs y_kids)] rfl rfl) ?_;obtain ⟨hq,h⟩:=zAJ h;obtain ⟨w,hw,h⟩:=zAc h;obtain ⟨hP,hO⟩:=Prod.mk.inj (Option.some.inj h)
    obtain ⟨A,hA0,hAN,hin⟩:=zF5 hw;refine zAa ?_;refine zAb [] [53,55] rfl ?_;intro n26 hn26;obtain rfl : ((P i).length : Int) = n26:=(hn26.trans (congrArg (fun m : Nat => (m : Int)) (rlen (fun _ => rfl) (P i)))).symm;refine And.intro ⟨Int.le_refl _,hq.1,Int.le_trans hq.2.1 (Int.ofNat_le.2 (Nat.le_of_eq (rlen (fun _ => rfl) _).symm))⟩ ?_;intro r26 hr26;obtain rfl : (List.map zAl) (P (i + 1)) = r26 :=(by rw [hr26,← hP,List.map_take]; rfl);show Tri _ _ _ _;refine zAa ?_;refine zAb [] [] rfl ?_;refine ⟨_,⟨_,rfl,rfl⟩,?_⟩
    show Tri _ _ _ _
    refine zAm (Le.rename [(0,0),(2,2),(3,3),(4,4)] [(6,.s (.pt [.sl 1 ((List.map (irow .i64)) path3)])),(7,.op 2 0),(9,.s (.pt [.int .i64 (j : Int)])),(10,.s (.pt [.int .i64 x_kind,.str x_text,.int .i64 x_cols,.sl 4 (Nd.encs x_kids)])),(11,.s (.pt [.int .i64 y_kind,.str y_text,.int .i64 y_cols,.sl 4 (Nd.encs y_kids)])),(58,.clo 68 [.s (.pt [.sl 4 (Nd.encs x_kids)])])] [(0,.box 27 [.orow 4]),(2,.box 56 [.clo 23 [.op 0 0]]),(3,.box 78 [.s (.sl 2 ((List.map zAl) (P (i + 1))))]),(4,.row 54 8 ((List.map zAd) (O i)))] 5 ⟨rfl,rfl,rfl,rfl,rfl,rfl,trivial⟩ ⟨rfl,⟨_,rfl,rfl⟩,rfl,⟨_,rfl,rfl⟩,rfl,⟨_,rfl,rfl⟩,rfl,⟨_,rfl,rfl⟩,trivial⟩ rfl rfl rfl rfl rfl) ?_
    refine zAk ?_;refine zRw rfl hl (sz:=4) (rows:=Nd.encs x_kids) zRK Tryz.call68 rfl (fun r hr => by rw [Nd.encs_eq] at hr; obtain ⟨o,_,rfl⟩:=List.mem_map.1 hr; cases o; rfl) (by rw [rlen Nd.encs_eq]; omega)
     (fun q => (ofH [(0,.box 27 [.orow 4]),(2,.box 56 [.clo 23 [.op 0 0]]),(3,.box 78 [.s (.sl 2 ((List.map zAl) (P (i + 1))))]),(4,.row 54 8 ((List.map zAd) (A q)))],5)) (by dsimp only; rw [hA0]) 4 (zIa rfl) (Nat.le_refl _) (fun _ => by show 4 ≤ 5; decide) (by show 59 < 81; decide) (by show 60 < 81; decide) ?_ ?_
    ·intro i2 j2 row hij2 hrow2 l2 w X G B hl2;rw [rlen Nd.encs_eq] at hij2;have h:=hin i2 (by omega)
     rw [show x_kids.length - 1 - i2 = j2 by omega] at h;refine zAb [] [] rfl ?_;refine ⟨rfl,fun w X G B hl2 => ?_⟩
     refine zAk ?_;refine zAz (by exact tokW) (by exact gok) (by exact mixed) [] [64,70,76,77] [18,19] rfl (by decide +kernel) ?_;obtain ⟨⟨u_kind,u_text,u_cols,u_kids⟩,he34,h⟩:=zAc h;refine And.intro (zAw Nd.encs_eq he34).1 ?_;intro r35 hr35;obtain rfl : [.int .i64 u_kind,.str u_text,.int .i64 u_cols,.sl 4 (Nd.encs u_kids)] = r35:=(hr35.trans (zAw Nd.encs_eq he34).2.1).symm;obtain ⟨⟨v_kind,v_text,v_cols,v_kids⟩,he36,h⟩:=zAc h;refine And.intro (zAw Nd.encs_eq he36).1 ?_;intro r37 hr37;obtain rfl : [.int .i64 v_kind,.str v_text,.int .i64 v_cols,.sl 4 (Nd.encs v_kids)] = r37:=(hr37.trans (zAw Nd.encs_eq he36).2.1).symm
     intro r38 hr38;obtain rfl : (List.map (irow .i64)) [(j : Int),(j2 : Int)] = r38:=hr38.symm;intro r39 hr39;obtain rfl : (List.map zAu) [path3,[(j : Int),(j2 : Int)]] = r39:=hr39.symm;obtain ⟨y40,hy40,h⟩:=zAc h;refine ⟨_,⟨_,_,_,hy40,rfl,rfl⟩,?_⟩
     refine ⟨_,_,⟨_,_,_,_,_,h,rfl,rfl,rfl,rfl⟩,?_⟩
     refine ⟨rfl,_,Le.rename [(0,0),(2,2),(3,3),(5,4)] [] [(0,.box 27 [.orow 4]),(2,.box 56 [.clo 23 [.op 0 0]]),(3,.box 78 [.s (.sl 2 ((List.map zAl) (P (i + 1))))]),(4,.row 54 8 ((List.map zAd) (A (i2 + 1))))] 5 trivial ⟨rfl,⟨_,rfl,rfl⟩,rfl,⟨_,rfl,rfl⟩,rfl,⟨_,rfl,rfl⟩,rfl,⟨_,rfl,rfl⟩,trivial⟩ rfl rfl rfl rfl rfl,rfl,rfl⟩
    ·rw [rlen Nd.encs_eq,hAN]
     refine ⟨rfl,_,Le.rename [(0,0),(2,2),(3,3),(4,4)] [] [(0,.box 27 [.orow 4]),(2,.box 56 [.clo 23 [.op 0 0]]),(3,.box 78 [.s (.sl 2 ((List.map zAl) (P (i + 1))))]),(4,.row 54 8 ((List.map zAd) (O (i + 1))))] 5 trivial ⟨rfl,⟨_,rfl,rfl⟩,rfl,⟨_,rfl,rfl⟩,rfl,⟨_,rfl,rfl⟩,rfl,⟨_,rfl,by rw [← hO]; rfl⟩,trivial⟩ rfl rfl rfl rfl rfl,rfl,rfl⟩
 ·intro D w2 X G2 G' β' a2 hsw hc;rw [rlen Nd.encs_eq,hPN,hON] at hc;refine zTk (c:=zD3 Tryz.prog w0 B0 2 G0 81) tokW hsw rfl rfl rfl hc ?_;refine zPL ?_;unfold zCM;exact ⟨_,(Le.rename [(0,0),(4,2)] [] [(0,.box 27 [.orow 2]),(2,.row 54 8 ((List.map zAd) l6))] 3 trivial ⟨rfl,⟨_,rfl,rfl⟩,rfl,⟨_,rfl,rfl⟩,trivial⟩ rfl rfl rfl rfl rfl),rfl,rfl,rfl,rfl,rfl,rfl,trivial⟩
theorem zHX : ∀ n,PSound Tryz.prog 25 (zCl (zCC n)):=by
 intro n
 induction n with
 | zero => exact zHC Tryz.call25 (fun xs os x os' h => by obtain ⟨_,_,_,_,_,h,_⟩:=h; cases h) _
 | succ n ih => exact zHH n ih
def zF3 : zAx:=zCl (fun xs os x os' => ∃ n,zCC n xs os x os')
theorem zIG : PSound Tryz.prog 25 zF3:=zII zHX _
def zQV (n : Nat) (xs : List AV) (r : Ret) : Prop:=∃ (a0 : Nd) (a1 : Nd) (y0 : List (Int × List Int × Int × Int × List Nd × Int × List UInt8 × List UInt8)) (y1 : Int),zDY n a0 a1 = some (y0,y1) ∧ xs = [.agg ((Nd.enc a0).map .s),.agg ((Nd.enc a1).map .s)] ∧ r = .val (.tup [.s (.sl 8 ((List.map zAd) y0)),.s (.int .i64 y1)])
def zLB : zAx:=zAG fun xs r => ∃ n,zQV n xs r
theorem zPT : PSound Tryz.prog 8 zLB:=by
 have gok : ∀ f s,look? f [(22,zGe),(25,zF3),(26,zFs)] = some s → PSound Tryz.prog f s:=zAB (by
  simp only [List.forall_mem_cons]
  exact ⟨zIg,zIG,zIf,by simp⟩)
 refine zAS tokW Tryz.call8 Tryz.func8 rfl (fun xs r h => by obtain ⟨n,_,_,_,_,_,rfl,_⟩:=h; show 2 ≤ 26; decide) 26 rfl ?_;rintro xs r w0 G0 ⟨n,⟨a1_kind,a1_text,a1_cols,a1_kids⟩,⟨b2_kind,b2_text,b2_cols,b2_kids⟩,y0,y1,h,rfl,rfl⟩ _;rw [zDY] at h;refine zAa ?_;refine zAb [] [] rfl ?_;show Tri _ _ _ _;refine zAa ?_;refine zAa ?_;refine zAb [] [] rfl ?_;obtain ⟨y3,hy3,h⟩:=zAc h;refine ⟨_,⟨_,_,_,_,hy3,rfl,rfl⟩,?_⟩
 show Tri _ _ _ _;refine zAe rfl (fun hb => ?_) (fun hb => ?_)
 ·replace h:=zAr hb h;refine zAa ?_;refine zAb [] [] rfl ?_;show Tri _ _ _ _;refine zAv ?_;obtain ⟨hj1,hk1⟩:=Prod.mk.inj (Option.some.inj h)
  subst hj1;subst hk1;unfold zAO;exact ⟨_,Le.refl _ _,rfl,rfl⟩
 ·replace h:=zAq hb h;refine zAj ?_;show Tri _ _ _ _;refine zAa ?_;refine zAb [6] [] rfl ?_;show Tri _ _ _ _;refine zAm (Le.trans (Le.rename [(0,0)] [(2,.s (.pt [.int .i64 a1_kind,.str a1_text,.int .i64 a1_cols,.sl 4 (Nd.encs a1_kids)])),(3,.s (.pt [.int .i64 b2_kind,.str b2_text,.int .i64 b2_cols,.sl 4 (Nd.encs b2_kids)])),(6,.op 0 0)] [(0,.box 27 [.nl 8])] 1 ⟨rfl,rfl,rfl,trivial⟩ ⟨rfl,⟨_,rfl,rfl⟩,trivial⟩ rfl rfl rfl rfl rfl) (Le.takeNil 0 0 54 rfl rfl (by decide))) ?_;refine zAa ?_;refine zAb [] [] rfl ?_;show Tri _ _ _ _;refine zAa ?_;refine zAb [] [] rfl ?_;obtain ⟨w4,hw4,h⟩:=zAc h
  refine ⟨_,_,⟨_,_,_,_,_,_,hw4,rfl,rfl,rfl,rfl⟩,?_⟩
  show Tri _ _ _ _;refine zAa ?_;refine zAb [] [] rfl ?_;obtain ⟨w5,hw5,h⟩:=zAc h;refine ⟨_,_,⟨_,_,_,_,_,_,hw5,rfl,rfl,rfl,rfl⟩,?_⟩
  show Tri _ _ _ _;refine zAa ?_;refine zAb [] [] rfl ?_;show Tri _ _ _ _;refine zAv ?_;obtain ⟨hj1,hk1⟩:=Prod.mk.inj (Option.some.inj h)
  subst hj1;subst hk1;unfold zAO;exact ⟨_,(Le.trans (Le.rename [(3,0)] [(4,.orow 0),(5,.s (.int .i64 0))] [(0,.row 54 8 ((List.map zAd) w5))] 1 ⟨rfl,rfl,trivial⟩ ⟨rfl,⟨_,rfl,rfl⟩,trivial⟩ rfl rfl rfl rfl rfl) (Le.giveRow 0 rfl)),rfl,rfl⟩
def zNS (n : Nat) (xs : List AV) (r : Ret) : Prop:=∃ (a0 : List (Int × Int)) (a1 : Int) (y0 : Int),zEl n a0 a1 = some y0 ∧ xs = [.s (.sl 2 ((List.map zAl) a0)),.s (.int .i64 0),.s (.int .i64 a1)] ∧ r = .val (.s (.int .i64 y0))
def zI8 : zAx:=zAG fun xs r => ∃ n,zNS n xs r
theorem zNa : PSound Tryz.prog 51 zI8:=by
 have gok : ∀ (f : Nat) (s : zAx),(fun _ => none : Nat → Option zAx) f = some s → PSound Tryz.prog f s:=fun _ _ h => by cases h
 refine zAS tokW Tryz.call51 Tryz.func51 rfl (fun xs r h => by obtain ⟨n,_,_,_,_,rfl,_⟩:=h; show 3 ≤ 23; decide) 23 rfl ?_;rintro xs r w0 G0 ⟨n,l1,i2,y0,h,rfl,rfl⟩ _;rw [zEl] at h;refine zAa ?_;refine zAb [] [] rfl ?_;show Tri _ _ _ _;refine zAa ?_;refine zAa ?_;refine zAb [] [] rfl ?_;show Tri _ _ _ _;obtain ⟨fl,hl,ho1⟩:=zAc h;refine zDP (fl:=fl) (fun z => match z with | _ => ⟨ofL [],fun _ => none,0⟩) ?_ (fun z σ' hz hle => ?_)
 ·refine zAk (zAA (X:=Nat × Int) (fun y => match y with | (k,k3) => ⟨ofL [(0,.s (.sl 2 ((List.map zAl) l1))),(1,.s (.int .i64 0)),(2,.s (.int .i64 i2)),(7,.s (.int .i64 k3))],fun _ => none,0⟩) (fun y => zB0 l1 i2 y.1 y.2 = some fl) (fun y => y.1) (n,0) hl ?_ ?_)
  ·exact (Le.forget _ ⟨rfl,rfl,rfl,rfl,trivial⟩)
  ·rintro ⟨k,k3⟩ h;cases k with
   | zero => cases h
   | succ k =>
    replace h : zB0 l1 i2 (k+1) k3 = some fl:=h;rw [zB0] at h;refine zAa ?_;refine zAa ?_;refine zAb [] [10] rfl ?_;intro n4 hn4;obtain rfl : (l1.length : Int) = n4:=(hn4.trans (congrArg (fun m : Nat => (m : Int)) (rlen (fun _ => rfl) l1))).symm;show Tri _ _ _ _;refine zAe rfl (fun hb => ?_) (fun hb => ?_)
    ·replace h:=zAr hb h;refine zAj ?_;show Tri _ _ _ _;refine zAa ?_;refine zAk ?_;refine zAa ?_;refine zAb [] [17] rfl ?_;obtain ⟨⟨e5_0,e5_1⟩,he5,h⟩:=zAc h;refine And.intro (zAw (fun _ => rfl) he5).1 ?_;intro r6 hr6;obtain rfl : [.int .i64 e5_0,.int .i64 e5_1] = r6:=(hr6.trans (zAw (fun _ => rfl) he5).2.1).symm;refine And.intro (by decide) ?_;show Tri _ _ _ _;refine zAe rfl (fun hb => ?_) (fun hb => ?_)
     ·replace h:=zAr hb h;refine zAa ?_;refine zAb [] [] rfl ?_;show Tri _ _ _ _;refine zAv ?_;cases h;replace h : some _ = some _:=ho1;have hy:=Option.some.inj h;subst hy;unfold zAO;exact ⟨_,Le.refl _ _,rfl,rfl⟩
     ·replace h:=zAq hb h;refine zAj ?_;show Tri _ _ _ _;refine zAb [] [] rfl ?_;refine ⟨(k,IntKind.i64.wrap (k3 + 1)),h,(Le.forget _ ⟨rfl,rfl,rfl,rfl,trivial⟩),Nat.lt_succ_self k⟩
    ·replace h:=zAq hb h;refine zAC ?_;cases h;exact ⟨_,rfl,(Le.forget _ trivial)⟩
 ·subst hz;obtain _:=z;replace h:=ho1;show Tri _ _ _ _;refine zAm hle ?_;refine zAa ?_;refine zAb [] [] rfl ?_;show Tri _ _ _ _;refine zAv ?_;have hy:=Option.some.inj h;subst hy;unfold zAO;exact ⟨_,Le.refl _ _,rfl,rfl⟩
def zQZ (xs : List AV) (r : Ret) : Prop:=∃ (a0 : List Int) (a1 : Int) (a2 : Int) (y0 : List Int),zEH a0 a1 a2 = some y0 ∧ xs = [.s (.sl 1 ((List.map (irow .i64)) a0)),.s (.int .i64 a1),.s (.int .i64 a2)] ∧ r = .row 3 1 ((List.map (irow .i64)) y0)
def zIw : zAx:=zAG fun xs r => zQZ xs r
theorem zKD : PSound Tryz.prog 52 zIw:=by
 have gok : ∀ (f : Nat) (s : zAx),(fun _ => none : Nat → Option zAx) f = some s → PSound Tryz.prog f s:=fun _ _ h => by cases h
 refine zAS tokW Tryz.call52 Tryz.func52 rfl (fun xs r h => by obtain ⟨_,_,_,_,_,rfl,_⟩:=h; show 3 ≤ 14; decide) 14 rfl ?_;rintro xs r w0 G0 ⟨path1,i2,slot3,y0,h,rfl,rfl⟩ _;rw [zEH] at h;refine zAa ?_;refine zAb [6] [] rfl ?_;show Tri _ _ _ _;refine zAm (Le.rename [] [(0,.s (.sl 1 ((List.map (irow .i64)) path1))),(1,.s (.int .i64 i2)),(2,.s (.int .i64 slot3))] [] 0 ⟨rfl,rfl,rfl,trivial⟩ trivial rfl rfl rfl rfl rfl) ?_;refine zAa ?_;refine zAb [7,9,13] [12] rfl ?_;obtain ⟨hq,h⟩:=zAJ h
 refine And.intro (show (([] : List (List S)).length + ((List.map (irow .i64)) path1).length) * 8 ≤ 140737488355328 ∧ ([] : List (List S)).length + ((List.map (irow .i64)) path1).length ≤ 9223372036854775807 from by simp only [List.length_append,List.length_cons,List.length_nil,List.length_map,rlen (fun _ => rfl)] at hq ⊢; omega) ?_;intro r4 hr4;have hl2 : r4.length = 2 :=(by rw [hr4]; rfl);obtain ⟨hq,h⟩:=zAJ h
 refine And.intro (show (([] ++ ((List.map (irow .i64)) path1)).length + r4.length) * 8 ≤ 140737488355328 ∧ ([] ++ ((List.map (irow .i64)) path1)).length + r4.length ≤ 9223372036854775807 from by rw [hl2]; simp only [List.length_append,List.length_cons,List.length_nil,List.length_map] at hq ⊢; omega) ?_
 clear hl2
 obtain rfl : (List.map (irow .i64)) [i2,slot3] = r4:=(hr4.trans (by simp [List.map_append,List.map_take,List.map_drop,irow,brow,zAF,List.map_cons,List.map_nil,zAy,Nd.encs_eq,Nd.enc,zAh,zAg,zAi,zAs,zAu,zAn,zAl,zAd,zAP,zAM,zAH])).symm;show Tri _ _ _ _
 refine zAm (Le.rename [(2,0)] [(6,.orow 0)] [(0,.row 3 1 ((List.map (irow .i64)) (path1 ++ [i2,slot3])))] 1 ⟨rfl,trivial⟩ ⟨rfl,⟨_,rfl,congrArg (Ob.row 3 1) (by simp [List.map_append,List.map_take,List.map_drop,irow,brow,zAF,List.map_cons,List.map_nil,zAy,Nd.encs_eq,Nd.enc,zAh,zAg,zAi,zAs,zAu,zAn,zAl,zAd,zAP,zAM,zAH])⟩,trivial⟩ rfl rfl rfl rfl rfl) ?_;refine zAv ?_;have hy:=Option.some.inj h;subst hy;unfold zAO;exact ⟨_,Le.refl _ _,0,rfl,rfl⟩
def zCQ (n : Nat) (xs : List AV) (r : Ret) : Prop:=∃ (a0 : List Int) (a1 : List Nd) (a2 : List Nd) (y0 : List (Int × List Int × Int × Int × List Nd × Int × List UInt8 × List UInt8)),zBb n a0 a1 a2 = some y0 ∧ xs = [.s (.sl 1 ((List.map (irow .i64)) a0)),.s (.sl 4 (Nd.encs a1)),.s (.sl 4 (Nd.encs a2))] ∧ r = .row 54 8 ((List.map zAd) y0)
theorem zIq (n : Nat) (ih : PSound Tryz.prog 31 (zAG (zCQ n))) : PSound Tryz.prog 31 (zAG (zCQ (n + 1))):=by
 have gok : ∀ f s,look? f [(50,zHn),(51,zI8),(52,zIw),(31,zAG (zCQ n))] = some s → PSound Tryz.prog f s:=zAB (by
  simp only [List.forall_mem_cons]
  exact ⟨zJm,zNa,zKD,ih,by simp⟩)
 refine zAS tokW Tryz.call31 Tryz.func31 rfl (fun xs r h => by obtain ⟨_,_,_,_,_,rfl,_⟩:=h; show 3 ≤ 83; decide) 83 rfl ?_;rintro xs r w0 G0 ⟨a1,a2,a3,y0,h,rfl,rfl⟩ _;rw [zBb] at h;refine zAa ?_;refine zAb [6] [] rfl ?_;show Tri _ _ _ _;refine zAm (Le.rename [] [(0,.s (.sl 1 ((List.map (irow .i64)) a1))),(1,.s (.sl 4 (Nd.encs a2))),(2,.s (.sl 4 (Nd.encs a3)))] [] 0 ⟨rfl,rfl,rfl,trivial⟩ trivial rfl rfl rfl rfl rfl) ?_;refine zAa ?_;refine zAb [] [] rfl ?_;obtain ⟨y4,hy4,h⟩:=zAc h;refine ⟨_,⟨_,_,_,_,hy4,rfl,rfl⟩,?_⟩
 show Tri _ _ _ _;refine zAa ?_;refine zAb [8] [] rfl ?_;show Tri _ _ _ _
 refine zAm (Le.rename [(0,0)] [(0,.s (.sl 1 ((List.map (irow .i64)) a1))),(1,.s (.sl 4 (Nd.encs a2))),(2,.s (.sl 4 (Nd.encs a3))),(7,.s (.sl 2 ((List.map zAl) y4))),(8,.orow 0)] [(0,.row 54 8 ((List.map zAd) []))] 1 ⟨rfl,rfl,rfl,rfl,rfl,trivial⟩ ⟨rfl,⟨_,rfl,congrArg (Ob.row 54 8) (by simp [List.map_append,List.map_take,List.map_drop,irow,brow,zAF,List.map_cons,List.map_nil,zAy,Nd.encs_eq,Nd.enc,zAh,zAg,zAi,zAs,zAu,zAn,zAl,zAd,zAP,zAM,zAH])⟩,trivial⟩ rfl rfl rfl rfl rfl) ?_;refine zAa ?_;refine zAa ?_
 refine zAb [] [17] rfl ?_;intro n5 hn5;obtain rfl : (a2.length : Int) = n5:=(hn5.trans (congrArg (fun m : Nat => (m : Int)) (rlen Nd.encs_eq a2))).symm;show Tri _ _ _ _;obtain ⟨l9,hl,h⟩:=zAc h;refine zAp ⟨ofL [(8,.orow 0)],ofH [(0,.row 54 8 ((List.map zAd) l9))],1⟩ ?_ (fun σ' hle => ?_)
 ·refine zAk (zAA (X:=Nat × Int × (List (Int × List Int × Int × Int × List Nd × Int × List UInt8 × List UInt8))) (fun y => match y with | (k,x7,l8) => ⟨ofL [(0,.s (.sl 1 ((List.map (irow .i64)) a1))),(1,.s (.sl 4 (Nd.encs a2))),(2,.s (.sl 4 (Nd.encs a3))),(7,.s (.sl 2 ((List.map zAl) y4))),(8,.orow 0),(9,.s (.int .i64 x7))],ofH [(0,.row 54 8 ((List.map zAd) l8))],1⟩) (fun y => zBl (zBb n) n a1 a2 a3 y4 y.1 y.2.1 y.2.2 = some l9) (fun y => y.1) (n,IntKind.i64.wrap ((a2.length : Int) - 1),[]) hl ?_ ?_)
  ·exact (Le.rename [(0,0)] _ _ _ ⟨rfl,rfl,rfl,rfl,rfl,rfl,trivial⟩ ⟨rfl,⟨_,rfl,rfl⟩,trivial⟩ rfl rfl rfl rfl rfl)
  ·rintro ⟨k,x7,l8⟩ h;cases k with
   | zero => cases h
   | succ k =>
    replace h : zBl (zBb n) n a1 a2 a3 y4 (k+1) x7 l8 = some l9:=h;rw [zBl] at h;refine zAa ?_;refine zAa ?_;refine zAb [] [] rfl ?_;show Tri _ _ _ _;refine zAe rfl (fun hb => ?_) (fun hb => ?_)
    ·replace h:=zAr hb h;refine zAj ?_;show Tri _ _ _ _;refine zAa ?_;obtain ⟨l10,hj,h⟩:=zAc h;refine zAp ⟨ofL [(0,.s (.sl 1 ((List.map (irow .i64)) a1))),(1,.s (.sl 4 (Nd.encs a2))),(2,.s (.sl 4 (Nd.encs a3))),(7,.s (.sl 2 ((List.map zAl) y4))),(8,.orow 0),(9,.s (.int .i64 x7))],ofH [(0,.row 54 8 ((List.map zAd) l10))],1⟩ ?_ (fun σ' hle => ?_)
     ·replace h:=hj;refine zAk ?_;refine zAa ?_;refine zAb [] [] rfl ?_;obtain ⟨y11,hy11,h⟩:=zAc h;refine ⟨_,⟨_,_,_,_,hy11,rfl,rfl⟩,?_⟩
      show Tri _ _ _ _;refine zAa ?_;refine zAa ?_;refine zAb [] [] rfl ?_;show Tri _ _ _ _;refine zAe rfl (fun hb => ?_) (fun hb => ?_)
      ·replace h:=zAr hb h;refine zAa ?_;refine zAm (Le.toA 0 rfl) ?_;refine zDB (by exact tokW) (by exact gok) (by exact mixed) [29,31,39,40] [35,37] [1,3,11,12] [3] rfl (by decide +kernel) ?_;obtain ⟨y12,hy12,h⟩:=zAc h;obtain ⟨hqp,hy12⟩:=zAJ hy12;obtain rfl : a1 = y12:=Option.some.inj hy12;refine And.intro (show ((0 : Nat) + ((List.map (irow .i64)) a1).length) * 8 ≤ 140737488355328 ∧ (0 : Nat) + ((List.map (irow .i64)) a1).length ≤ 9223372036854775807 by rw [List.length_map]; omega) ?_;obtain ⟨⟨e13_kind,e13_text,e13_cols,e13_kids⟩,he13,h⟩:=zAc h;refine And.intro (zAw Nd.encs_eq he13).1 ?_;intro r14 hr14
       obtain rfl : [.int .i64 e13_kind,.str e13_text,.int .i64 e13_cols,.sl 4 (Nd.encs e13_kids)] = r14:=(hr14.trans (zAw Nd.encs_eq he13).2.1).symm;intro r15 hr15;obtain rfl : Nd.encs [Nd.mk e13_kind e13_text e13_cols e13_kids] = r15:=(hr15.trans (by simp [List.map_append,List.map_take,List.map_drop,irow,brow,zAF,List.map_cons,List.map_nil,zAy,Nd.encs_eq,Nd.enc,zAh,zAg,zAi,zAs,zAu,zAn,zAl,zAd,zAP,zAM,zAH])).symm;obtain ⟨hq,h⟩:=zAJ h
       refine And.intro (show ((((List.map zAd) l8).map (·.map AV.s)).length + 1) * 112 ≤ 140737488355328 ∧ (((List.map zAd) l8).map (·.map AV.s)).length + 1 ≤ 9223372036854775807 by rw [List.length_map,List.length_map]; simp only [List.length_cons,List.length_nil] at hq; omega) ?_;show Tri _ _ _ _;refine zAm (Le.giveRow 2 rfl) ?_;refine zAm (Le.ofA 4 ((List.map zAd) (l8 ++ [(2,a1,x7,0,[Nd.mk e13_kind e13_text e13_cols e13_kids],0,[],[])])) rfl (by rw [List.map_append,List.map_append,zIC]; exact zEA (zJT _) rfl)) ?_
       refine zAm (Le.rename [(4,0)] [(0,.s (.sl 1 ((List.map (irow .i64)) a1))),(1,.s (.sl 4 (Nd.encs a2))),(2,.s (.sl 4 (Nd.encs a3))),(7,.s (.sl 2 ((List.map zAl) y4))),(8,.orow 0),(9,.s (.int .i64 x7))] [(0,.row 54 8 ((List.map zAd) (l8 ++ [(2,a1,x7,0,[Nd.mk e13_kind e13_text e13_cols e13_kids],0,[],[])])))] 1 ⟨rfl,rfl,rfl,rfl,rfl,rfl,trivial⟩ ⟨rfl,⟨_,rfl,congrArg (Ob.row 54 8) (by simp [List.map_append,List.map_take,List.map_drop,irow,brow,zAF,List.map_cons,List.map_nil,zAy,Nd.encs_eq,Nd.enc,zAh,zAg,zAi,zAs,zAu,zAn,zAl,zAd,zAP,zAM,zAH])⟩,trivial⟩ rfl rfl rfl rfl rfl) ?_
       refine zAC ?_;cases h;exact (Le.rename [(0,0)] _ _ _ ⟨rfl,rfl,rfl,rfl,rfl,rfl,trivial⟩ ⟨rfl,⟨_,rfl,rfl⟩,trivial⟩ rfl rfl rfl rfl rfl)
      ·replace h:=zAq hb h;refine zAj ?_;show Tri _ _ _ _;refine zAa ?_;refine zAb [11] [44,47] rfl ?_;obtain ⟨⟨e17_0,e17_1⟩,he17,h⟩:=zAc h;refine And.intro (zAw (fun _ => rfl) he17).1 ?_;intro r18 hr18;obtain rfl : [.int .i64 e17_0,.int .i64 e17_1] = r18:=(hr18.trans (zAw (fun _ => rfl) he17).2.1).symm;refine And.intro (by decide) ?_;obtain ⟨⟨e19_kind,e19_text,e19_cols,e19_kids⟩,he19,h⟩:=zAc h;refine And.intro (zAw Nd.encs_eq he19).1 ?_;intro r20 hr20;obtain rfl : [.int .i64 e19_kind,.str e19_text,.int .i64 e19_cols,.sl 4 (Nd.encs e19_kids)] = r20:=(hr20.trans (zAw Nd.encs_eq he19).2.1).symm;show Tri _ _ _ _
       refine zAm (Le.giveBox 1 [.int .i64 e19_kind,.str e19_text,.int .i64 e19_cols,.sl 4 (Nd.encs e19_kids)] rfl rfl) ?_;refine zAa ?_;refine zAb [] [51,54] rfl ?_;obtain ⟨⟨e21_kind,e21_text,e21_cols,e21_kids⟩,he21,h⟩:=zAc h;refine And.intro (zAw Nd.encs_eq he21).1 ?_;intro r22 hr22;obtain rfl : [.int .i64 e21_kind,.str e21_text,.int .i64 e21_cols,.sl 4 (Nd.encs e21_kids)] = r22:=(hr22.trans (zAw Nd.encs_eq he21).2.1).symm;intro n23 hn23;obtain rfl : (e21_kids.length : Int) = n23:=(hn23.trans (congrArg (fun m : Nat => (m : Int)) (rlen Nd.encs_eq e21_kids))).symm;show Tri _ _ _ _;obtain ⟨l27,hl,h⟩:=zAc h
       refine zAp ⟨ofL [(0,.s (.sl 1 ((List.map (irow .i64)) a1))),(1,.s (.sl 4 (Nd.encs a2))),(2,.s (.sl 4 (Nd.encs a3))),(7,.s (.sl 2 ((List.map zAl) y4))),(8,.orow 0),(9,.s (.int .i64 x7))],ofH [(0,.row 54 8 ((List.map zAd) l27))],1⟩ ?_ (fun σ' hle => ?_)
       ·refine zAk (zAA (X:=Nat × Int × (List (Int × List Int × Int × Int × List Nd × Int × List UInt8 × List UInt8))) (fun y => match y with | (k,x24,l26) => ⟨ofL [(0,.s (.sl 1 ((List.map (irow .i64)) a1))),(1,.s (.sl 4 (Nd.encs a2))),(2,.s (.sl 4 (Nd.encs a3))),(7,.s (.sl 2 ((List.map zAl) y4))),(8,.orow 0),(9,.s (.int .i64 x7)),(11,.s (.pt [.int .i64 e19_kind,.str e19_text,.int .i64 e19_cols,.sl 4 (Nd.encs e19_kids)])),(12,.s (.int .i64 x24))],ofH [(0,.row 54 8 ((List.map zAd) l26))],1⟩) (fun y => zBm (zBb n) a1 a2 x7 e19_kids y.1 y.2.1 y.2.2 = some l27) (fun y => y.1) (n,IntKind.i64.wrap ((e21_kids.length : Int) - 1),l8) hl ?_ ?_)
        ·exact (Le.rename [(0,0)] _ _ _ ⟨rfl,rfl,rfl,rfl,rfl,rfl,rfl,rfl,trivial⟩ ⟨rfl,⟨_,rfl,rfl⟩,trivial⟩ rfl rfl rfl rfl rfl)
        ·rintro ⟨k,x24,l26⟩ h;cases k with
         | zero => cases h
         | succ k =>
          replace h : zBm (zBb n) a1 a2 x7 e19_kids (k+1) x24 l26 = some l27:=h;rw [zBm] at h;refine zAa ?_;refine zAa ?_;refine zAb [] [] rfl ?_;show Tri _ _ _ _;refine zAe rfl (fun hb => ?_) (fun hb => ?_)
          ·replace h:=zAr hb h;refine zAj ?_;show Tri _ _ _ _;refine zAa ?_;refine zAk ?_;refine zAz (by exact tokW) (by exact gok) (by exact mixed) [81] [67,71,77] [21] rfl (by decide +kernel) ?_;obtain ⟨y28,hy28,h⟩:=zAc h;refine ⟨_,⟨_,_,_,_,hy28,rfl,rfl⟩,?_⟩
           obtain ⟨⟨e29_kind,e29_text,e29_cols,e29_kids⟩,he29,h⟩:=zAc h;refine And.intro (zAw Nd.encs_eq he29).1 ?_;intro r30 hr30;obtain rfl : [.int .i64 e29_kind,.str e29_text,.int .i64 e29_cols,.sl 4 (Nd.encs e29_kids)] = r30:=(hr30.trans (zAw Nd.encs_eq he29).2.1).symm;obtain ⟨⟨e31_kind,e31_text,e31_cols,e31_kids⟩,he31,h⟩:=zAc h;refine And.intro (zAw Nd.encs_eq he31).1 ?_;intro r32 hr32;obtain rfl : [.int .i64 e31_kind,.str e31_text,.int .i64 e31_cols,.sl 4 (Nd.encs e31_kids)] = r32:=(hr32.trans (zAw Nd.encs_eq he31).2.1).symm;obtain ⟨⟨e33_kind,e33_text,e33_cols,e33_kids⟩,he33,h⟩:=zAc h
           refine And.intro (zAw Nd.encs_eq he33).1 ?_;intro r34 hr34;obtain rfl : [.int .i64 e33_kind,.str e33_text,.int .i64 e33_cols,.sl 4 (Nd.encs e33_kids)] = r34:=(hr34.trans (zAw Nd.encs_eq he33).2.1).symm;obtain ⟨y35,hy35,h⟩:=zAc h;refine ⟨_,⟨_,_,_,_,hy35,rfl,rfl⟩,?_⟩
           obtain ⟨hq,h⟩:=zAJ h;refine And.intro (show (((List.map zAd) l26).length + ((List.map zAd) y35).length) * 112 ≤ 140737488355328 ∧ ((List.map zAd) l26).length + ((List.map zAd) y35).length ≤ 9223372036854775807 from by simp only [List.length_append,List.length_cons,List.length_nil,List.length_map,rlen (fun _ => rfl)] at hq ⊢; omega) ?_;show Tri _ _ _ _
           refine zAm (Le.rename [(1,0)] [(0,.s (.sl 1 ((List.map (irow .i64)) a1))),(1,.s (.sl 4 (Nd.encs a2))),(2,.s (.sl 4 (Nd.encs a3))),(7,.s (.sl 2 ((List.map zAl) y4))),(8,.orow 0),(9,.s (.int .i64 x7)),(11,.s (.pt [.int .i64 e19_kind,.str e19_text,.int .i64 e19_cols,.sl 4 (Nd.encs e19_kids)])),(12,.s (.int .i64 x24))] [(0,.row 54 8 ((List.map zAd) (l26 ++ y35)))] 1 ⟨rfl,rfl,rfl,rfl,rfl,rfl,rfl,rfl,trivial⟩ ⟨rfl,⟨_,rfl,congrArg (Ob.row 54 8) (by simp [List.map_append,List.map_take,List.map_drop,irow,brow,zAF,List.map_cons,List.map_nil,zAy,Nd.encs_eq,Nd.enc,zAh,zAg,zAi,zAs,zAu,zAn,zAl,zAd,zAP,zAM,zAH])⟩,trivial⟩ rfl rfl rfl rfl rfl) ?_
           refine zAb [] [] rfl ?_;refine ⟨(k,IntKind.i64.wrap (x24 - 1),l26 ++ y35),h,(Le.rename [(0,0)] _ _ _ ⟨rfl,rfl,rfl,rfl,rfl,rfl,rfl,rfl,trivial⟩ ⟨rfl,⟨_,rfl,rfl⟩,trivial⟩ rfl rfl rfl rfl rfl),Nat.lt_succ_self k⟩
          ·replace h:=zAq hb h;refine zAC ?_;cases h;exact (Le.rename [(0,0)] _ _ _ ⟨rfl,rfl,rfl,rfl,rfl,rfl,trivial⟩ ⟨rfl,⟨_,rfl,rfl⟩,trivial⟩ rfl rfl rfl rfl rfl)
       ·cases h;exact (Le.trans hle (Le.rename [(0,0)] _ _ _ ⟨rfl,rfl,rfl,rfl,rfl,rfl,trivial⟩ ⟨rfl,⟨_,rfl,rfl⟩,trivial⟩ rfl rfl rfl rfl rfl))
     ·show Tri _ _ _ _;refine zAm hle ?_;refine zAb [] [] rfl ?_;refine ⟨(k,IntKind.i64.wrap (x7 - 1),l10),h,(Le.rename [(0,0)] _ _ _ ⟨rfl,rfl,rfl,rfl,rfl,rfl,trivial⟩ ⟨rfl,⟨_,rfl,rfl⟩,trivial⟩ rfl rfl rfl rfl rfl),Nat.lt_succ_self k⟩
    ·replace h:=zAq hb h;refine zAC ?_;cases h;exact (Le.rename [(0,0)] _ _ _ ⟨rfl,trivial⟩ ⟨rfl,⟨_,rfl,rfl⟩,trivial⟩ rfl rfl rfl rfl rfl)
 ·show Tri _ _ _ _;refine zAm hle ?_;refine zAa ?_;refine zAb [] [] rfl ?_;show Tri _ _ _ _;refine zAv ?_;have hy:=Option.some.inj h;subst hy;unfold zAO;exact ⟨_,Le.refl _ _,0,rfl,rfl⟩
theorem zIx : ∀ n,PSound Tryz.prog 31 (zAG (zCQ n)):=by
 intro n
 induction n with
 | zero => exact zBw Tryz.call31 (fun xs r h => by obtain ⟨_,_,_,_,h,_⟩:=h; cases h)
 | succ n ih => exact zIq n ih
def zGk : zAx:=zAG fun xs r => ∃ n,zCQ n xs r
theorem zJH : PSound Tryz.prog 31 zGk:=zB3 zIx
def zHM (n : Nat) (xs : List AV) (r : Ret) : Prop:=∃ (a0 : List (Int × Int)) (a1 : Int) (y0 : Int),zB7 n a0 a1 = some y0 ∧ xs = [.s (.sl 2 ((List.map zAl) a0)),.s (.int .i64 1),.s (.int .i64 a1)] ∧ r = .val (.s (.int .i64 y0))
def zE6 : zAx:=zAG fun xs r => ∃ n,zHM n xs r
theorem zHz : PSound Tryz.prog 51 zE6:=by
 have gok : ∀ (f : Nat) (s : zAx),(fun _ => none : Nat → Option zAx) f = some s → PSound Tryz.prog f s:=fun _ _ h => by cases h
 refine zAS tokW Tryz.call51 Tryz.func51 rfl (fun xs r h => by obtain ⟨n,_,_,_,_,rfl,_⟩:=h; show 3 ≤ 23; decide) 23 rfl ?_;rintro xs r w0 G0 ⟨n,l1,i2,y0,h,rfl,rfl⟩ _;rw [zB7] at h;refine zAa ?_;refine zAb [] [] rfl ?_;show Tri _ _ _ _;refine zAa ?_;refine zAa ?_;refine zAb [] [] rfl ?_;show Tri _ _ _ _;obtain ⟨fl,hl,ho1⟩:=zAc h;refine zDP (fl:=fl) (fun z => match z with | _ => ⟨ofL [],fun _ => none,0⟩) ?_ (fun z σ' hz hle => ?_)
 ·refine zAk (zAA (X:=Nat × Int) (fun y => match y with | (k,k3) => ⟨ofL [(0,.s (.sl 2 ((List.map zAl) l1))),(1,.s (.int .i64 1)),(2,.s (.int .i64 i2)),(7,.s (.int .i64 k3))],fun _ => none,0⟩) (fun y => zBc l1 i2 y.1 y.2 = some fl) (fun y => y.1) (n,0) hl ?_ ?_)
  ·exact (Le.forget _ ⟨rfl,rfl,rfl,rfl,trivial⟩)
  ·rintro ⟨k,k3⟩ h;cases k with
   | zero => cases h
   | succ k =>
    replace h : zBc l1 i2 (k+1) k3 = some fl:=h;rw [zBc] at h;refine zAa ?_;refine zAa ?_;refine zAb [] [10] rfl ?_;intro n4 hn4;obtain rfl : (l1.length : Int) = n4:=(hn4.trans (congrArg (fun m : Nat => (m : Int)) (rlen (fun _ => rfl) l1))).symm;show Tri _ _ _ _;refine zAe rfl (fun hb => ?_) (fun hb => ?_)
    ·replace h:=zAr hb h;refine zAj ?_;show Tri _ _ _ _;refine zAa ?_;refine zAk ?_;refine zAa ?_;refine zAb [] [17] rfl ?_;obtain ⟨⟨e5_0,e5_1⟩,he5,h⟩:=zAc h;refine And.intro (zAw (fun _ => rfl) he5).1 ?_;intro r6 hr6;obtain rfl : [.int .i64 e5_0,.int .i64 e5_1] = r6:=(hr6.trans (zAw (fun _ => rfl) he5).2.1).symm;refine And.intro (by decide) ?_;show Tri _ _ _ _;refine zAe rfl (fun hb => ?_) (fun hb => ?_)
     ·replace h:=zAr hb h;refine zAa ?_;refine zAb [] [] rfl ?_;show Tri _ _ _ _;refine zAv ?_;cases h;replace h : some _ = some _:=ho1;have hy:=Option.some.inj h;subst hy;unfold zAO;exact ⟨_,Le.refl _ _,rfl,rfl⟩
     ·replace h:=zAq hb h;refine zAj ?_;show Tri _ _ _ _;refine zAb [] [] rfl ?_;refine ⟨(k,IntKind.i64.wrap (k3 + 1)),h,(Le.forget _ ⟨rfl,rfl,rfl,rfl,trivial⟩),Nat.lt_succ_self k⟩
    ·replace h:=zAq hb h;refine zAC ?_;cases h;exact ⟨_,rfl,(Le.forget _ trivial)⟩
 ·subst hz;obtain _:=z;replace h:=ho1;show Tri _ _ _ _;refine zAm hle ?_;refine zAa ?_;refine zAb [] [] rfl ?_;show Tri _ _ _ _;refine zAv ?_;have hy:=Option.some.inj h;subst hy;unfold zAO;exact ⟨_,Le.refl _ _,rfl,rfl⟩
def zDC (n : Nat) (xs : List AV) (r : Ret) : Prop:=∃ (a0 : List Int) (a1 : List Nd) (a2 : List Nd) (y0 : List (Int × List Int × Int × Int × List Nd × Int × List UInt8 × List UInt8)),zBv n a0 a1 a2 = some y0 ∧ xs = [.s (.sl 1 ((List.map (irow .i64)) a0)),.s (.sl 4 (Nd.encs a1)),.s (.sl 4 (Nd.encs a2))] ∧ r = .row 54 8 ((List.map zAd) y0)
theorem zJL (n : Nat) (ih : PSound Tryz.prog 32 (zAG (zDC n))) : PSound Tryz.prog 32 (zAG (zDC (n + 1))):=by
 have gok : ∀ f s,look? f [(50,zHn),(51,zE6),(52,zIw),(32,zAG (zDC n))] = some s → PSound Tryz.prog f s:=zAB (by
  simp only [List.forall_mem_cons]
  exact ⟨zJm,zHz,zKD,ih,by simp⟩)
 refine zAS tokW Tryz.call32 Tryz.func32 rfl (fun xs r h => by obtain ⟨_,_,_,_,_,rfl,_⟩:=h; show 3 ≤ 104; decide) 104 rfl ?_;rintro xs r w0 G0 ⟨a1,a2,a3,y0,h,rfl,rfl⟩ _;rw [zBv] at h;refine zAa ?_;refine zAb [6] [] rfl ?_;show Tri _ _ _ _;refine zAm (Le.rename [] [(0,.s (.sl 1 ((List.map (irow .i64)) a1))),(1,.s (.sl 4 (Nd.encs a2))),(2,.s (.sl 4 (Nd.encs a3)))] [] 0 ⟨rfl,rfl,rfl,trivial⟩ trivial rfl rfl rfl rfl rfl) ?_;refine zAa ?_;refine zAb [] [] rfl ?_;obtain ⟨y4,hy4,h⟩:=zAc h;refine ⟨_,⟨_,_,_,_,hy4,rfl,rfl⟩,?_⟩
 show Tri _ _ _ _;refine zAa ?_;refine zAb [8] [] rfl ?_;show Tri _ _ _ _
 refine zAm (Le.rename [(0,0)] [(0,.s (.sl 1 ((List.map (irow .i64)) a1))),(1,.s (.sl 4 (Nd.encs a2))),(2,.s (.sl 4 (Nd.encs a3))),(7,.s (.sl 2 ((List.map zAl) y4))),(8,.orow 0)] [(0,.row 54 8 ((List.map zAd) []))] 1 ⟨rfl,rfl,rfl,rfl,rfl,trivial⟩ ⟨rfl,⟨_,rfl,congrArg (Ob.row 54 8) (by simp [List.map_append,List.map_take,List.map_drop,irow,brow,zAF,List.map_cons,List.map_nil,zAy,Nd.encs_eq,Nd.enc,zAh,zAg,zAi,zAs,zAu,zAn,zAl,zAd,zAP,zAM,zAH])⟩,trivial⟩ rfl rfl rfl rfl rfl) ?_;refine zAa ?_;refine zAa ?_
 refine zAb [] [] rfl ?_;show Tri _ _ _ _;obtain ⟨l8,hl,h⟩:=zAc h;refine zAp ⟨ofL [(8,.orow 0)],ofH [(0,.row 54 8 ((List.map zAd) l8))],1⟩ ?_ (fun σ' hle => ?_)
 ·refine zAk (zAA (X:=Nat × Int × (List (Int × List Int × Int × Int × List Nd × Int × List UInt8 × List UInt8))) (fun y => match y with | (k,x6,l7) => ⟨ofL [(0,.s (.sl 1 ((List.map (irow .i64)) a1))),(1,.s (.sl 4 (Nd.encs a2))),(2,.s (.sl 4 (Nd.encs a3))),(7,.s (.sl 2 ((List.map zAl) y4))),(8,.orow 0),(9,.s (.int .i64 x6))],ofH [(0,.row 54 8 ((List.map zAd) l7))],1⟩) (fun y => zBM (zBv n) n a1 a2 a3 y4 y.1 y.2.1 y.2.2 = some l8) (fun y => y.1) (n,0,[]) hl ?_ ?_)
  ·exact (Le.rename [(0,0)] _ _ _ ⟨rfl,rfl,rfl,rfl,rfl,rfl,trivial⟩ ⟨rfl,⟨_,rfl,rfl⟩,trivial⟩ rfl rfl rfl rfl rfl)
  ·rintro ⟨k,x6,l7⟩ h;cases k with
   | zero => cases h
   | succ k =>
    replace h : zBM (zBv n) n a1 a2 a3 y4 (k+1) x6 l7 = some l8:=h;rw [zBM] at h;refine zAa ?_;refine zAa ?_;refine zAb [] [18] rfl ?_;intro n9 hn9;obtain rfl : (a3.length : Int) = n9:=(hn9.trans (congrArg (fun m : Nat => (m : Int)) (rlen Nd.encs_eq a3))).symm;show Tri _ _ _ _;refine zAe rfl (fun hb => ?_) (fun hb => ?_)
    ·replace h:=zAr hb h;refine zAj ?_;show Tri _ _ _ _;refine zAa ?_;obtain ⟨l10,hj,h⟩:=zAc h;refine zAp ⟨ofL [(0,.s (.sl 1 ((List.map (irow .i64)) a1))),(1,.s (.sl 4 (Nd.encs a2))),(2,.s (.sl 4 (Nd.encs a3))),(7,.s (.sl 2 ((List.map zAl) y4))),(8,.orow 0),(9,.s (.int .i64 x6))],ofH [(0,.row 54 8 ((List.map zAd) l10))],1⟩ ?_ (fun σ' hle => ?_)
     ·replace h:=hj;refine zAk ?_;refine zAa ?_;refine zAb [] [] rfl ?_;obtain ⟨y11,hy11,h⟩:=zAc h;refine ⟨_,⟨_,_,_,_,hy11,rfl,rfl⟩,?_⟩
      show Tri _ _ _ _;refine zAa ?_;refine zAa ?_;refine zAb [] [] rfl ?_;show Tri _ _ _ _;refine zAe rfl (fun hb => ?_) (fun hb => ?_)
      ·replace h:=zAr hb h;refine zAa ?_;refine zAm (Le.toA 0 rfl) ?_;refine zDB (by exact tokW) (by exact gok) (by exact mixed) [28,30,38,39] [34,36] [1,3,11,12] [3] rfl (by decide +kernel) ?_;obtain ⟨y12,hy12,h⟩:=zAc h;obtain ⟨hqp,hy12⟩:=zAJ hy12;obtain rfl : a1 = y12:=Option.some.inj hy12;refine And.intro (show ((0 : Nat) + ((List.map (irow .i64)) a1).length) * 8 ≤ 140737488355328 ∧ (0 : Nat) + ((List.map (irow .i64)) a1).length ≤ 9223372036854775807 by rw [List.length_map]; omega) ?_;obtain ⟨⟨e13_kind,e13_text,e13_cols,e13_kids⟩,he13,h⟩:=zAc h;refine And.intro (zAw Nd.encs_eq he13).1 ?_;intro r14 hr14
       obtain rfl : [.int .i64 e13_kind,.str e13_text,.int .i64 e13_cols,.sl 4 (Nd.encs e13_kids)] = r14:=(hr14.trans (zAw Nd.encs_eq he13).2.1).symm;intro r15 hr15;obtain rfl : Nd.encs [Nd.mk e13_kind e13_text e13_cols e13_kids] = r15:=(hr15.trans (by simp [List.map_append,List.map_take,List.map_drop,irow,brow,zAF,List.map_cons,List.map_nil,zAy,Nd.encs_eq,Nd.enc,zAh,zAg,zAi,zAs,zAu,zAn,zAl,zAd,zAP,zAM,zAH])).symm;obtain ⟨hq,h⟩:=zAJ h
       refine And.intro (show ((((List.map zAd) l7).map (·.map AV.s)).length + 1) * 112 ≤ 140737488355328 ∧ (((List.map zAd) l7).map (·.map AV.s)).length + 1 ≤ 9223372036854775807 by rw [List.length_map,List.length_map]; simp only [List.length_cons,List.length_nil] at hq; omega) ?_;show Tri _ _ _ _;refine zAm (Le.giveRow 2 rfl) ?_;refine zAm (Le.ofA 4 ((List.map zAd) (l7 ++ [(1,a1,x6,0,[Nd.mk e13_kind e13_text e13_cols e13_kids],0,[],[])])) rfl (by rw [List.map_append,List.map_append,zIC]; exact zEA (zJT _) rfl)) ?_
       refine zAm (Le.rename [(4,0)] [(0,.s (.sl 1 ((List.map (irow .i64)) a1))),(1,.s (.sl 4 (Nd.encs a2))),(2,.s (.sl 4 (Nd.encs a3))),(7,.s (.sl 2 ((List.map zAl) y4))),(8,.orow 0),(9,.s (.int .i64 x6))] [(0,.row 54 8 ((List.map zAd) (l7 ++ [(1,a1,x6,0,[Nd.mk e13_kind e13_text e13_cols e13_kids],0,[],[])])))] 1 ⟨rfl,rfl,rfl,rfl,rfl,rfl,trivial⟩ ⟨rfl,⟨_,rfl,congrArg (Ob.row 54 8) (by simp [List.map_append,List.map_take,List.map_drop,irow,brow,zAF,List.map_cons,List.map_nil,zAy,Nd.encs_eq,Nd.enc,zAh,zAg,zAi,zAs,zAu,zAn,zAl,zAd,zAP,zAM,zAH])⟩,trivial⟩ rfl rfl rfl rfl rfl) ?_
       refine zAC ?_;cases h;exact (Le.rename [(0,0)] _ _ _ ⟨rfl,rfl,rfl,rfl,rfl,rfl,trivial⟩ ⟨rfl,⟨_,rfl,rfl⟩,trivial⟩ rfl rfl rfl rfl rfl)
      ·replace h:=zAq hb h;refine zAj ?_;show Tri _ _ _ _;refine zAa ?_;refine zAb [11] [43,46] rfl ?_;obtain ⟨⟨e17_0,e17_1⟩,he17,h⟩:=zAc h;refine And.intro (zAw (fun _ => rfl) he17).1 ?_;intro r18 hr18;obtain rfl : [.int .i64 e17_0,.int .i64 e17_1] = r18:=(hr18.trans (zAw (fun _ => rfl) he17).2.1).symm;refine And.intro (by decide) ?_;obtain ⟨⟨e19_kind,e19_text,e19_cols,e19_kids⟩,he19,h⟩:=zAc h;refine And.intro (zAw Nd.encs_eq he19).1 ?_;intro r20 hr20;obtain rfl : [.int .i64 e19_kind,.str e19_text,.int .i64 e19_cols,.sl 4 (Nd.encs e19_kids)] = r20:=(hr20.trans (zAw Nd.encs_eq he19).2.1).symm;show Tri _ _ _ _
       refine zAm (Le.giveBox 1 [.int .i64 e19_kind,.str e19_text,.int .i64 e19_cols,.sl 4 (Nd.encs e19_kids)] rfl rfl) ?_;refine zAa ?_;refine zAa ?_;refine zAz (by exact tokW) (by exact gok) (by exact mixed) [] [52] [] rfl (by decide +kernel) ?_;obtain ⟨⟨e21_kind,e21_text,e21_cols,e21_kids⟩,he21,h⟩:=zAc h;refine And.intro (zAw Nd.encs_eq he21).1 ?_;intro r22 hr22;obtain rfl : [.int .i64 e21_kind,.str e21_text,.int .i64 e21_cols,.sl 4 (Nd.encs e21_kids)] = r22:=(hr22.trans (zAw Nd.encs_eq he21).2.1).symm;show Tri _ _ _ _;obtain ⟨l23,hj,h⟩:=zAc h
       refine zAp ⟨ofL [(0,.s (.sl 1 ((List.map (irow .i64)) a1))),(1,.s (.sl 4 (Nd.encs a2))),(2,.s (.sl 4 (Nd.encs a3))),(7,.s (.sl 2 ((List.map zAl) y4))),(8,.orow 0),(9,.s (.int .i64 x6)),(11,.s (.pt [.int .i64 e19_kind,.str e19_text,.int .i64 e19_cols,.sl 4 (Nd.encs e19_kids)]))],ofH [(0,.row 54 8 ((List.map zAd) l23))],1⟩ ?_ (fun σ' hle => ?_)
       ·replace h:=hj;refine zAe rfl (fun hb => ?_) (fun hb => ?_)
        ·replace h:=zAr hb h;refine zAm (Le.toA 0 rfl) ?_;refine zDB (by exact tokW) (by exact gok) (by exact mixed) [57,59,69,70] [65] [1,3,13,14] [3] rfl (by decide +kernel) ?_;obtain ⟨y24,hy24,h⟩:=zAc h;obtain ⟨hqp,hy24⟩:=zAJ hy24;obtain rfl : a1 = y24:=Option.some.inj hy24;refine And.intro (show ((0 : Nat) + ((List.map (irow .i64)) a1).length) * 8 ≤ 140737488355328 ∧ (0 : Nat) + ((List.map (irow .i64)) a1).length ≤ 9223372036854775807 by rw [List.length_map]; omega) ?_;obtain ⟨⟨e25_kind,e25_text,e25_cols,e25_kids⟩,he25,h⟩:=zAc h;refine And.intro (zAw Nd.encs_eq he25).1 ?_;intro r26 hr26
         obtain rfl : [.int .i64 e25_kind,.str e25_text,.int .i64 e25_cols,.sl 4 (Nd.encs e25_kids)] = r26:=(hr26.trans (zAw Nd.encs_eq he25).2.1).symm;obtain ⟨hq,h⟩:=zAJ h;refine And.intro (show ((((List.map zAd) l7).map (·.map AV.s)).length + 1) * 112 ≤ 140737488355328 ∧ (((List.map zAd) l7).map (·.map AV.s)).length + 1 ≤ 9223372036854775807 by rw [List.length_map,List.length_map]; simp only [List.length_cons,List.length_nil] at hq; omega) ?_;cases h
         refine Le.trans (Le.giveRow 3 rfl) (Le.trans (Le.ofA 5 ((List.map zAd) (l7 ++ [(5,a1,x6,0,[],0,e19_text,e25_text)])) rfl (by rw [List.map_append,List.map_append,zIC]; exact zEA (zJT _) rfl)) ?_)
         exact (Le.trans (Le.rename [(5,0)] [(0,.s (.sl 1 ((List.map (irow .i64)) a1))),(1,.s (.sl 4 (Nd.encs a2))),(2,.s (.sl 4 (Nd.encs a3))),(7,.s (.sl 2 ((List.map zAl) y4))),(8,.orow 0),(9,.s (.int .i64 x6)),(11,.s (.pt [.int .i64 e19_kind,.str e19_text,.int .i64 e19_cols,.sl 4 (Nd.encs e19_kids)]))] [(0,.row 54 8 ((List.map zAd) (l7 ++ [(5,a1,x6,0,[],0,e19_text,e25_text)])))] 1 ⟨rfl,rfl,rfl,rfl,rfl,rfl,rfl,trivial⟩ ⟨rfl,⟨_,rfl,congrArg (Ob.row 54 8) (by simp [List.map_append,List.map_take,List.map_drop,irow,brow,zAF,List.map_cons,List.map_nil,zAy,Nd.encs_eq,Nd.enc,zAh,zAg,zAi,zAs,zAu,zAn,zAl,zAd,zAP,zAM,zAH])⟩,trivial⟩ rfl rfl rfl rfl rfl) (Le.rename [(0,0)] _ _ _ ⟨rfl,rfl,rfl,rfl,rfl,rfl,rfl,trivial⟩ ⟨rfl,⟨_,rfl,rfl⟩,trivial⟩ rfl rfl rfl rfl rfl))
        ·replace h:=zAq hb h;refine zAj ?_;cases h;exact (Le.rename [(0,0)] _ _ _ ⟨rfl,rfl,rfl,rfl,rfl,rfl,rfl,trivial⟩ ⟨rfl,⟨_,rfl,rfl⟩,trivial⟩ rfl rfl rfl rfl rfl)
       ·show Tri _ _ _ _;refine zAm hle ?_;refine zAa ?_;refine zAb [] [] rfl ?_;show Tri _ _ _ _;obtain ⟨l31,hl,h⟩:=zAc h;refine zAp ⟨ofL [(0,.s (.sl 1 ((List.map (irow .i64)) a1))),(1,.s (.sl 4 (Nd.encs a2))),(2,.s (.sl 4 (Nd.encs a3))),(7,.s (.sl 2 ((List.map zAl) y4))),(8,.orow 0),(9,.s (.int .i64 x6))],ofH [(0,.row 54 8 ((List.map zAd) l31))],1⟩ ?_ (fun σ' hle => ?_)
        ·refine zAk (zAA (X:=Nat × Int × (List (Int × List Int × Int × Int × List Nd × Int × List UInt8 × List UInt8))) (fun y => match y with | (k,x28,l30) => ⟨ofL [(0,.s (.sl 1 ((List.map (irow .i64)) a1))),(1,.s (.sl 4 (Nd.encs a2))),(2,.s (.sl 4 (Nd.encs a3))),(7,.s (.sl 2 ((List.map zAl) y4))),(8,.orow 0),(9,.s (.int .i64 x6)),(11,.s (.pt [.int .i64 e19_kind,.str e19_text,.int .i64 e19_cols,.sl 4 (Nd.encs e19_kids)])),(12,.s (.int .i64 x28))],ofH [(0,.row 54 8 ((List.map zAd) l30))],1⟩) (fun y => zBN (zBv n) a1 a3 x6 e19_kids y.1 y.2.1 y.2.2 = some l31) (fun y => y.1) (n,0,l23) hl ?_ ?_)
         ·exact (Le.rename [(0,0)] _ _ _ ⟨rfl,rfl,rfl,rfl,rfl,rfl,rfl,rfl,trivial⟩ ⟨rfl,⟨_,rfl,rfl⟩,trivial⟩ rfl rfl rfl rfl rfl)
         ·rintro ⟨k,x28,l30⟩ h;cases k with
          | zero => cases h
          | succ k =>
           replace h : zBN (zBv n) a1 a3 x6 e19_kids (k+1) x28 l30 = some l31:=h;rw [zBN] at h;refine zAa ?_;refine zAa ?_;refine zAb [] [74,77] rfl ?_;obtain ⟨⟨e32_kind,e32_text,e32_cols,e32_kids⟩,he32,h⟩:=zAc h;refine And.intro (zAw Nd.encs_eq he32).1 ?_;intro r33 hr33;obtain rfl : [.int .i64 e32_kind,.str e32_text,.int .i64 e32_cols,.sl 4 (Nd.encs e32_kids)] = r33:=(hr33.trans (zAw Nd.encs_eq he32).2.1).symm;intro n34 hn34;obtain rfl : (e32_kids.length : Int) = n34:=(hn34.trans (congrArg (fun m : Nat => (m : Int)) (rlen Nd.encs_eq e32_kids))).symm;show Tri _ _ _ _
           refine zAe rfl (fun hb => ?_) (fun hb => ?_)
           ·replace h:=zAr hb h;refine zAj ?_;show Tri _ _ _ _;refine zAa ?_;refine zAk ?_;refine zAz (by exact tokW) (by exact gok) (by exact mixed) [102] [89,94,98] [21] rfl (by decide +kernel) ?_;obtain ⟨y35,hy35,h⟩:=zAc h;refine ⟨_,⟨_,_,_,_,hy35,rfl,rfl⟩,?_⟩
            obtain ⟨⟨e36_kind,e36_text,e36_cols,e36_kids⟩,he36,h⟩:=zAc h;refine And.intro (zAw Nd.encs_eq he36).1 ?_;intro r37 hr37;obtain rfl : [.int .i64 e36_kind,.str e36_text,.int .i64 e36_cols,.sl 4 (Nd.encs e36_kids)] = r37:=(hr37.trans (zAw Nd.encs_eq he36).2.1).symm;obtain ⟨⟨e38_kind,e38_text,e38_cols,e38_kids⟩,he38,h⟩:=zAc h;refine And.intro (zAw Nd.encs_eq he38).1 ?_;intro r39 hr39;obtain rfl : [.int .i64 e38_kind,.str e38_text,.int .i64 e38_cols,.sl 4 (Nd.encs e38_kids)] = r39:=(hr39.trans (zAw Nd.encs_eq he38).2.1).symm;obtain ⟨⟨e40_kind,e40_text,e40_cols,e40_kids⟩,he40,h⟩:=zAc h
            refine And.intro (zAw Nd.encs_eq he40).1 ?_;intro r41 hr41;obtain rfl : [.int .i64 e40_kind,.str e40_text,.int .i64 e40_cols,.sl 4 (Nd.encs e40_kids)] = r41:=(hr41.trans (zAw Nd.encs_eq he40).2.1).symm;obtain ⟨y42,hy42,h⟩:=zAc h;refine ⟨_,⟨_,_,_,_,hy42,rfl,rfl⟩,?_⟩
            obtain ⟨hq,h⟩:=zAJ h;refine And.intro (show (((List.map zAd) l30).length + ((List.map zAd) y42).length) * 112 ≤ 140737488355328 ∧ ((List.map zAd) l30).length + ((List.map zAd) y42).length ≤ 9223372036854775807 from by simp only [List.length_append,List.length_cons,List.length_nil,List.length_map,rlen (fun _ => rfl)] at hq ⊢; omega) ?_;show Tri _ _ _ _
            refine zAm (Le.rename [(1,0)] [(0,.s (.sl 1 ((List.map (irow .i64)) a1))),(1,.s (.sl 4 (Nd.encs a2))),(2,.s (.sl 4 (Nd.encs a3))),(7,.s (.sl 2 ((List.map zAl) y4))),(8,.orow 0),(9,.s (.int .i64 x6)),(11,.s (.pt [.int .i64 e19_kind,.str e19_text,.int .i64 e19_cols,.sl 4 (Nd.encs e19_kids)])),(12,.s (.int .i64 x28))] [(0,.row 54 8 ((List.map zAd) (l30 ++ y42)))] 1 ⟨rfl,rfl,rfl,rfl,rfl,rfl,rfl,rfl,trivial⟩ ⟨rfl,⟨_,rfl,congrArg (Ob.row 54 8) (by simp [List.map_append,List.map_take,List.map_drop,irow,brow,zAF,List.map_cons,List.map_nil,zAy,Nd.encs_eq,Nd.enc,zAh,zAg,zAi,zAs,zAu,zAn,zAl,zAd,zAP,zAM,zAH])⟩,trivial⟩ rfl rfl rfl rfl rfl) ?_
            refine zAb [] [] rfl ?_;refine ⟨(k,IntKind.i64.wrap (x28 + 1),l30 ++ y42),h,(Le.rename [(0,0)] _ _ _ ⟨rfl,rfl,rfl,rfl,rfl,rfl,rfl,rfl,trivial⟩ ⟨rfl,⟨_,rfl,rfl⟩,trivial⟩ rfl rfl rfl rfl rfl),Nat.lt_succ_self k⟩
           ·replace h:=zAq hb h;refine zAC ?_;cases h;exact (Le.rename [(0,0)] _ _ _ ⟨rfl,rfl,rfl,rfl,rfl,rfl,trivial⟩ ⟨rfl,⟨_,rfl,rfl⟩,trivial⟩ rfl rfl rfl rfl rfl)
        ·cases h;exact (Le.trans hle (Le.rename [(0,0)] _ _ _ ⟨rfl,rfl,rfl,rfl,rfl,rfl,trivial⟩ ⟨rfl,⟨_,rfl,rfl⟩,trivial⟩ rfl rfl rfl rfl rfl))
     ·show Tri _ _ _ _;refine zAm hle ?_;refine zAb [] [] rfl ?_;refine ⟨(k,IntKind.i64.wrap (x6 + 1),l10),h,(Le.rename [(0,0)] _ _ _ ⟨rfl,rfl,rfl,rfl,rfl,rfl,trivial⟩ ⟨rfl,⟨_,rfl,rfl⟩,trivial⟩ rfl rfl rfl rfl rfl),Nat.lt_succ_self k⟩
    ·replace h:=zAq hb h;refine zAC ?_;cases h;exact (Le.rename [(0,0)] _ _ _ ⟨rfl,trivial⟩ ⟨rfl,⟨_,rfl,rfl⟩,trivial⟩ rfl rfl rfl rfl rfl)
 ·show Tri _ _ _ _;refine zAm hle ?_;refine zAa ?_;refine zAb [] [] rfl ?_;show Tri _ _ _ _;refine zAv ?_;have hy:=Option.some.inj h;subst hy;unfold zAO;exact ⟨_,Le.refl _ _,0,rfl,rfl⟩
theorem zKa : ∀ n,PSound Tryz.prog 32 (zAG (zDC n)):=by
 intro n
 induction n with
 | zero => exact zBw Tryz.call32 (fun xs r h => by obtain ⟨_,_,_,_,h,_⟩:=h; cases h)
 | succ n ih => exact zJL n ih
def zHU : zAx:=zAG fun xs r => ∃ n,zDC n xs r
theorem zLo : PSound Tryz.prog 32 zHU:=zB3 zKa
def zRH (n : Nat) (xs : List AV) (r : Ret) : Prop:=∃ (a0 : Nd) (a1 : Nd) (y0 : List (Int × List Int × Int × Int × List Nd × Int × List UInt8 × List UInt8)),zGw n a0 a1 = some y0 ∧ xs = [.agg ((Nd.enc a0).map .s),.agg ((Nd.enc a1).map .s)] ∧ r = .row 54 8 ((List.map zAd) y0)
def zNY : zAx:=zAG fun xs r => ∃ n,zRH n xs r
theorem zRn : PSound Tryz.prog 11 zNY:=by
 have gok : ∀ f s,look? f [(31,zGk),(32,zHU)] = some s → PSound Tryz.prog f s:=zAB (by
  simp only [List.forall_mem_cons]
  exact ⟨zJH,zLo,by simp⟩)
 refine zAS tokW Tryz.call11 Tryz.func11 rfl (fun xs r h => by obtain ⟨n,_,_,_,_,rfl,_⟩:=h; show 2 ≤ 16; decide) 16 rfl ?_;rintro xs r w0 G0 ⟨n,⟨a1_kind,a1_text,a1_cols,a1_kids⟩,⟨b2_kind,b2_text,b2_cols,b2_kids⟩,y0,h,rfl,rfl⟩ _;rw [zGw] at h;refine zAa ?_;refine zAb [4] [] rfl ?_;show Tri _ _ _ _;refine zAm (Le.rename [] [(2,.s (.pt [.int .i64 a1_kind,.str a1_text,.int .i64 a1_cols,.sl 4 (Nd.encs a1_kids)])),(3,.s (.pt [.int .i64 b2_kind,.str b2_text,.int .i64 b2_cols,.sl 4 (Nd.encs b2_kids)]))] [] 0 ⟨rfl,rfl,trivial⟩ trivial rfl rfl rfl rfl rfl) ?_;refine zAa ?_
 refine zAz (by exact tokW) (by exact gok) (by exact mixed) [9,15] [] [4,10] rfl (by decide +kernel) ?_;obtain ⟨y3,hy3,h⟩:=zAc h;refine ⟨_,⟨_,_,_,_,_,hy3,rfl,rfl⟩,?_⟩
 obtain ⟨y4,hy4,h⟩:=zAc h;refine ⟨_,⟨_,_,_,_,_,hy4,rfl,rfl⟩,?_⟩
 obtain ⟨hq,h⟩:=zAJ h;refine And.intro (show (((List.map zAd) y3).length + ((List.map zAd) y4).length) * 112 ≤ 140737488355328 ∧ ((List.map zAd) y3).length + ((List.map zAd) y4).length ≤ 9223372036854775807 from by simp only [List.length_append,List.length_cons,List.length_nil,List.length_map,rlen (fun _ => rfl)] at hq ⊢; omega) ?_;show Tri _ _ _ _
 refine zAm (Le.rename [(1,0)] [(4,.orow 0)] [(0,.row 54 8 ((List.map zAd) (y3 ++ y4)))] 1 ⟨rfl,trivial⟩ ⟨rfl,⟨_,rfl,congrArg (Ob.row 54 8) (by simp [List.map_append,List.map_take,List.map_drop,irow,brow,zAF,List.map_cons,List.map_nil,zAy,Nd.encs_eq,Nd.enc,zAh,zAg,zAi,zAs,zAu,zAn,zAl,zAd,zAP,zAM,zAH])⟩,trivial⟩ rfl rfl rfl rfl rfl) ?_;refine zAv ?_;have hy:=Option.some.inj h;subst hy;unfold zAO;exact ⟨_,Le.refl _ _,0,rfl,rfl⟩
def zQY (n : Nat) (xs : List AV) (r : Ret) : Prop:=∃ (a0 : (Int × List Int × Int × Int × List Nd × Int × List UInt8 × List UInt8)) (a1 : (Int × List Int × Int × Int × List Nd × Int × List UInt8 × List UInt8)) (y0 : Bool),zEG n a0 a1 = some y0 ∧ xs = [.agg ((zAd a0).map .s),.agg ((zAd a1).map .s)] ∧ r = .val (.s (.bool y0))
def zLH : zAx:=zAG fun xs r => ∃ n,zQY n xs r
theorem zPZ : PSound Tryz.prog 30 zLH:=by
 have gok : ∀ f s,look? f [(38,zGj)] = some s → PSound Tryz.prog f s:=zAB (by
  simp only [List.forall_mem_cons]
  exact ⟨zJG,by simp⟩)
 refine zAS tokW Tryz.call30 Tryz.func30 rfl (fun xs r h => by obtain ⟨n,_,_,_,_,rfl,_⟩:=h; show 2 ≤ 78; decide) 78 rfl ?_;rintro xs r w0 G0 ⟨n,⟨a1_kind,a1_row,a1_at,a1_n,a1_nodes,a1_slot,a1_old,a1_text⟩,⟨a2_kind,a2_row,a2_at,a2_n,a2_nodes,a2_slot,a2_old,a2_text⟩,y0,h,rfl,rfl⟩ _;rw [zEG] at h;refine zAa ?_;refine zAb [] [] rfl ?_;show Tri _ _ _ _;refine zAa ?_;refine zAa ?_;obtain ⟨x3,hj,h⟩:=zAc h
 refine zAp ⟨ofL [(2,.s (.pt [.int .i64 a1_kind,.sl 1 ((List.map (irow .i64)) a1_row),.int .i64 a1_at,.int .i64 a1_n,.sl 4 (Nd.encs a1_nodes),.int .i64 a1_slot,.str a1_old,.str a1_text])),(3,.s (.pt [.int .i64 a2_kind,.sl 1 ((List.map (irow .i64)) a2_row),.int .i64 a2_at,.int .i64 a2_n,.sl 4 (Nd.encs a2_nodes),.int .i64 a2_slot,.str a2_old,.str a2_text])),(54,.s (.bool x3))],fun _ => none,0⟩ ?_ (fun σ' hle => ?_)
 ·replace h:=hj;refine zAb [] [11,18,25,32,39,46,49,52] rfl ?_;intro b hb;cases b with
  | true =>
   replace h:=zAr hb.symm h;intro b hb;subst hb;intro b hb;subst hb;intro b hb;subst hb;intro b hb;subst hb;intro b hb;subst hb;cases h;exact (Le.forget _ ⟨rfl,rfl,rfl,trivial⟩)
  | false =>
   replace h:=zAq hb.symm h;intro b hb;cases b with
   | true =>
    replace h:=zAr hb.symm h;intro b hb;subst hb;intro b hb;subst hb;intro b hb;subst hb;intro b hb;subst hb;cases h;exact (Le.forget _ ⟨rfl,rfl,rfl,trivial⟩)
   | false =>
    replace h:=zAq hb.symm h;intro b hb;cases b with
    | true =>
     replace h:=zAr hb.symm h;intro b hb;subst hb;intro b hb;subst hb;intro b hb;subst hb;cases h;exact (Le.forget _ ⟨rfl,rfl,rfl,trivial⟩)
    | false =>
     replace h:=zAq hb.symm h;intro b hb;cases b with
     | true =>
      replace h:=zAr hb.symm h;intro b hb;subst hb;intro b hb;subst hb;cases h;exact (Le.forget _ ⟨rfl,rfl,rfl,trivial⟩)
     | false =>
      replace h:=zAq hb.symm h;intro b hb;cases b with
      | true =>
       replace h:=zAr hb.symm h;intro b hb;subst hb;cases h;exact (Le.forget _ ⟨rfl,rfl,rfl,trivial⟩)
      | false =>
       replace h:=zAq hb.symm h;intro b hb;cases b with
       | true =>
        replace h:=zAr hb.symm h;cases h;exact (Le.forget _ ⟨rfl,rfl,rfl,trivial⟩)
       | false =>
        replace h:=zAq hb.symm h;intro n4 hn4;obtain rfl : (a1_row.length : Int) = n4:=(hn4.trans (congrArg (fun m : Nat => (m : Int)) (rlen (fun _ => rfl) a1_row))).symm;intro n5 hn5;obtain rfl : (a2_row.length : Int) = n5:=(hn5.trans (congrArg (fun m : Nat => (m : Int)) (rlen (fun _ => rfl) a2_row))).symm;cases h;exact (Le.forget _ ⟨rfl,rfl,rfl,trivial⟩)
 ·show Tri _ _ _ _;refine zAm hle ?_;refine zAe rfl (fun hb => ?_) (fun hb => ?_)
  ·replace h:=zAr hb h;refine zAa ?_;refine zAb [] [] rfl ?_;show Tri _ _ _ _;refine zAv ?_;have hy:=Option.some.inj h;subst hy;unfold zAO;exact ⟨_,Le.refl _ _,rfl,rfl⟩
  ·replace h:=zAq hb h;refine zAj ?_;show Tri _ _ _ _;refine zAa ?_;refine zAa ?_;refine zAb [] [] rfl ?_;show Tri _ _ _ _;obtain ⟨fl,hl,ho1⟩:=zAc h;refine zDP (fl:=fl) (fun z => match z with | _ => ⟨ofL [(2,.s (.pt [.int .i64 a1_kind,.sl 1 ((List.map (irow .i64)) a1_row),.int .i64 a1_at,.int .i64 a1_n,.sl 4 (Nd.encs a1_nodes),.int .i64 a1_slot,.str a1_old,.str a1_text])),(3,.s (.pt [.int .i64 a2_kind,.sl 1 ((List.map (irow .i64)) a2_row),.int .i64 a2_at,.int .i64 a2_n,.sl 4 (Nd.encs a2_nodes),.int .i64 a2_slot,.str a2_old,.str a2_text]))],fun _ => none,0⟩) ?_ (fun z σ' hz hle => ?_)
   ·refine zAk (zAA (X:=Nat × Int) (fun y => match y with | (k,x6) => ⟨ofL [(2,.s (.pt [.int .i64 a1_kind,.sl 1 ((List.map (irow .i64)) a1_row),.int .i64 a1_at,.int .i64 a1_n,.sl 4 (Nd.encs a1_nodes),.int .i64 a1_slot,.str a1_old,.str a1_text])),(3,.s (.pt [.int .i64 a2_kind,.sl 1 ((List.map (irow .i64)) a2_row),.int .i64 a2_at,.int .i64 a2_n,.sl 4 (Nd.encs a2_nodes),.int .i64 a2_slot,.str a2_old,.str a2_text])),(5,.s (.int .i64 x6))],fun _ => none,0⟩) (fun y => zCx a1_row a2_row y.1 y.2 = some fl) (fun y => y.1) (n,0) hl ?_ ?_)
    ·exact (Le.forget _ ⟨rfl,rfl,rfl,trivial⟩)
    ·rintro ⟨k,x6⟩ h;cases k with
     | zero => cases h
     | succ k =>
      replace h : zCx a1_row a2_row (k+1) x6 = some fl:=h;rw [zCx] at h;refine zAa ?_;refine zAa ?_;refine zAb [] [58] rfl ?_;intro n7 hn7;obtain rfl : (a1_row.length : Int) = n7:=(hn7.trans (congrArg (fun m : Nat => (m : Int)) (rlen (fun _ => rfl) a1_row))).symm;show Tri _ _ _ _;refine zAe rfl (fun hb => ?_) (fun hb => ?_)
      ·replace h:=zAr hb h;refine zAj ?_;show Tri _ _ _ _;refine zAa ?_;refine zAk ?_;refine zAa ?_;refine zAz (by exact tokW) (by exact gok) (by exact mixed) [] [65,70] [] rfl (by decide +kernel) ?_;obtain ⟨e8,he8,h⟩:=zAc h;refine And.intro (zAw (fun _ => rfl) he8).1 ?_;intro r9 hr9;obtain rfl : [.int .i64 e8] = r9:=(hr9.trans (zAw (fun _ => rfl) he8).2.1).symm;obtain ⟨e10,he10,h⟩:=zAc h;refine And.intro (zAw (fun _ => rfl) he10).1 ?_;intro r11 hr11;obtain rfl : [.int .i64 e10] = r11:=(hr11.trans (zAw (fun _ => rfl) he10).2.1).symm;show Tri _ _ _ _;refine zAe rfl (fun hb => ?_) (fun hb => ?_)
       ·replace h:=zAr hb h;refine zAa ?_;refine zAb [] [] rfl ?_;show Tri _ _ _ _;refine zAv ?_;cases h;replace h : some _ = some _:=ho1;have hy:=Option.some.inj h;subst hy;unfold zAO;exact ⟨_,Le.refl _ _,rfl,rfl⟩
       ·replace h:=zAq hb h;refine zAj ?_;show Tri _ _ _ _;refine zAb [] [] rfl ?_;refine ⟨(k,IntKind.i64.wrap (x6 + 1)),h,(Le.forget _ ⟨rfl,rfl,rfl,trivial⟩),Nat.lt_succ_self k⟩
      ·replace h:=zAq hb h;refine zAC ?_;cases h;exact ⟨_,rfl,(Le.forget _ ⟨rfl,rfl,trivial⟩)⟩
   ·subst hz;obtain _:=z;replace h:=ho1;show Tri _ _ _ _;refine zAm hle ?_;refine zAa ?_;refine zAb [] [] rfl ?_;obtain ⟨y12,hy12,h⟩:=zAc h;refine ⟨_,⟨_,_,_,_,hy12,rfl,rfl⟩,?_⟩
    show Tri _ _ _ _;refine zAv ?_;have hy:=Option.some.inj h;subst hy;unfold zAO;exact ⟨_,Le.refl _ _,rfl,rfl⟩
def zMu (n : Nat) (xs : List AV) (r : Ret) : Prop:=∃ (a0 : List (Int × List Int × Int × Int × List Nd × Int × List UInt8 × List UInt8)) (a1 : List (Int × List Int × Int × Int × List Nd × Int × List UInt8 × List UInt8)) (y0 : Bool),zDL n a0 a1 = some y0 ∧ xs = [.s (.sl 8 ((List.map zAd) a0)),.s (.sl 8 ((List.map zAd) a1))] ∧ r = .val (.s (.bool y0))
def zHT : zAx:=zAG fun xs r => ∃ n,zMu n xs r
theorem zLn : PSound Tryz.prog 10 zHT:=by
 have gok : ∀ f s,look? f [(30,zLH)] = some s → PSound Tryz.prog f s:=zAB (by
  simp only [List.forall_mem_cons]
  exact ⟨zPZ,by simp⟩)
 refine zAS tokW Tryz.call10 Tryz.func10 rfl (fun xs r h => by obtain ⟨n,_,_,_,_,rfl,_⟩:=h; show 2 ≤ 27; decide) 27 rfl ?_;rintro xs r w0 G0 ⟨n,a1,b2,y0,h,rfl,rfl⟩ _;rw [zDL] at h;refine zAa ?_;refine zAb [] [] rfl ?_;show Tri _ _ _ _;refine zAa ?_;refine zAa ?_;refine zAb [] [7,9] rfl ?_;intro n3 hn3;obtain rfl : (a1.length : Int) = n3:=(hn3.trans (congrArg (fun m : Nat => (m : Int)) (rlen (fun _ => rfl) a1))).symm;intro n4 hn4;obtain rfl : (b2.length : Int) = n4:=(hn4.trans (congrArg (fun m : Nat => (m : Int)) (rlen (fun _ => rfl) b2))).symm;show Tri _ _ _ _;refine zAe rfl (fun hb => ?_) (fun hb => ?_)
 ·replace h:=zAr hb h;refine zAa ?_;refine zAb [] [] rfl ?_;show Tri _ _ _ _;refine zAv ?_;have hy:=Option.some.inj h;subst hy;unfold zAO;exact ⟨_,Le.refl _ _,rfl,rfl⟩
 ·replace h:=zAq hb h;refine zAj ?_;show Tri _ _ _ _;refine zAa ?_;refine zAa ?_;refine zAb [] [] rfl ?_;show Tri _ _ _ _;obtain ⟨fl,hl,ho1⟩:=zAc h;refine zDP (fl:=fl) (fun z => match z with | _ => ⟨ofL [],fun _ => none,0⟩) ?_ (fun z σ' hz hle => ?_)
  ·refine zAk (zAA (X:=Nat × Int) (fun y => match y with | (k,i5) => ⟨ofL [(0,.s (.sl 8 ((List.map zAd) a1))),(1,.s (.sl 8 ((List.map zAd) b2))),(5,.s (.int .i64 i5))],fun _ => none,0⟩) (fun y => zBL n a1 b2 y.1 y.2 = some fl) (fun y => y.1) (n,0) hl ?_ ?_)
   ·exact (Le.forget _ ⟨rfl,rfl,rfl,trivial⟩)
   ·rintro ⟨k,i5⟩ h;cases k with
    | zero => cases h
    | succ k =>
     replace h : zBL n a1 b2 (k+1) i5 = some fl:=h;rw [zBL] at h;refine zAa ?_;refine zAa ?_;refine zAb [] [13] rfl ?_;intro n6 hn6;obtain rfl : (a1.length : Int) = n6:=(hn6.trans (congrArg (fun m : Nat => (m : Int)) (rlen (fun _ => rfl) a1))).symm;show Tri _ _ _ _;refine zAe rfl (fun hb => ?_) (fun hb => ?_)
     ·replace h:=zAr hb h;refine zAj ?_;show Tri _ _ _ _;refine zAa ?_;refine zAk ?_;refine zAa ?_;refine zAz (by exact tokW) (by exact gok) (by exact mixed) [] [19,23] [] rfl (by decide +kernel) ?_;obtain ⟨⟨e7_kind,e7_row,e7_at,e7_n,e7_nodes,e7_slot,e7_old,e7_text⟩,he7,h⟩:=zAc h;refine And.intro (zAw (fun _ => rfl) he7).1 ?_;intro r8 hr8;obtain rfl : [.int .i64 e7_kind,.sl 1 ((List.map (irow .i64)) e7_row),.int .i64 e7_at,.int .i64 e7_n,.sl 4 (Nd.encs e7_nodes),.int .i64 e7_slot,.str e7_old,.str e7_text] = r8:=(hr8.trans (zAw (fun _ => rfl) he7).2.1).symm
      obtain ⟨⟨e9_kind,e9_row,e9_at,e9_n,e9_nodes,e9_slot,e9_old,e9_text⟩,he9,h⟩:=zAc h;refine And.intro (zAw (fun _ => rfl) he9).1 ?_;intro r10 hr10;obtain rfl : [.int .i64 e9_kind,.sl 1 ((List.map (irow .i64)) e9_row),.int .i64 e9_at,.int .i64 e9_n,.sl 4 (Nd.encs e9_nodes),.int .i64 e9_slot,.str e9_old,.str e9_text] = r10:=(hr10.trans (zAw (fun _ => rfl) he9).2.1).symm;obtain ⟨y11,hy11,h⟩:=zAc h;refine ⟨_,⟨_,_,_,_,hy11,rfl,rfl⟩,?_⟩
      show Tri _ _ _ _;refine zAe rfl (fun hb => ?_) (fun hb => ?_)
      ·replace h:=zAr hb h;refine zAa ?_;refine zAb [] [] rfl ?_;show Tri _ _ _ _;refine zAv ?_;cases h;replace h : some _ = some _:=ho1;have hy:=Option.some.inj h;subst hy;unfold zAO;exact ⟨_,Le.refl _ _,rfl,rfl⟩
      ·replace h:=zAq hb h;refine zAj ?_;show Tri _ _ _ _;refine zAb [] [] rfl ?_;refine ⟨(k,IntKind.i64.wrap (i5 + 1)),h,(Le.forget _ ⟨rfl,rfl,rfl,trivial⟩),Nat.lt_succ_self k⟩
     ·replace h:=zAq hb h;refine zAC ?_;cases h;exact ⟨_,rfl,(Le.forget _ trivial)⟩
  ·subst hz;obtain _:=z;replace h:=ho1;show Tri _ _ _ _;refine zAm hle ?_;refine zAa ?_;refine zAb [] [] rfl ?_;show Tri _ _ _ _;refine zAv ?_;have hy:=Option.some.inj h;subst hy;unfold zAO;exact ⟨_,Le.refl _ _,rfl,rfl⟩
def zPz (n : Nat) (xs : List AV) (r : Ret) : Prop:=∃ (a0 : Nd) (y0 : Bool),zD0 n a0 = some y0 ∧ xs = [.agg ((Nd.enc a0).map .s)] ∧ r = .val (.s (.bool y0))
def zJ6 : zAx:=zAG fun xs r => ∃ n,zPz n xs r
theorem zON : PSound Tryz.prog 9 zJ6:=by
 have gok : ∀ f s,look? f [(27,zLD),(28,zFP),(29,zJ4)] = some s → PSound Tryz.prog f s:=zAB (by
  simp only [List.forall_mem_cons]
  exact ⟨zPV,zGy,zOK,by simp⟩)
 refine zAS tokW Tryz.call9 Tryz.func9 rfl (fun xs r h => by obtain ⟨n,_,_,_,rfl,_⟩:=h; show 1 ≤ 20; decide) 20 rfl ?_;rintro xs r w0 G0 ⟨n,⟨n1_kind,n1_text,n1_cols,n1_kids⟩,y0,h,rfl,rfl⟩ _;rw [zD0] at h;refine zAa ?_;refine zAb [] [] rfl ?_;show Tri _ _ _ _;refine zAa ?_;obtain ⟨x2,hj,h⟩:=zAc h;refine zAp ⟨ofL [(2,.s (.bool x2))],fun _ => none,0⟩ ?_ (fun σ' hle => ?_)
 ·replace h:=hj;refine zAb [] [6,10,15] rfl ?_;intro b hb;cases b with
  | true =>
   replace h:=zAr hb.symm h;obtain ⟨y3,hy3,h⟩:=zAc h;refine ⟨_,⟨_,_,_,hy3,rfl,rfl⟩,?_⟩
   intro b hb;cases b with
   | true =>
    replace h:=zAr hb.symm h;obtain ⟨y4,hy4,h⟩:=zAc h;refine ⟨_,⟨_,_,_,hy4,rfl,rfl⟩,?_⟩
    intro b hb;cases b with
    | true =>
     replace h:=zAr hb.symm h;obtain ⟨y5,hy5,h⟩:=zAc h;refine ⟨_,⟨_,_,_,hy5,rfl,rfl⟩,?_⟩
     cases h;exact (Le.forget _ ⟨rfl,trivial⟩)
    | false =>
     replace h:=zAq hb.symm h;cases h;exact (Le.forget _ ⟨rfl,trivial⟩)
   | false =>
    replace h:=zAq hb.symm h;intro b hb;subst hb;cases h;exact (Le.forget _ ⟨rfl,trivial⟩)
  | false =>
   replace h:=zAq hb.symm h;intro b hb;subst hb;intro b hb;subst hb;cases h;exact (Le.forget _ ⟨rfl,trivial⟩)
 ·show Tri _ _ _ _;refine zAm hle ?_;refine zAv ?_;have hy:=Option.some.inj h;subst hy;unfold zAO;exact ⟨_,Le.refl _ _,rfl,rfl⟩
def zMn (n : Nat) (xs : List AV) (r : Ret) : Prop:=∃ (a0 : Nd) (a1 : Nd) (y0 : Bool),zDH n a0 a1 = some y0 ∧ xs = [.agg ((Nd.enc a0).map .s),.agg ((Nd.enc a1).map .s)] ∧ r = .val (.s (.bool y0))
def zMw : zAx:=zAG fun xs r => ∃ n,zMn n xs r
theorem zLi : PSound Tryz.prog 3 zMw:=by
 have gok : ∀ f s,look? f [(6,zJ1),(7,zNV),(8,zLB),(9,zJ6),(11,zNY),(10,zHT)] = some s → PSound Tryz.prog f s:=zAB (by
  simp only [List.forall_mem_cons]
  exact ⟨zOH,zRk,zPT,zON,zRn,zLn,by simp⟩)
 refine zAS tokW Tryz.call3 Tryz.func3 rfl (fun xs r h => by obtain ⟨n,_,_,_,_,rfl,_⟩:=h; show 2 ≤ 43; decide) 43 rfl ?_;rintro xs r w0 G0 ⟨n,⟨a1_kind,a1_text,a1_cols,a1_kids⟩,⟨b2_kind,b2_text,b2_cols,b2_kids⟩,y0,h,rfl,rfl⟩ _;rw [zDH] at h;refine zAa ?_;refine zAb [] [] rfl ?_;show Tri _ _ _ _;refine zAa ?_;refine zAa ?_;refine zAb [] [] rfl ?_;obtain ⟨y3,hy3,h⟩:=zAc h;refine ⟨_,⟨_,_,hy3,rfl,rfl⟩,?_⟩
 show Tri _ _ _ _;refine zAe rfl (fun hb => ?_) (fun hb => ?_)
 ·replace h:=zAr hb h;refine zAa ?_;refine zAb [] [] rfl ?_;show Tri _ _ _ _;refine zAv ?_;have hy:=Option.some.inj h;subst hy;unfold zAO;exact ⟨_,Le.refl _ _,rfl,rfl⟩
 ·replace h:=zAq hb h;refine zAj ?_;show Tri _ _ _ _;refine zAa ?_;refine zAa ?_;refine zAb [] [] rfl ?_;obtain ⟨y4,hy4,h⟩:=zAc h;refine ⟨_,⟨_,_,_,_,hy4,rfl,rfl⟩,?_⟩
  show Tri _ _ _ _;refine zAe rfl (fun hb => ?_) (fun hb => ?_)
  ·replace h:=zAr hb h;refine zAa ?_;refine zAb [] [] rfl ?_;show Tri _ _ _ _;refine zAv ?_;have hy:=Option.some.inj h;subst hy;unfold zAO;exact ⟨_,Le.refl _ _,rfl,rfl⟩
  ·replace h:=zAq hb h;refine zAj ?_;show Tri _ _ _ _;refine zAa ?_;refine zAb [] [] rfl ?_;obtain ⟨⟨y5,y6⟩,hy5,h⟩:=zAc h;refine ⟨_,⟨_,_,_,_,_,hy5,rfl,rfl⟩,?_⟩
   show Tri _ _ _ _;refine zAa ?_;refine zAa ?_;obtain ⟨x7,hj,h⟩:=zAc h;refine zAp ⟨ofL [(2,.s (.pt [.int .i64 a1_kind,.str a1_text,.int .i64 a1_cols,.sl 4 (Nd.encs a1_kids)])),(3,.s (.pt [.int .i64 b2_kind,.str b2_text,.int .i64 b2_cols,.sl 4 (Nd.encs b2_kids)])),(5,.s (.sl 8 ((List.map zAd) y5))),(6,.s (.int .i64 y6)),(26,.s (.bool x7))],fun _ => none,0⟩ ?_ (fun σ' hle => ?_)
   ·replace h:=hj;refine zAb [] [22] rfl ?_;obtain ⟨y8,hy8,h⟩:=zAc h;refine ⟨_,⟨_,_,_,hy8,rfl,rfl⟩,?_⟩
    intro b hb;cases b with
    | true =>
     replace h:=zAr hb.symm h;cases h;exact (Le.forget _ ⟨rfl,rfl,rfl,rfl,rfl,trivial⟩)
    | false =>
     replace h:=zAq hb.symm h;obtain ⟨y9,hy9,h⟩:=zAc h;refine ⟨_,⟨_,_,_,hy9,rfl,rfl⟩,?_⟩
     cases h;exact (Le.forget _ ⟨rfl,rfl,rfl,rfl,rfl,trivial⟩)
   ·show Tri _ _ _ _;refine zAm hle ?_;refine zAe rfl (fun hb => ?_) (fun hb => ?_)
    ·replace h:=zAr hb h;refine zAa ?_;obtain ⟨x10,hj,h⟩:=zAc h;refine zAp ⟨ofL [(4,.s (.bool x10))],fun _ => none,0⟩ ?_ (fun σ' hle => ?_)
     ·replace h:=hj;refine zAb [] [28,30] rfl ?_;intro n11 hn11;obtain rfl : (y5.length : Int) = n11:=(hn11.trans (congrArg (fun m : Nat => (m : Int)) (rlen (fun _ => rfl) y5))).symm;intro b hb;cases b with
      | true =>
       replace h:=zAr hb.symm h;cases h;exact (Le.forget _ ⟨rfl,trivial⟩)
      | false =>
       replace h:=zAq hb.symm h;cases h;exact (Le.forget _ ⟨rfl,trivial⟩)
     ·show Tri _ _ _ _;refine zAm hle ?_;refine zAv ?_;have hy:=Option.some.inj h;subst hy;unfold zAO;exact ⟨_,Le.refl _ _,rfl,rfl⟩
    ·replace h:=zAq hb h;refine zAj ?_;show Tri _ _ _ _;refine zAa ?_;obtain ⟨x12,hj,h⟩:=zAc h;refine zAp ⟨ofL [(4,.s (.bool x12))],fun _ => none,0⟩ ?_ (fun σ' hle => ?_)
     ·replace h:=hj;refine zAb [] [36] rfl ?_;intro b hb;cases b with
      | true =>
       replace h:=zAr hb.symm h;obtain ⟨y13,hy13,h⟩:=zAc h;refine ⟨_,⟨_,_,_,_,hy13,rfl,rfl⟩,?_⟩
       obtain ⟨y14,hy14,h⟩:=zAc h;refine ⟨_,⟨_,_,_,_,hy14,rfl,rfl⟩,?_⟩
       cases h;exact (Le.forget _ ⟨rfl,trivial⟩)
      | false =>
       replace h:=zAq hb.symm h;cases h;exact (Le.forget _ ⟨rfl,trivial⟩)
     ·show Tri _ _ _ _;refine zAm hle ?_;refine zAv ?_;have hy:=Option.some.inj h;subst hy;unfold zAO;exact ⟨_,Le.refl _ _,rfl,rfl⟩
end Go.Proofs.YtjdhkpdjecegnaaGreatDoor
namespace Go.Proofs.YtjdhkpdjecegnaaGreatDoor
open Go.Abs
theorem zQS {n : Nat} {ss : List S} (h : Typed T n 24 ss) : ∃ t : Nd,ss = t.enc ∧ t.rng :=
 zRA (T:=T) (e:=24) (s:=22) (ki:=3) (st:=9) rfl rfl rfl rfl rfl rfl rfl rfl rfl n h
end Go.Proofs.YtjdhkpdjecegnaaGreatDoor
namespace Go.Proofs.YtjdhkpdjecegnaaGreatDoor
open Go.Abs
theorem zA8 {φ : Prop} [Decidable φ] (h : φ) : decide φ = true:=decide_eq_true h
theorem zA5 {φ : Prop} [Decidable φ] (h : ¬ φ) : decide φ = false:=decide_eq_false h
theorem zHf {F : Nd → Option Int} {ks : List Nd} (hF : ∀ v ∈ ks,F v = some (v.cnt : Int)) :
  ∀ (k i : Nat) (o : Nat),ks.length - i < k → i ≤ ks.length → o + Nd.cnts (ks.drop i) ≤ 1073741824 → ks.length ≤ 1073741824 → zCb F ks k (o : Int) (i : Int) = some ((o + Nd.cnts (ks.drop i) : Nat) : Int)
 | 0,_,_,h,_,_,_ => by omega
 | k + 1,i,o,hk,hi,ho,hl => by
  unfold zCb
  by_cases h : i < ks.length
  ·rw [zA8 (Int.ofNat_lt.2 h),cond_true,zBA h]
   have hd:=Nd.cnts_drop h;have hf:=hF _ (List.getElem_mem h)
   rcases e : ks[i] with ⟨a,b,c,d⟩
   rw [e] at hd hf;simp only [Option.bind_some,hf]
   rw [wrap64_in (by omega) (by omega),zAL (by omega),← Int.natCast_add,zHf hF k (i + 1) _ (by omega) (by omega) (by omega) hl,hd]
   congr 2; omega
  ·rw [zA5 (by omega),cond_false]
   obtain rfl : i = ks.length :=(by omega);simp [Nd.cnts]
theorem zDz : ∀ (n : Nat) (t : Nd),t.cnt < n → t.cnt ≤ 67108864 → zBg n t = some (t.cnt : Int)
 | 0,_,h,_ => by omega
 | n + 1,.mk a b c ks,h,hb => by
  simp only [Nd.cnt] at h hb;have hl:=Nd.cnts_len ks;unfold zBg;have:=zHf (F:=zBg n) (ks:=ks) (fun v hv => zDz n v (by have:=Nd.cnts_mem hv; omega) (by have:=Nd.cnts_mem hv; omega)) n 0 1 (by omega) (by omega) (by simp; omega) (by omega)
  rw [show ((0 : Nat) : Int) = 0 from rfl,show ((1 : Nat) : Int) = 1 from rfl] at this;rw [this]
  simp only [Option.bind_some,List.drop_zero,Nd.cnt]
  congr 2; omega
def scnt : List (Nd × Int) → Nat
 | [] => 0
 | p :: l => p.1.cnt + scnt l
theorem zHE : ∀ a b : List (Nd × Int),scnt (a ++ b) = scnt a + scnt b
 | [],b => by simp [scnt]
 | v :: a,b => by simp only [List.cons_append,scnt,zHE a b]; omega
theorem zNo : ∀ a : List (Nd × Int),a.length ≤ scnt a
 | [] => Nat.le_refl _
 | v :: a => by have:=zNo a; have:=v.1.cnt_pos; simp only [scnt,List.length_cons]; omega
theorem zLR {ks : List Nd} {d : Int} : ∀ (k i : Nat) (l : List (Nd × Int)),ks.length - i < k → i ≤ ks.length → scnt l + Nd.cnts (ks.drop i) ≤ 1073741824 → ks.length ≤ 1073741824 →
  ∃ l',zCa ks d k (i : Int) l = some l' ∧ scnt l' = scnt l + Nd.cnts (ks.drop i)
 | 0,_,_,h,_,_,_ => by omega
 | k + 1,i,l,hk,hi,ho,hl => by
  unfold zCa
  by_cases h : i < ks.length
  ·rw [zA8 (Int.ofNat_lt.2 h),cond_true,zBA h]
   have hd:=Nd.cnts_drop h;rcases e : ks[i] with ⟨a,b,c,e4⟩
   rw [e] at hd;have hp:=(Nd.mk a b c e4).cnt_pos;have hll:=zNo l;simp only [Option.bind_some]
   rw [zBx (by simp only [List.length_singleton]; omega),zAL (by omega)]
   have hs : scnt (l ++ [(Nd.mk a b c e4,IntKind.i64.wrap (d + 1))]) = scnt l + (Nd.mk a b c e4).cnt :=(by rw [zHE]; simp [scnt]);obtain ⟨l',h1,h2⟩:=zLR (ks:=ks) (d:=d) k (i + 1) (l ++ [(Nd.mk a b c e4,IntKind.i64.wrap (d + 1))]) (by omega) (by omega) (by omega) hl;exact ⟨l',h1,by omega⟩
  ·rw [zA5 (by omega),cond_false]
   obtain rfl : i = ks.length :=(by omega);exact ⟨l,rfl,by simp [Nd.cnts]⟩
theorem zLQ (n : Nat) : ∀ (k : Nat) (x : Nat) (l : List (Nd × Int)),scnt l < k → scnt l < n → x + scnt l ≤ 67108864 → zB9 n k (x : Int) l = some ((x + scnt l : Nat) : Int)
 | 0,_,_,h,_,_ => by omega
 | k + 1,x,l,hk,hn,hx => by
  unfold zB9;rcases List.eq_nil_or_concat l with rfl | ⟨l,p,rfl⟩
  ·simp [scnt]
  ·rw [List.concat_eq_append] at *;obtain ⟨⟨a,b,c,ks⟩,d⟩:=p;have hs : scnt (l ++ [(Nd.mk a b c ks,d)]) = scnt l + (Nd.cnts ks + 1) :=(by rw [zHE]; simp [scnt,Nd.cnt]);have hll:=zNo l;have hlk:=Nd.cnts_len ks;have hlen : ((l ++ [(Nd.mk a b c ks,d)]).length : Int) = (l.length : Int) + 1 :=(by simp);have hw : IntKind.i64.wrap (((l ++ [(Nd.mk a b c ks,d)]).length : Int) - 1) = (l.length : Int) :=(by rw [hlen,wrap64_in (by omega) (by omega)]; omega);rw [zA8 (by omega),cond_true,hw,zBA (by simp)]
   simp only [List.getElem_concat_length,Option.bind_some]
   rw [zBx (by omega)]
   simp only [zD7,Option.bind_some,Int.toNat_natCast,List.take_left]
   obtain ⟨l',h1,h2⟩:=zLR (ks:=ks) (d:=d) n 0 l (by omega) (by omega) (by simp; omega) (by omega)
   rw [List.drop_zero] at h2;rw [show ((0 : Nat) : Int) = 0 from rfl] at h1;rw [h1,Option.bind_some,zAL (by omega),zLQ n k (x + 1) l' (by omega) (by omega) (by omega)]
   congr 2; omega
theorem zMW (n : Nat) (t : Nd) (h : t.cnt < n) (hb : t.cnt ≤ 67108864) : zEf n t = some (t.cnt : Int):=by
 obtain ⟨a,b,c,ks⟩:=t;have:=zLQ n n 0 [(.mk a b c ks,1)] (by simpa [scnt] using h) (by simpa [scnt] using h) (by simp only [scnt]; omega)
 rw [show ((0 : Nat) : Int) = 0 from rfl] at this;simp only [zEf,zFV,this,Option.bind_some,scnt]
 congr 2; omega
theorem zOv {F : Nd → Int → Option Int} {ks : List Nd} {b : Nat} (hF : ∀ (v : Nd) (m : Nat),m ≤ b → ∃ r,F v (m : Int) = some r ∧ -1 ≤ r ∧ r < m ∧ (0 ≤ r → r + v.cnt = m)) :
  ∀ (k i : Nat) (m : Int),m + 1 < k → -1 ≤ m → m ≤ b → i ≤ ks.length → (i : Int) + m < 4611686018427387904 → ∃ r,zB6 F ks k m (i : Int) = some r ∧ -1 ≤ r ∧ r ≤ m ∧ (0 ≤ r → r + Nd.cnts (ks.drop i) = m)
 | 0,_,_,h,_,_,_,_ => by omega
 | k + 1,i,m,hk,hm,hb,hi,hx => by
  unfold zB6
  by_cases h : i < ks.length
  ·rw [zA8 (Int.ofNat_lt.2 h),cond_true]
   simp only [Option.bind_some]
   by_cases h0 : 0 ≤ m
   ·rw [zA8 h0,cond_true,zBA h]
    have hd:=Nd.cnts_drop h;rcases e : ks[i] with ⟨e1,e2,e3,e4⟩
    rw [e] at hd;simp only [Option.bind_some]
    obtain ⟨m',rfl⟩:=Int.eq_ofNat_of_zero_le h0;obtain ⟨r,h1,h2,h3,h4⟩:=hF (.mk e1 e2 e3 e4) m' (by omega)
    rw [h1,Option.bind_some,zAL (by omega)]
    obtain ⟨r',g1,g2,g3,g4⟩:=zOv (ks:=ks) hF k (i + 1) r (by omega) h2 (by omega) (by omega) (by omega)
    exact ⟨r',g1,g2,by omega,fun g => by have:=g4 g; have:=h4 (by omega); omega⟩
   ·rw [zA5 h0,cond_false]
    exact ⟨m,rfl,hm,Int.le_refl _,fun g => by omega⟩
  ·rw [zA5 (by omega),cond_false]
   simp only [Option.bind_some,cond_false]
   obtain rfl : i = ks.length :=(by omega);exact ⟨m,rfl,hm,Int.le_refl _,fun _ => by simp [Nd.cnts]⟩
theorem left_eq : ∀ (n : Nat) (t : Nd) (m : Nat),m + 1 < n → m ≤ 67108864 → ∃ r,zC9 n t (m : Int) = some r ∧ -1 ≤ r ∧ r < m ∧ (0 ≤ r → r + t.cnt = m)
 | 0,_,_,h,_ => by omega
 | n + 1,.mk a b c ks,m,h,hm => by
  unfold zC9;rw [wrap64_in (by omega) (by omega)]
  cases m with
  | zero =>
   cases n with
   | zero => omega
   | succ n =>
    refine ⟨-1,?_,by omega,by omega,fun h => by omega⟩
    unfold zB6;cases decide (((0 : Nat) : Int) < (ks.length : Int)) <;> simp <;> rfl
  | succ m =>
   obtain ⟨r,h1,h2,h3,h4⟩:=zOv (F:=zC9 n) (ks:=ks) (b:=m) (fun v q hq => left_eq n v q (by omega) (by omega)) n 0 (m : Int) (by omega) (by omega) (by omega) (by omega) (by omega)
   rw [show ((0 : Nat) : Int) = 0 from rfl] at h1;rw [show ((m + 1 : Nat) : Int) - 1 = (m : Int) by omega,h1]
   exact ⟨r,rfl,h2,by omega,fun g => by have:=h4 g; rw [List.drop_zero] at this; simp only [Nd.cnt]; omega⟩
theorem zTU (n : Nat) (t : Nd) (m : Nat) (h : m + 1 < n) (hm : m ≤ 67108864) : ∃ b,zFD n t (m : Int) = some b ∧ (b = true → t.cnt ≤ m):=by
 obtain ⟨a,b,c,ks⟩:=t;obtain ⟨r,h1,h2,h3,h4⟩:=left_eq n (.mk a b c ks) m h hm;refine ⟨decide (0 ≤ r),by simp [zFD,h1],fun g => by have g0:=of_decide_eq_true g; have:=h4 g0; omega⟩
end Go.Proofs.YtjdhkpdjecegnaaGreatDoor
namespace Go.Proofs.YtjdhkpdjecegnaaGreatDoor
open Go.Abs
def zMz {α : Type} (p : α → Bool) (l : List α) : Fl Bool Unit:=if l.all p then .go () else .ret false
theorem zS9 {α : Type} {p : α → Bool} {l : List α} {i : Nat} (h : i < l.length) : (l.drop i).all p = (p l[i] && (l.drop (i + 1)).all p):=by
 rw [List.drop_eq_getElem_cons h]; rfl
theorem zTa {α : Type} {p : α → Bool} {l : List α} {i : Nat} (h : i < l.length) : (l.drop i).any p = (p l[i] || (l.drop (i + 1)).any p):=by
 rw [List.drop_eq_getElem_cons h]; rfl
theorem zGU {α : Type} {p : α → Bool} {l : List α} (L : Nat → Int → Option (Fl Bool Unit)) (hb : l.length ≤ 1073741824)
  (h1 : ∀ (k i : Nat) (h : i < l.length),L (k + 1) (i : Int) = if p l[i] then L k (((i + 1 : Nat)) : Int) else some (.ret false)) (h2 : ∀ k,L (k + 1) (l.length : Int) = some (.go ())) :
  ∀ (k i : Nat),l.length - i < k → i ≤ l.length → L k (i : Int) = some (zMz p (l.drop i))
 | 0,_,h,_ => by omega
 | k + 1,i,hk,hi => by
  by_cases h : i < l.length
  ·rw [h1 k i h,zGU L hb h1 h2 k (i + 1) (by omega) (by omega)]
   unfold zMz;rw [zS9 h]
   cases p l[i] <;> simp
  ·obtain rfl : i = l.length :=(by omega);rw [h2]; simp [zMz]
theorem zMR {α : Type} {p : α → Bool} {l : List α} (L : Nat → Int → Option (Fl Bool Unit)) (hb : l.length ≤ 1073741824)
  (h1 : ∀ (k i : Nat) (h : i < l.length),L (k + 1) (i : Int) = if p l[i] then some (.ret true) else L k (((i + 1 : Nat)) : Int)) (h2 : ∀ k,L (k + 1) (l.length : Int) = some (.go ())) :
  ∀ (k i : Nat),l.length - i < k → i ≤ l.length → L k (i : Int) = some (if (l.drop i).any p then .ret true else .go ())
 | 0,_,h,_ => by omega
 | k + 1,i,hk,hi => by
  by_cases h : i < l.length
  ·rw [h1 k i h,zMR L hb h1 h2 k (i + 1) (by omega) (by omega),zTa h]
   cases p l[i] <;> simp
  ·obtain rfl : i = l.length :=(by omega);rw [h2]; simp
theorem zJw {P : UInt8 → Bool} (h : (List.range 256).all (fun n => P n.toUInt8) = true) (b : UInt8) : P b = true:=by
 have : P (UInt8.ofNat b.toNat) = true:=List.all_eq_true.1 h b.toNat (List.mem_range.2 b.toNat_lt)
 rwa [UInt8.ofNat_toNat] at this
def zCS (b : UInt8) : Bool:=(decide (97 ≤ b.toNat) && decide (b.toNat ≤ 122)) || (decide (65 ≤ b.toNat) && decide (b.toNat ≤ 90))
def zDd (b : UInt8) : Bool:=decide (48 ≤ b.toNat) && decide (b.toNat ≤ 57)
def zFK (b : UInt8) : Bool:=decide (32 ≤ b.toNat) && decide (b.toNat ≤ 126)
theorem zN6 (b : UInt8) : (bif decide ((zKe .or .u8 (b.toNat : Int) 32) < 97) then some true else some (decide (122 < (zKe .or .u8 (b.toNat : Int) 32)))) = some (!zCS b) :=
 of_decide_eq_true (zJw (P:=fun b => decide ((bif decide ((zKe .or .u8 (b.toNat : Int) 32) < 97) then some true else some (decide (122 < (zKe .or .u8 (b.toNat : Int) 32)))) = some (!zCS b))) (by decide +kernel) b)
theorem zJc (b : UInt8) : zDy (b.toNat : Int) = some (zCS b) :=
 of_decide_eq_true (zJw (P:=fun b => decide (zDy (b.toNat : Int) = some (zCS b))) (by decide +kernel) b)
theorem zPH (b : UInt8) : zEZ (b.toNat : Int) = some (zDd b) :=
 of_decide_eq_true (zJw (P:=fun b => decide (zEZ (b.toNat : Int) = some (zDd b))) (by decide +kernel) b)
theorem zKx (n : Nat) (s : List UInt8) (h : s.length < n) (hb : s.length ≤ 1073741824) : zCJ n s = some (s.all zCS):=by
 have:=zGU (p:=zCS) (l:=s) (zBo s) hb (fun k i h => by
  rw [zBo,zA8 (Int.ofNat_lt.2 h),cond_true,zBA h]
  simp only [Option.bind_some,zN6]
  rw [zAL (by omega)]
  cases zCS s[i] <;> rfl) (fun k => by rw [zBo,zA5 (by omega)]; rfl) n 0 (by omega) (by omega)
 rw [show ((0 : Nat) : Int) = 0 from rfl,List.drop_zero] at this;rw [zCJ,this]
 unfold zMz;cases s.all zCS <;> rfl
theorem zLr (n : Nat) (s : List UInt8) (h : s.length < n) (hb : s.length ≤ 1073741824) : zBu s n 0 = some (zMz zCS s):=by
 have:=zGU (p:=zCS) (l:=s) (zBu s) hb (fun k i h => by
  rw [zBu,zA8 (Int.ofNat_lt.2 h),cond_true,zBA h]
  simp only [Option.bind_some,zJc]
  rw [zAL (by omega)]
  cases zCS s[i] <;> rfl) (fun k => by rw [zBu,zA5 (by omega)]; rfl) n 0 (by omega) (by omega)
 rwa [show ((0 : Nat) : Int) = 0 from rfl,List.drop_zero] at this
theorem zL5 (n : Nat) (s : List UInt8) (c : Int) (h : s.length < n) (hb : s.length ≤ 1073741824) : zCX n s c = some (s.any fun b => (b.toNat : Int) == c):=by
 have:=zMR (p:=fun b => (b.toNat : Int) == c) (l:=s) (zCp s c) hb (fun k i h => by
  rw [zCp,zA8 (Int.ofNat_lt.2 h),cond_true,zBA h]
  simp only [Option.bind_some]
  rw [zAL (by omega)]
  cases ((s[i].toNat : Int) == c) <;> rfl) (fun k => by rw [zCp,zA5 (by omega)]; rfl) n 0 (by omega) (by omega)
 rw [show ((0 : Nat) : Int) = 0 from rfl,List.drop_zero] at this;rw [zCX,this]
 cases s.any fun b => (b.toNat : Int) == c <;> rfl
theorem zKP (n : Nat) (l : List (List UInt8)) (s : List UInt8) (h : l.length < n) (hb : l.length ≤ 1073741824) : zD8 n l s = some (l.any fun e => e == s):=by
 have:=zMR (p:=fun e => e == s) (l:=l) (zCV l s) hb (fun k i h => by
  rw [zCV,zA8 (Int.ofNat_lt.2 h),cond_true,zBA h]
  simp only [Option.bind_some]
  rw [zAL (by omega)]
  cases (l[i] == s) <;> rfl) (fun k => by rw [zCV,zA5 (by omega)]; rfl) n 0 (by omega) (by omega)
 rw [show ((0 : Nat) : Int) = 0 from rfl,List.drop_zero] at this;rw [zD8,this]
 cases l.any fun e => e == s <;> rfl
theorem zFl (n : Nat) (s : List UInt8) (h : s.length < n) (hb : s.length ≤ 1073741824) : zC6 n s = some (s.all zDd && !(s == [])):=by
 have:=zGU (p:=zDd) (l:=s) (zBy s) hb (fun k i h => by
  rw [zBy,zA8 (Int.ofNat_lt.2 h),cond_true,zBA h]
  simp only [Option.bind_some]
  rw [zAL (by omega)]
  unfold zDd
  by_cases a : 48 ≤ s[i].toNat
  ·by_cases b : s[i].toNat ≤ 57
   ·simp [a,b,show ¬ ((s[i].toNat : Int) < 48) by omega,show ¬ (57 < (s[i].toNat : Int)) by omega]
   ·simp [a,b,show ¬ ((s[i].toNat : Int) < 48) by omega,show (57 < (s[i].toNat : Int)) by omega]
  ·simp [a,show ((s[i].toNat : Int) < 48) by omega]) (fun k => by rw [zBy,zA5 (by omega)]; rfl) n 0 (by omega) (by omega)
 rw [show ((0 : Nat) : Int) = 0 from rfl,List.drop_zero] at this;rw [zC6,this]
 unfold zMz;cases s.all zDd <;> rfl
theorem zOZ (b : UInt8) : (bif decide ((b.toNat : Int) < 32) then some true else some (decide (126 < (b.toNat : Int))) : Option Bool) = some (!zFK b):=by
 unfold zFK
 by_cases a : 32 ≤ b.toNat
 ·by_cases c : b.toNat ≤ 126
  ·simp [a,c,show ¬ ((b.toNat : Int) < 32) by omega,show ¬ (126 < (b.toNat : Int)) by omega]
  ·simp [a,c,show ¬ ((b.toNat : Int) < 32) by omega,show (126 < (b.toNat : Int)) by omega]
 ·simp [a,show ((b.toNat : Int) < 32) by omega]
theorem zMY (n : Nat) (s : List UInt8) (h : s.length < n) (hb : s.length ≤ 1073741824) : zEh n s = some (s.all zFK && decide ((s.length : Int) ≤ 200)):=by
 have:=zGU (p:=zFK) (l:=s) (zBF s) hb (fun k i h => by
  rw [zBF,zA8 (Int.ofNat_lt.2 h),cond_true,zBA h]
  simp only [Option.bind_some,zOZ]
  rw [zAL (by omega)]
  cases zFK s[i] <;> rfl) (fun k => by rw [zBF,zA5 (by omega)]; rfl) n 0 (by omega) (by omega)
 rw [show ((0 : Nat) : Int) = 0 from rfl,List.drop_zero] at this;rw [zEh,this]
 unfold zMz;cases s.all zFK <;> rfl
theorem zJI (n : Nat) (s : List UInt8) (h : s.length < n) (hb : s.length ≤ 1073741824) : zCW n s = some (s.all zFK):=by
 have:=zGU (p:=zFK) (l:=s) (zBk s) hb (fun k i h => by
  rw [zBk,zA8 (Int.ofNat_lt.2 h),cond_true,zBA h]
  simp only [Option.bind_some,zOZ]
  rw [zAL (by omega)]
  cases zFK s[i] <;> rfl) (fun k => by rw [zBk,zA5 (by omega)]; rfl) n 0 (by omega) (by omega)
 rw [show ((0 : Nat) : Int) = 0 from rfl,List.drop_zero] at this;rw [zCW,this]
 unfold zMz;cases s.all zFK <;> rfl
end Go.Proofs.YtjdhkpdjecegnaaGreatDoor
namespace Go.Proofs.YtjdhkpdjecegnaaGreatDoor
open Go.Abs
def spL : List UInt8:=[43,45,42,47,61,60,62,44,59,58,33,124,39,63,126,64]
def fsL : List UInt8:=[40,41,91,93,123,125,60,62,47,124,46]
def kwL : List (List UInt8):=[[102,114,97,99],[114,111,111,116],[109,97,116,114,105,120],[102,101,110,99,101]]
def acL : List (List UInt8):=[[104,97,116],[98,97,114],[118,101,99],[100,111,116],[116,105,108,100,101],[99,104,101,99,107]]
def spB (c : UInt8) : Bool:=decide (0 ≤ Lib.indexByte spL c)
def fsB (c : UInt8) : Bool:=decide (0 ≤ Lib.indexByte fsL c)
theorem zT8 (c : UInt8) : (spL.any fun b => (b.toNat : Int) == (c.toNat : Int)) = spB c :=
 of_decide_eq_true (zJw (P:=fun c => decide ((spL.any fun b => (b.toNat : Int) == (c.toNat : Int)) = spB c)) (by decide +kernel) c)
theorem zT7 (c : UInt8) : (([40,41,91,93,123,125,124,60,62,47,46] : List UInt8).any fun b => (b.toNat : Int) == (c.toNat : Int)) = fsB c :=
 of_decide_eq_true (zJw (P:=fun c => decide ((([40,41,91,93,123,125,124,60,62,47,46] : List UInt8).any fun b => (b.toNat : Int) == (c.toNat : Int)) = fsB c)) (by decide +kernel) c)
theorem zTe (c : UInt8) : Lib.indexByte fsL ((c.toNat : Int).toNat.toUInt8) = Lib.indexByte fsL c:=by
 rw [Int.toNat_natCast]; congr 1; exact UInt8.ofNat_toNat
theorem zLc (e s : List UInt8) : (e == s) = (s == e):=by
 rw [Bool.eq_iff_iff]; simp only [beq_iff_eq]; exact eq_comm
theorem zKw (s : List UInt8) : zDi s = some (kwL.any fun e => e == s):=by
 simp only [zDi,kwL,List.any_cons,List.any_nil,zLc [102,114,97,99] s,zLc [114,111,111,116] s,zLc [109,97,116,114,105,120] s,zLc [102,101,110,99,101] s]
 generalize (s == [102,114,97,99]) = b1;generalize (s == [114,111,111,116]) = b2;generalize (s == [109,97,116,114,105,120]) = b3;generalize (s == [102,101,110,99,101]) = b4;cases b1 <;> cases b2 <;> cases b3 <;> cases b4 <;> rfl
theorem zHc (s : List UInt8) : zC5 s = some (acL.any fun e => e == s):=by
 simp only [zC5,acL,List.any_cons,List.any_nil,zLc [104,97,116] s,zLc [98,97,114] s,zLc [118,101,99] s,zLc [100,111,116] s,zLc [116,105,108,100,101] s,zLc [99,104,101,99,107] s]
 generalize (s == [104,97,116]) = b1;generalize (s == [98,97,114]) = b2;generalize (s == [118,101,99]) = b3;generalize (s == [100,111,116]) = b4;generalize (s == [116,105,108,100,101]) = b5;generalize (s == [99,104,101,99,107]) = b6;cases b1 <;> cases b2 <;> cases b3 <;> cases b4 <;> cases b5 <;> cases b6 <;> rfl
def symB (s : List UInt8) : Bool :=
 if s.length = 1 then s.all zCS || s.all spB
 else s.all zCS && (decide (2 ≤ s.length) && (decide (s.length ≤ 16) && (!(kwL.any fun e => e == s) && !(acL.any fun e => e == s))))
theorem len1 (s : List UInt8) : ((s.length : Int) == 1) = decide (s.length = 1):=by
 by_cases h : s.length = 1
 ·simp [h]
 ·rw [zA5 h]
  cases e : ((s.length : Int) == 1) with
  | false => rfl
  | true => have:=eq_of_beq e; omega
theorem zEU (a b : Nat) : decide ((a : Int) ≤ (b : Int)) = decide (a ≤ b):=by
 by_cases h : a ≤ b
 ·rw [zA8 h,zA8 (by omega)]
 ·rw [zA5 h,zA5 (by omega)]
theorem zRN (a b : Nat) : decide ((a : Int) < (b : Int)) = decide (a < b):=by
 by_cases h : a < b
 ·rw [zA8 h,zA8 (by omega)]
 ·rw [zA5 h,zA5 (by omega)]
theorem zLg (n : Nat) (s : List UInt8) (h : s.length + 40 < n) (hb : s.length ≤ 1073741824) : zDI n s = some (symB s):=by
 rw [zDI,len1,zKx n s (by omega) hb]
 unfold symB
 by_cases h1 : s.length = 1
 ·rw [zA8 h1,if_pos h1]
  obtain ⟨c,rfl⟩:=List.length_eq_one_iff.1 h1;have : zDM [43,45,42,47,61,60,62,44,59,58,33,124,39,63,126,64] [c] = some (spB c):=rfl;simp only [cond_true,Option.bind_some,this,List.all_cons,List.all_nil,Bool.and_true]
  cases zCS c <;> rfl
 ·rw [zA5 h1,if_neg h1]
  have e2:=zEU 2 s.length;have e16:=zEU s.length 16;rw [show ((2 : Nat) : Int) = 2 from rfl] at e2;rw [show ((16 : Nat) : Int) = 16 from rfl] at e16;simp only [cond_false,Option.bind_some,zKw,zHc,e2,e16]
  cases s.all zCS <;> cases decide (2 ≤ s.length) <;> cases decide (s.length ≤ 16) <;> cases (kwL.any fun e => e == s) <;> rfl
theorem zNk (n : Nat) (s : List UInt8) (h : s.length + 40 < n) (hb : s.length ≤ 1073741824) : zEk n s = some (symB s):=by
 rw [zEk,len1,zLr n s (by omega) hb]
 unfold symB
 by_cases h1 : s.length = 1
 ·rw [zA8 h1,if_pos h1]
  obtain ⟨c,rfl⟩:=List.length_eq_one_iff.1 h1;have e1 : at? [c] (0 : Int) = some c:=rfl;have e2 : zCX n [43,45,42,47,61,60,62,44,59,58,33,124,39,63,126,64] (c.toNat : Int) = some (spB c):=by
   rw [zL5 n _ _ (by simp only [List.length_cons,List.length_nil]; omega) (by simp only [List.length_cons,List.length_nil]; omega)]
   exact congrArg some (zT8 c)
  simp only [cond_true,Option.bind_some,e1,zDJ,zJc,e2,List.all_cons,List.all_nil,Bool.and_true]
  cases zCS c <;> rfl
 ·rw [zA5 h1,if_neg h1]
  have e2:=zEU 2 s.length;have e16:=zEU s.length 16;rw [show ((2 : Nat) : Int) = 2 from rfl] at e2;rw [show ((16 : Nat) : Int) = 16 from rfl] at e16;have ek : zD8 n kwL s = some (kwL.any fun e => e == s):=zKP n kwL s (by simp only [kwL,List.length_cons,List.length_nil]; omega) (by simp [kwL])
  have ea : zD8 n acL s = some (acL.any fun e => e == s):=zKP n acL s (by simp only [acL,List.length_cons,List.length_nil]; omega) (by simp [acL])
  have k1 : zD9 = some kwL:=rfl;have a1 : zC7 = some acL:=rfl;unfold zMz;simp only [cond_false,Option.bind_some,k1,a1,ek,ea,e2,e16]
  cases s.all zCS <;> cases decide (2 ≤ s.length) <;> cases decide (s.length ≤ 16) <;> cases (kwL.any fun e => e == s) <;> rfl
def fenB (s : List UInt8) : Bool:=decide (s.length = 2) && s.all fsB
theorem len2 (s : List UInt8) : ((s.length : Int) == 2) = decide (s.length = 2):=by
 by_cases h : s.length = 2
 ·simp [h]
 ·rw [zA5 h]
  cases e : ((s.length : Int) == 2) with
  | false => rfl
  | true => have:=eq_of_beq e; omega
theorem zMX (s : List UInt8) : zEg s = some (fenB s):=by
 rw [zEg,len2]
 unfold fenB
 by_cases h1 : s.length = 2
 ·rw [zA8 h1]
  match s,h1 with
  | [c,d],_ =>
   have e0 : at? [c,d] (0 : Int) = some c:=rfl;have e1 : at? [c,d] (1 : Int) = some d:=rfl;have f : ∀ c : UInt8,zCz [40,41,91,93,123,125,60,62,47,124,46] (c.toNat : Int) = some (Lib.indexByte fsL c):=fun c => congrArg some (zTe c)
   have g : ∀ c : UInt8,decide (0 ≤ Lib.indexByte fsL c) = fsB c:=fun c => rfl
   simp only [cond_true,e0,e1,f,Option.bind_some,g,List.all_cons,List.all_nil,Bool.and_true,Bool.true_and]
   cases fsB c <;> rfl
 ·rw [zA5 h1]; rfl
theorem zO0 (n : Nat) (s : List UInt8) (h : 40 < n) : (bif ((s.length : Int) == 2) then (
        (at? s 0).bind fun c9 =>
        (zCX n [40,41,91,93,123,125,124,60,62,47,46] (c9.toNat : Int)).bind fun y11 =>
        bif y11 then (
         (at? s 1).bind fun c12 =>
         (zCX n [40,41,91,93,123,125,124,60,62,47,46] (c12.toNat : Int)).bind fun y14 =>
         some y14
        ) else (
         some false
        )
       ) else (
        some false
       )) = some (fenB s):=by
 rw [len2]
 unfold fenB
 by_cases h1 : s.length = 2
 ·rw [zA8 h1]
  match s,h1 with
  | [c,d],_ =>
   have e0 : at? [c,d] (0 : Int) = some c:=rfl;have e1 : at? [c,d] (1 : Int) = some d:=rfl;have f : ∀ c : UInt8,zCX n [40,41,91,93,123,125,124,60,62,47,46] (c.toNat : Int) = some (fsB c):=fun c => by
    rw [zL5 n _ _ (by simp only [List.length_cons,List.length_nil]; omega) (by simp only [List.length_cons,List.length_nil]; omega)]
    exact congrArg some (zT7 c)
   simp only [cond_true,e0,e1,f,Option.bind_some,List.all_cons,List.all_nil,Bool.and_true,Bool.true_and]
   cases fsB c <;> rfl
 ·rw [zA5 h1]; rfl
def okL (L : Nat) : Nat → List UInt8 → Bool
 | _,[] => true
 | i,c :: r => ((c == 46 && (decide (0 < i) && decide (i + 1 < L))) || zDd c) && okL L (i + 1) r
def numB (s : List UInt8) : Bool:=okL s.length 0 s && (decide (0 < s.length) && (decide (s.length ≤ 20) && decide (s.count 46 ≤ 1)))
theorem zUC (c : UInt8) : ((c.toNat : Int) == 46) = (c == 46) :=
 of_decide_eq_true (zJw (P:=fun c => decide (((c.toNat : Int) == 46) = (c == 46))) (by decide +kernel) c)
theorem zUc : zDd 46 = false:=by decide
theorem zMZ (s : List UInt8) (hb : s.length ≤ 1073741824) : ∀ (k i p : Nat),s.length - i < k → i ≤ s.length → p ≤ i →
  zBY s k (p : Int) (i : Int) = some (if okL s.length i (s.drop i) then .go ((p + (s.drop i).count 46 : Nat) : Int) else .ret false)
 | 0,_,_,h,_,_ => by omega
 | k + 1,i,p,hk,hi,hp => by
  unfold zBY
  by_cases h : i < s.length
  ·rw [zA8 (Int.ofNat_lt.2 h),cond_true,zBA h,List.drop_eq_getElem_cons h]
   generalize s[i] = c;simp only [Option.bind_some,zUC,zPH,okL,List.count_cons]
   rw [zAL (by omega),zAL (by omega),wrap64_in (by omega) (by omega)]
   have d1 : decide ((0 : Int) < (i : Int)) = decide (0 < i):=zRN 0 i;have d2 : decide ((i : Int) < (s.length : Int) - 1) = decide (i + 1 < s.length):=by
    by_cases h : i + 1 < s.length
    ·rw [zA8 h,zA8 (by omega)]
    ·rw [zA5 h,zA5 (by omega)]
   rw [d1,d2]
   cases e : c == 46 with
   | true =>
    obtain rfl : c = 46:=eq_of_beq e;simp only [cond_true,zUc,Bool.true_and,Bool.or_false]
    cases decide (0 < i) with
    | false => rfl
    | true =>
     simp only [cond_true,Option.bind_some,Bool.true_and]
     cases decide (i + 1 < s.length) with
     | false => rfl
     | true =>
      simp only [cond_true,Option.bind_some,Bool.true_and]
      rw [zMZ s hb k (i + 1) (p + 1) (by omega) (by omega) (by omega)]
      simp only [if_true]
      rw [show p + 1 + (s.drop (i + 1)).count 46 = p + ((s.drop (i + 1)).count 46 + 1) by omega]
   | false =>
    simp only [cond_false,Option.bind_some,Bool.false_and,Bool.false_or]
    cases zDd c with
    | false => rfl
    | true =>
     simp only [Bool.not_true,cond_false,Option.bind_some,Bool.true_and]
     rw [zMZ s hb k (i + 1) p (by omega) (by omega) (by omega)]
     simp
  ·rw [zA5 (by omega),cond_false]
   obtain rfl : i = s.length :=(by omega);simp [okL]
theorem zNi (n : Nat) (s : List UInt8) (h : s.length < n) (hb : s.length ≤ 1073741824) : zEi n s = some (numB s):=by
 have:=zMZ s hb n 0 0 (by omega) (by omega) (by omega)
 rw [show ((0 : Nat) : Int) = 0 from rfl,List.drop_zero] at this;rw [zEi,this]
 unfold numB;have e0:=zRN 0 s.length;have e20:=zEU s.length 20;have e1:=zEU (s.count 46) 1;rw [show ((0 : Nat) : Int) = 0 from rfl] at e0;rw [show ((20 : Nat) : Int) = 20 from rfl] at e20;rw [show ((1 : Nat) : Int) = 1 from rfl] at e1;cases okL s.length 0 s with
 | false => rfl
 | true =>
  simp only [if_true,Option.bind_some,e0,e20,Nat.zero_add,e1]
  cases decide (0 < s.length) <;> cases decide (s.length ≤ 20) <;> rfl
theorem zN8 : ∀ s : List UInt8,(s.count 46 = 0 ∧ Lib.indexByte s 46 = -1) ∨ ∃ a b,s = a ++ 46 :: b ∧ a.count 46 = 0 ∧ Lib.indexByte s 46 = (a.length : Int)
 | [] => .inl ⟨rfl,rfl⟩
 | c :: s => by
  by_cases h : c = 46
  ·subst h;exact .inr ⟨[],s,rfl,rfl,by simp [Lib.indexByte]⟩
  ·have hc : (c == 46) = false :=(by simpa using h);rcases zN8 s with ⟨h1,h2⟩ | ⟨a,b,rfl,h1,h2⟩
   ·exact .inl ⟨by rw [List.count_cons,h1,hc]; rfl,by simp [Lib.indexByte,hc,h2]⟩
   ·refine .inr ⟨c :: a,b,rfl,by rw [List.count_cons,h1,hc]; rfl,?_⟩
    have h3 : ((a.length : Int) == -1) = false:=by
     cases e : ((a.length : Int) == -1) with
     | false => rfl
     | true => have:=eq_of_beq e; omega
    simp [Lib.indexByte,hc,h2,h3]
theorem zGx (L : Nat) : ∀ (i : Nat) (a : List UInt8),a.count 46 = 0 → okL L i a = a.all zDd
 | _,[],_ => rfl
 | i,c :: a,h => by
  have hc : (c == 46) = false:=by
   cases e : c == 46 with
   | false => rfl
   | true => rw [List.count_cons,e] at h; simp at h
  rw [List.count_cons,hc] at h;rw [okL,hc,zGx L (i + 1) a (by simpa using h)]
  simp
theorem zLY (L : Nat) : ∀ (i : Nat) (a b : List UInt8),okL L i (a ++ b) = (okL L i a && okL L (i + a.length) b)
 | _,[],b => by simp [okL]
 | i,c :: a,b => by
  simp only [List.cons_append,okL,zLY L (i + 1) a b,List.length_cons,Bool.and_assoc,show i + 1 + a.length = i + (a.length + 1) by omega]
theorem zMK : ∀ a : List UInt8,a.all zDd = true → a.count 46 = 0
 | [],_ => rfl
 | c :: a,h => by
  simp only [List.all_cons,Bool.and_eq_true] at h;have hc : (c == 46) = false:=by
   cases e : c == 46 with
   | false => rfl
   | true => obtain rfl : c = 46:=eq_of_beq e; simp [zUc] at h
  rw [List.count_cons,hc,zMK a h.2]; rfl
theorem zUi (a b : List UInt8) (ha : a.count 46 = 0) : numB (a ++ 46 :: b) = (decide ((a ++ 46 :: b).length ≤ 20) && ((a.all zDd && !(a == [])) && (b.all zDd && !(b == [])))):=by
 unfold numB;have hl : (a ++ 46 :: b).length = a.length + (b.length + 1) :=(by simp);rw [zLY,zGx _ _ a ha,hl]
 simp only [okL,zUc,Bool.or_false,List.count_append,List.count_cons,ha,beq_self_eq_true,Bool.true_and,if_true,Nat.zero_add]
 have e1 : decide (0 < a.length) = !(a == []) :=(by cases a <;> rfl);have e2 : decide (a.length + 1 < a.length + (b.length + 1)) = !(b == []):=by
  cases b with
  | nil => simp
  | cons c b => simp
 have e3 : decide (0 < a.length + (b.length + 1)) = true:=zA8 (by omega)
 rw [e1,e2,e3]
 cases hb : b.all zDd with
 | true =>
  rw [zGx _ _ b (zMK b hb),hb,zMK b hb]
  cases a.all zDd <;> cases a == [] <;> cases b == [] <;> cases decide (a.length + (b.length + 1) ≤ 20) <;> rfl
 | false =>
  cases hc : decide (b.count 46 + 1 ≤ 1) with
  | true =>
   have : b.count 46 = 0 :=(by have:=of_decide_eq_true hc; omega);rw [zGx _ _ b this,hb]
   cases a.all zDd <;> cases a == [] <;> cases b == [] <;> cases decide (a.length + (b.length + 1) ≤ 20) <;> rfl
  | false =>
   generalize okL _ _ b = z;cases z <;> cases a.all zDd <;> cases a == [] <;> cases b == [] <;> cases decide (a.length + (b.length + 1) ≤ 20) <;> rfl
theorem zSn (s : List UInt8) (h : s.count 46 = 0) : numB s = (decide (s.length ≤ 20) && (s.all zDd && !(s == []))):=by
 unfold numB;rw [zGx _ _ s h,h]
 have e1 : decide (0 < s.length) = !(s == []) :=(by cases s <;> rfl);rw [e1]
 cases s.all zDd <;> cases s == [] <;> cases decide (s.length ≤ 20) <;> rfl
theorem zLf (n : Nat) (s : List UInt8) (h : s.length < n) (hb : s.length ≤ 1073741824) : zC4 n s = some (numB s):=by
 have e20:=zEU s.length 20;rw [show ((20 : Nat) : Int) = 20 from rfl] at e20;have hi : zDn s [46] = some (Lib.indexByte s 46):=rfl;rcases zN8 s with ⟨h1,h2⟩ | ⟨a,b,rfl,h1,h2⟩
 ·rw [zSn s h1]
  simp only [zC4,zDN,zCk,hi,h2,Option.bind_some,show decide ((0 : Int) ≤ -1) = false from rfl,cond_false,e20,zFl n s h hb]
  cases decide (s.length ≤ 20) <;> cases (s.all zDd && !(s == [])) <;> rfl
 ·have hl : (a ++ 46 :: b).length = a.length + (b.length + 1) :=(by simp);rw [zUi a b h1]
  have w1 : IntKind.i64.wrap ((a.length : Int) + (([46] : List UInt8).length : Int)) = ((a.length + 1 : Nat) : Int):=zAL (by omega)
  have t1 : ((a ++ 46 :: b).take ((a.length : Int)).toNat).drop (0 : Int).toNat = a :=(by simp);have t2 : ((a ++ 46 :: b).take (((a ++ 46 :: b).length : Int)).toNat).drop (((a.length + 1 : Nat) : Int)).toNat = b:=by
   rw [Int.toNat_natCast,Int.toNat_natCast,List.take_length,List.drop_append]
   simp
  simp only [zC4,zDN,zCk,hi,h2,Option.bind_some,w1]
  rw [zA8 (by omega),cond_true,zBx (by omega),zBx (by omega),t1,t2]
  simp only [Option.bind_some,e20,zFl n a (by omega) (by omega),zFl n b (by omega) (by omega)]
  cases decide ((a ++ 46 :: b).length ≤ 20) <;> cases (a.all zDd && !(a == [])) <;> cases (b.all zDd && !(b == [])) <;> rfl
end Go.Proofs.YtjdhkpdjecegnaaGreatDoor
namespace Go.Proofs.YtjdhkpdjecegnaaGreatDoor
open Go.Abs
def Nd.kind : Nd → Int | .mk k _ _ _ => k
def zRu (k : Int) (t : List UInt8) : Bool :=
 if k = 2 then symB t else if k = 3 then numB t else if k = 4 then (decide (t.length ≤ 200) && t.all zFK) else if k = 10 then acL.any (fun e => e == t) else if k = 11 then fenB t else t == []
def zFB (k c : Int) (m : Int) : Bool :=
 if k = 12 then decide (1 ≤ c) && (decide (c ≤ 16) && (decide (1 ≤ m) && (decide (m ≤ 256) && (m.tmod c == 0))))
 else (c == 0) && (if k = 1 then decide (m ≤ 200) else if k = 2 then m == 0 else if k = 3 then m == 0 else if k = 4 then m == 0 else if k = 5 then m == 2 else if k = 6 then m == 2 else if k = 7 then m == 2 else if k = 8 then m == 2
  else if k = 9 then m == 3 else if k = 10 then m == 1 else if k = 11 then m == 1 else false)
mutual
def zGq : Nd → Bool
 | .mk k t c ks => (zRu k t && zFB k c (ks.length : Int)) && zEY k ks
def zEY : Int → List Nd → Bool
 | _,[] => true
 | k,v :: vs => (!((v.kind == 1) == (k == 1)) && zGq v) && zEY k vs
end
mutual
def Nd.dep : Nd → Nat
 | .mk _ _ _ ks => Nd.deps ks + 1
def Nd.deps : List Nd → Nat
 | [] => 0
 | v :: vs => Nat.max v.dep (Nd.deps vs)
end
theorem zLS {k : Int} {a : List Nd} {i : Nat} (h : i < a.length) : zEY k (a.drop i) = ((!((a[i].kind == 1) == (k == 1)) && zGq a[i]) && zEY k (a.drop (i + 1))):=by
 rw [List.drop_eq_getElem_cons h]; rfl
theorem zOb {a : List Nd} {i : Nat} (h : i < a.length) : Nd.deps (a.drop i) = Nat.max (a[i]).dep (Nd.deps (a.drop (i + 1))):=by
 rw [List.drop_eq_getElem_cons h]; rfl
mutual
theorem Nd.dep_cnt : ∀ v : Nd,v.dep ≤ v.cnt
 | .mk _ _ _ ks => by have:=Nd.deps_cnts ks; simp only [Nd.dep,Nd.cnt]; omega
theorem Nd.deps_cnts : ∀ vs : List Nd,Nd.deps vs ≤ Nd.cnts vs
 | [] => Nat.le_refl _
 | v :: vs => by
  have:=Nd.dep_cnt v; have:=Nd.deps_cnts vs
  simp only [Nd.deps,Nd.cnts]
  exact Nat.max_le.2 ⟨by omega,by omega⟩
end
mutual
theorem Nd.cnt_w : ∀ v : Nd,v.cnt ≤ v.w
 | .mk _ t _ ks => by have:=Nd.cnts_ws ks; simp only [Nd.cnt,Nd.w]; omega
theorem Nd.cnts_ws : ∀ vs : List Nd,Nd.cnts vs ≤ Nd.ws vs
 | [] => Nat.le_refl _
 | v :: vs => by have:=Nd.cnt_w v; have:=Nd.cnts_ws vs; simp only [Nd.cnts,Nd.ws]; omega
end
theorem zFd {a b : Int} (h : a ≠ b) : (a == b) = false:=by
 cases e : (a == b) with
 | false => rfl
 | true => exact absurd (eq_of_beq e) h
theorem zP5 (n : Nat) (k : Int) (t : List UInt8) (c : Int) (ks : List Nd) (h : t.length + 40 < n) (hb : t.length ≤ 1073741824) : zFF n (.mk k t c ks) = some (zRu k t):=by
 have e200:=zEU t.length 200;rw [show ((200 : Nat) : Int) = 200 from rfl] at e200;have ea : zD8 n acL t = some (acL.any fun e => e == t):=zKP n acL t (by simp only [acL,List.length_cons,List.length_nil]; omega) (by simp [acL])
 have a1 : zC7 = some acL:=rfl;unfold zFF zRu;dsimp only
 by_cases h2 : k = 2
 ·subst h2; simp only [beq_self_eq_true,cond_true,zNk n t h hb,Option.bind_some,if_true]
 rw [zFd h2,if_neg h2,cond_false]
 by_cases h3 : k = 3
 ·subst h3; simp only [beq_self_eq_true,cond_true,zNi n t (by omega) hb,Option.bind_some,if_true]
 rw [zFd h3,if_neg h3,cond_false]
 by_cases h4 : k = 4
 ·subst h4; simp only [beq_self_eq_true,cond_true,zJI n t (by omega) hb,Option.bind_some,if_true,e200]
  cases decide (t.length ≤ 200) <;> rfl
 rw [zFd h4,if_neg h4,cond_false]
 by_cases h10 : k = 10
 ·subst h10; simp only [beq_self_eq_true,cond_true,a1,ea,Option.bind_some,if_true]
 rw [zFd h10,if_neg h10,cond_false]
 by_cases h11 : k = 11
 ·subst h11; rw [if_pos rfl,beq_self_eq_true,cond_true,zO0 n t (by omega)]; rfl
 rw [zFd h11,if_neg h11,cond_false]
theorem kinds (k : Int) : k = 1 ∨ k = 2 ∨ k = 3 ∨ k = 4 ∨ k = 5 ∨ k = 6 ∨ k = 7 ∨ k = 8 ∨ k = 9 ∨ k = 10 ∨ k = 11 ∨ k = 12 ∨ (k < 1 ∨ 12 < k):=by omega
theorem zP4 (k : Int) (t : List UInt8) (c : Int) (ks : List Nd) : zFE (.mk k t c ks) = some (zFB k c (ks.length : Int)):=by
 unfold zFE;dsimp only;generalize (ks.length : Int) = m;rcases kinds k with rfl | rfl | rfl | rfl | rfl | rfl | rfl | rfl | rfl | rfl | rfl | rfl | h
 ·simp only [bne,zFB]; generalize (c == 0) = z; generalize decide (m ≤ 200) = y; cases z <;> rfl
 ·simp only [bne,zFB]; generalize (c == 0) = z; generalize (m == 0) = y; cases z <;> rfl
 ·simp only [bne,zFB]; generalize (c == 0) = z; generalize (m == 0) = y; cases z <;> rfl
 ·simp only [bne,zFB]; generalize (c == 0) = z; generalize (m == 0) = y; cases z <;> rfl
 ·simp only [bne,zFB]; generalize (c == 0) = z; generalize (m == 2) = y; cases z <;> rfl
 ·simp only [bne,zFB]; generalize (c == 0) = z; generalize (m == 2) = y; cases z <;> rfl
 ·simp only [bne,zFB]; generalize (c == 0) = z; generalize (m == 2) = y; cases z <;> rfl
 ·simp only [bne,zFB]; generalize (c == 0) = z; generalize (m == 2) = y; cases z <;> rfl
 ·simp only [bne,zFB]; generalize (c == 0) = z; generalize (m == 3) = y; cases z <;> rfl
 ·simp only [bne,zFB]; generalize (c == 0) = z; generalize (m == 1) = y; cases z <;> rfl
 ·simp only [bne,zFB]; generalize (c == 0) = z; generalize (m == 1) = y; cases z <;> rfl
 ·unfold zFB;rw [if_pos rfl,beq_self_eq_true,cond_true]
  by_cases h1 : 1 ≤ c
  ·rw [zA8 h1,zBx (by omega)]
   generalize (m.tmod c == 0) = y;cases decide (c ≤ 16) <;> cases decide (1 ≤ m) <;> cases decide (m ≤ 256) <;> rfl
  ·rw [zA5 h1]; rfl
 ·have e : ∀ i : Int,1 ≤ i → i ≤ 12 → (k == i) = false:=fun i h1 h2 => zFd (by omega)
  have f : ∀ i : Int,1 ≤ i → i ≤ 12 → k ≠ i:=fun i h1 h2 => by omega
  unfold zFB;rw [if_neg (f 12 (by decide) (by decide)),if_neg (f 1 (by decide) (by decide)),if_neg (f 2 (by decide) (by decide)),if_neg (f 3 (by decide) (by decide)),if_neg (f 4 (by decide) (by decide)),if_neg (f 5 (by decide) (by decide)),
   if_neg (f 6 (by decide) (by decide)),if_neg (f 7 (by decide) (by decide)),if_neg (f 8 (by decide) (by decide)),if_neg (f 9 (by decide) (by decide)),if_neg (f 10 (by decide) (by decide)),if_neg (f 11 (by decide) (by decide))]
  rw [e 12 (by decide) (by decide),e 1 (by decide) (by decide),e 2 (by decide) (by decide),e 3 (by decide) (by decide),e 4 (by decide) (by decide),e 5 (by decide) (by decide),
   e 6 (by decide) (by decide),e 7 (by decide) (by decide),e 8 (by decide) (by decide),e 9 (by decide) (by decide),e 10 (by decide) (by decide),e 11 (by decide) (by decide)]
  cases (c == 0) <;> cases (c != 0) <;> rfl
theorem zUJ (n : Nat) (x : Int) (k : Int) (t : List UInt8) (c : Int) (ks : List Nd) (h : t.length + 40 < n) (hb : t.length ≤ 1073741824) :
  zB5 n ((),x) (.mk k t c ks) = some (zRu k t && zFB k c (ks.length : Int),((),x)):=by
 have e200:=zEU t.length 200;rw [show ((200 : Nat) : Int) = 200 from rfl] at e200;unfold zB5;dsimp only;generalize (ks.length : Int) = m;have em : zBR t = some (t == []):=rfl;rcases kinds k with rfl | rfl | rfl | rfl | rfl | rfl | rfl | rfl | rfl | rfl | rfl | rfl | h
 ·simp only [em]
  show _ = some ((t == []) && ((c == 0) && decide (m ≤ 200)),((),x))
  cases t == [] <;> cases c == 0 <;> rfl
 ·simp only [zLg n t h hb]
  show _ = some (symB t && ((c == 0) && (m == 0)),((),x))
  cases symB t <;> cases c == 0 <;> rfl
 ·simp only [zLf n t (by omega) hb]
  show _ = some (numB t && ((c == 0) && (m == 0)),((),x))
  cases numB t <;> cases c == 0 <;> rfl
 ·simp only [zMY n t (by omega) hb,e200]
  show _ = some ((decide (t.length ≤ 200) && t.all zFK) && ((c == 0) && (m == 0)),((),x))
  cases decide (t.length ≤ 200) <;> cases t.all zFK <;> cases c == 0 <;> rfl
 ·simp only [em]
  show _ = some ((t == []) && ((c == 0) && (m == 2)),((),x))
  cases t == [] <;> cases c == 0 <;> rfl
 ·simp only [em]
  show _ = some ((t == []) && ((c == 0) && (m == 2)),((),x))
  cases t == [] <;> cases c == 0 <;> rfl
 ·simp only [em]
  show _ = some ((t == []) && ((c == 0) && (m == 2)),((),x))
  cases t == [] <;> cases c == 0 <;> rfl
 ·simp only [em]
  show _ = some ((t == []) && ((c == 0) && (m == 2)),((),x))
  cases t == [] <;> cases c == 0 <;> rfl
 ·simp only [em]
  show _ = some ((t == []) && ((c == 0) && (m == 3)),((),x))
  cases t == [] <;> cases c == 0 <;> rfl
 ·simp only [zHc]
  show _ = some ((acL.any fun e => e == t) && ((c == 0) && (m == 1)),((),x))
  cases (acL.any fun e => e == t) <;> cases c == 0 <;> rfl
 ·simp only [zMX]
  show _ = some (fenB t && ((c == 0) && (m == 1)),((),x))
  cases fenB t <;> cases c == 0 <;> rfl
 ·simp only [em]
  show _ = some ((t == []) && (decide (1 ≤ c) && (decide (c ≤ 16) && (decide (1 ≤ m) && (decide (m ≤ 256) && (m.tmod c == 0))))),((),x))
  by_cases h1 : 1 ≤ c
  ·rw [zA8 h1,zBx (by omega)]
   generalize (m.tmod c == 0) = y;cases t == [] <;> cases decide (c ≤ 16) <;> cases decide (1 ≤ m) <;> cases decide (m ≤ 256) <;> rfl
  ·rw [zA5 h1]
   cases t == [] <;> rfl
 ·have f : ∀ i : Int,1 ≤ i → i ≤ 12 → k ≠ i:=fun i h1 h2 => by omega
  have hk : zFB k c m = false:=by
   unfold zFB;rw [if_neg (f 12 (by decide) (by decide)),if_neg (f 1 (by decide) (by decide)),if_neg (f 2 (by decide) (by decide)),if_neg (f 3 (by decide) (by decide)),if_neg (f 4 (by decide) (by decide)),if_neg (f 5 (by decide) (by decide)),
    if_neg (f 6 (by decide) (by decide)),if_neg (f 7 (by decide) (by decide)),if_neg (f 8 (by decide) (by decide)),if_neg (f 9 (by decide) (by decide)),if_neg (f 10 (by decide) (by decide)),if_neg (f 11 (by decide) (by decide))]
   exact Bool.and_false _
  rw [hk,Bool.and_false]
  by_cases h1 : k < 1
  ·rw [zA8 h1]; rfl
  ·rw [zA5 h1,zA8 (show 12 < k by omega)]; rfl
theorem zIl {F : Nd → Option Bool} {k : Int} {ks : List Nd} (hF : ∀ v ∈ ks,F v = some (zGq v)) (hl : ks.length ≤ 1073741824) :
  ∀ (q i : Nat),ks.length - i < q → i ≤ ks.length → zCw F k ks q (i : Int) = some (if zEY k (ks.drop i) then .go () else .ret false)
 | 0,_,h,_ => by omega
 | q + 1,i,hq,hi => by
  unfold zCw
  by_cases h : i < ks.length
  ·rw [zA8 (Int.ofNat_lt.2 h),cond_true,zBA h]
   have hf:=hF _ (List.getElem_mem h)
   have g1:=zLS (k:=k) h;rcases e : ks[i] with ⟨a,b,c,d⟩
   rw [e] at hf g1;simp only [Nd.kind] at g1;generalize zEY k (ks.drop i) = g at g1 ⊢;subst g1;simp only [Option.bind_some,hf]
   rw [zAL (by omega),zIl hF hl q (i + 1) (by omega) (by omega)]
   cases ((a == 1) == (k == 1)) <;> cases zGq (Nd.mk a b c d) <;> simp
  ·rw [zA5 (by omega),cond_false]
   obtain rfl : i = ks.length :=(by omega);simp [zEY]
theorem zKQ : ∀ (n : Nat) (t : Nd),t.w + 45 < n → t.w ≤ 1073741824 → zC8 n t = some (zGq t)
 | 0,_,h,_ => by omega
 | n + 1,.mk k t c ks,h,hb => by
  simp only [Nd.w] at h hb;have hl:=Nd.ws_len ks;unfold zC8;rw [zP5 n k t c ks (by omega) (by omega),zP4]
  have:=zIl (F:=zC8 n) (k:=k) (ks:=ks) (fun v hv => zKQ n v (by have:=Nd.w_mem hv; omega) (by have:=Nd.w_mem hv; omega)) (by omega) n 0 (by omega) (by omega)
  rw [show ((0 : Nat) : Int) = 0 from rfl,List.drop_zero] at this;simp only [Option.bind_some,this,zGq]
  cases zRu k t <;> cases zFB k c (ks.length : Int) <;> cases zEY k ks <;> rfl
theorem zHg {F : Nd → Option Int} {ks : List Nd} (hF : ∀ v ∈ ks,F v = some (v.dep : Int)) (hl : ks.length ≤ 1073741824) :
  ∀ (q i o : Nat),ks.length - i < q → i ≤ ks.length → zCc F ks q (o : Int) (i : Int) = some ((Nat.max o (Nd.deps (ks.drop i)) : Nat) : Int)
 | 0,_,_,h,_ => by omega
 | q + 1,i,o,hq,hi => by
  unfold zCc
  by_cases h : i < ks.length
  ·rw [zA8 (Int.ofNat_lt.2 h),cond_true,zBA h,zOb h]
   have hf:=hF _ (List.getElem_mem h)
   rcases e : ks[i] with ⟨a,b,c,d⟩
   rw [e] at hf;simp only [Option.bind_some,hf]
   have hm : (if (o : Int) < ((Nd.mk a b c d).dep : Int) then ((Nd.mk a b c d).dep : Int) else (o : Int)) = ((Nat.max o (Nd.mk a b c d).dep : Nat) : Int):=by
    by_cases g : (o : Int) < ((Nd.mk a b c d).dep : Int)
    ·rw [if_pos g]; congr 1; exact (Nat.max_eq_right (by omega)).symm
    ·rw [if_neg g]; congr 1; exact (Nat.max_eq_left (by omega)).symm
   rw [zAL (by omega),hm,zHg hF hl q (i + 1) _ (by omega) (by omega)]
   congr 2
   exact Nat.max_assoc _ _ _
  ·rw [zA5 (by omega),cond_false]
   obtain rfl : i = ks.length :=(by omega);rw [List.drop_length]
   congr 2
   exact (Nat.max_eq_left (Nat.zero_le _)).symm
theorem zJq : ∀ (n : Nat) (t : Nd),t.cnt < n → t.cnt ≤ 67108864 → zCt n t = some (t.dep : Int)
 | 0,_,h,_ => by omega
 | n + 1,.mk k t c ks,h,hb => by
  simp only [Nd.cnt] at h hb;have hl:=Nd.cnts_len ks;have hd:=Nd.deps_cnts ks;unfold zCt;have:=zHg (F:=zCt n) (ks:=ks) (fun v hv => zJq n v (by have:=Nd.cnts_mem hv; omega) (by have:=Nd.cnts_mem hv; omega)) (by omega) n 0 0 (by omega) (by omega)
  rw [show ((0 : Nat) : Int) = 0 from rfl,List.drop_zero] at this;rw [this,Option.bind_some,show Nat.max 0 (Nd.deps ks) = Nd.deps ks from Nat.max_eq_right (Nat.zero_le _),zAL (by omega)]
  rfl
def zDk (t : Nd) : Bool:=(t.kind == 1) && (zGq t && (decide (t.cnt ≤ 1000) && decide (t.dep ≤ 24)))
theorem zJr (n : Nat) (t : Nd) (h : t.w + 45 < n) (hb : t.w ≤ 67108864) : zD0 n t = some (zDk t):=by
 have hc:=Nd.cnt_w t;have e1:=zKQ n t h (by omega)
 have e2:=zDz n t (by omega) (by omega)
 have e3:=zJq n t (by omega) (by omega)
 have e4:=zEU t.cnt 1000;rw [show ((1000 : Nat) : Int) = 1000 from rfl] at e4;have e5:=zEU t.dep 24;rw [show ((24 : Nat) : Int) = 24 from rfl] at e5;obtain ⟨k,s,c,ks⟩:=t;unfold zD0 zDk;simp only [e1,e2,e3,Option.bind_some,e4,e5,Nd.kind]
 cases k == 1 <;> cases zGq (.mk k s c ks) <;> cases decide ((Nd.mk k s c ks).cnt ≤ 1000) <;> rfl
abbrev okN (t : Nd) (x d : Nat) : Prop:=zGq t = true ∧ x + t.cnt ≤ 1000 ∧ d + t.dep ≤ 25
abbrev okNs (k : Int) (vs : List Nd) (x d : Nat) : Prop:=zEY k vs = true ∧ x + Nd.cnts vs ≤ 1000 ∧ d + Nd.deps vs ≤ 24
theorem zLO {F : (Unit × Int) → Nd → Int → Option (Bool × (Unit × Int))} {k : Int} {ks : List Nd} {d : Nat} (hd : d ≤ 24)
  (hF : ∀ v ∈ ks,∀ x : Nat,x ≤ 1000 → ∃ y,F ((),(x : Int)) v ((d + 1 : Nat) : Int) = some (decide (okN v x (d + 1)),((),y)) ∧ (okN v x (d + 1) → y = ((x + v.cnt : Nat) : Int))) (hl : ks.length ≤ 1073741824) :
  ∀ (q i x : Nat),ks.length - i < q → i ≤ ks.length → x ≤ 1000 →
   (okNs k (ks.drop i) x d ∧ zAY F k ks (d : Int) q (x : Int) (i : Int) = some (.go ((x + Nd.cnts (ks.drop i) : Nat) : Int))) ∨
   (¬ okNs k (ks.drop i) x d ∧ ∃ z,zAY F k ks (d : Int) q (x : Int) (i : Int) = some (.ret (false,((),z))))
 | 0,_,_,h,_,_ => by omega
 | q + 1,i,x,hq,hi,hx => by
  unfold zAY
  by_cases h : i < ks.length
  ·rw [zA8 (Int.ofNat_lt.2 h),cond_true,zBA h]
   obtain ⟨y,hf,hy⟩:=hF _ (List.getElem_mem h) x hx;have g1:=zLS (k:=k) h;have g2:=Nd.cnts_drop h;have g3:=zOb h;rcases e : ks[i] with ⟨a,b,c,ds⟩
   rw [e] at hf hy g1 g2 g3;simp only [Option.bind_some]
   rw [zAL (by omega),zAL (by omega),hf]
   simp only [Option.bind_some]
   have g4 : Nd.deps (ks.drop i) = Nat.max (Nd.mk a b c ds).dep (Nd.deps (ks.drop (i + 1))):=g3;have g5 : (Nd.mk a b c ds).dep ≤ Nd.deps (ks.drop i) :=(by rw [g4]; exact Nat.le_max_left _ _);have g6 : Nd.deps (ks.drop (i + 1)) ≤ Nd.deps (ks.drop i) :=(by rw [g4]; exact Nat.le_max_right _ _);rw [show ((k == 1) == (a == 1)) = ((a == 1) == (k == 1)) by cases k == 1 <;> cases a == 1 <;> rfl]
   cases hkk : ((a == 1) == (k == 1)) with
   | true =>
    simp only [cond_true,Option.bind_some]
    refine .inr ⟨fun ⟨h1,_⟩ => ?_,_,rfl⟩
    rw [g1] at h1;simp [Nd.kind,hkk] at h1
   | false =>
    simp only [cond_false,Option.bind_some]
    by_cases hok : okN (Nd.mk a b c ds) x (d + 1)
    ·rw [zA8 hok]
     simp only [Bool.not_true,cond_false]
     rw [hy hok]
     have hp:=(Nd.mk a b c ds).cnt_pos;rcases zLO hd hF hl q (i + 1) (x + (Nd.mk a b c ds).cnt) (by omega) (by omega) hok.2.1 with ⟨hr,hr2⟩ | ⟨hr,z,hr2⟩
     ·refine .inl ⟨⟨?_,?_,?_⟩,?_⟩
      ·rw [g1,hr.1,hok.1]; simp [Nd.kind,hkk]
      ·have:=hr.2.1; omega
      ·have:=hr.2.2;have:=hok.2.2;have : Nd.deps (ks.drop i) ≤ 24 - d:=by rw [g4]; exact Nat.max_le.2 ⟨by omega,by omega⟩
       omega
      ·rw [hr2,g2]; congr 3; omega
     ·refine .inr ⟨fun ⟨h1,h2,h3⟩ => hr ⟨?_,by omega,by omega⟩,z,hr2⟩
      rw [g1] at h1;simp only [Bool.and_eq_true] at h1;exact h1.2
    ·rw [zA5 hok]
     simp only [Bool.not_false,cond_true]
     refine .inr ⟨fun ⟨h1,h2,h3⟩ => hok ⟨?_,by omega,by omega⟩,y,rfl⟩
     rw [g1] at h1;simp only [Bool.and_eq_true] at h1;exact h1.1.2
  ·rw [zA5 (by omega),cond_false]
   obtain rfl : i = ks.length :=(by omega);rw [List.drop_length]
   exact .inl ⟨⟨rfl,hx,hd⟩,rfl⟩
theorem zQj : ∀ (n : Nat) (t : Nd) (x d : Nat),t.w + 45 < n → t.w ≤ 67108864 → x ≤ 1000 → d ≤ 25 →
  ∃ y,zA3 n ((),(x : Int)) t (d : Int) = some (decide (okN t x d),((),y)) ∧ (okN t x d → y = ((x + t.cnt : Nat) : Int))
 | 0,_,_,_,h,_,_,_ => by omega
 | n + 1,.mk k t c ks,x,d,h,hb,hx,hd => by
  simp only [Nd.w] at h hb;have hl:=Nd.ws_len ks;unfold zA3;rw [zAL (by omega)]
  by_cases h1 : 1000 < ((x + 1 : Nat) : Int)
  ·rw [zA8 h1]
   simp only [cond_true,Option.bind_some]
   have hn : ¬ okN (.mk k t c ks) x d:=fun ⟨_,h2,_⟩ => by simp only [Nd.cnt] at h2; omega
   exact ⟨_,by rw [zA5 hn],fun h => absurd h hn⟩
  ·rw [zA5 h1,cond_false]
   by_cases h2 : 24 < (d : Int)
   ·rw [zA8 h2]
    simp only [cond_true,Option.bind_some]
    have hn : ¬ okN (.mk k t c ks) x d:=fun ⟨_,_,h2⟩ => by simp only [Nd.dep] at h2; omega
    exact ⟨_,by rw [zA5 hn],fun h => absurd h hn⟩
   ·rw [zA5 h2,cond_false,zUJ n _ k t c ks (by omega) (by omega)]
    simp only [Option.bind_some]
    cases ho : (zRu k t && zFB k c (ks.length : Int)) with
    | false =>
     simp only [Bool.not_false,cond_true]
     have hn : ¬ okN (.mk k t c ks) x d:=fun ⟨h1,_⟩ => by rw [zGq,ho] at h1; cases h1
     exact ⟨_,by rw [zA5 hn],fun h => absurd h hn⟩
    | true =>
     simp only [Bool.not_true,cond_false]
     have:=zLO (F:=zA3 n) (k:=k) (ks:=ks) (d:=d) (by omega) (fun v hv z hz => zQj n v z (d + 1) (by have:=Nd.w_mem hv; omega) (by have:=Nd.w_mem hv; omega) hz (by omega)) (by omega) n 0 (x + 1) (by omega) (by omega) (by omega)
     rw [show ((0 : Nat) : Int) = 0 from rfl,List.drop_zero] at this;rcases this with ⟨hr,hr2⟩ | ⟨hr,z,hr2⟩
     ·have hy : okN (.mk k t c ks) x d:=⟨by rw [zGq,ho,hr.1]; rfl,by have:=hr.2.1; simp only [Nd.cnt]; omega,by have:=hr.2.2; simp only [Nd.dep]; omega⟩
      rw [hr2]
      exact ⟨_,by rw [zA8 hy]; rfl,fun _ => by simp only [Nd.cnt]; omega⟩
     ·have hn : ¬ okN (.mk k t c ks) x d:=fun ⟨g1,g2,g3⟩ => hr ⟨by rw [zGq,ho] at g1; exact g1,by simp only [Nd.cnt] at g2; omega,by simp only [Nd.dep] at g3; omega⟩
      rw [hr2]
      exact ⟨_,by rw [zA5 hn]; rfl,fun h => absurd h hn⟩
theorem zIc (n : Nat) (t : Nd) (h : t.w + 45 < n) (hb : t.w ≤ 67108864) : zDw n t = some (zDk t):=by
 obtain ⟨y,h1,_⟩:=zQj n t 0 1 h hb (by omega) (by omega)
 rw [show ((0 : Nat) : Int) = 0 from rfl,show ((1 : Nat) : Int) = 1 from rfl] at h1;obtain ⟨k,s,c,ks⟩:=t;unfold zDw zDk;have hk : zDx = some ():=rfl;simp only [hk,h1,Option.bind_some,Nd.kind]
 cases k == 1 with
 | false => rfl
 | true =>
  simp only [cond_true,Option.bind_some,Bool.true_and,Option.some.injEq,okN]
  cases zGq (.mk k s c ks) with
  | false => simp
  | true =>
   by_cases g1 : (Nd.mk k s c ks).cnt ≤ 1000
   ·by_cases g2 : (Nd.mk k s c ks).dep ≤ 24
    ·rw [zA8 g1,zA8 g2,zA8 ⟨rfl,by omega,by omega⟩]; rfl
    ·rw [zA8 g1,zA5 g2,zA5 (fun h => g2 (by omega))]; rfl
   ·rw [zA5 g1,zA5 (fun h => g1 (by omega))]; rfl
end Go.Proofs.YtjdhkpdjecegnaaGreatDoor
namespace Go.Proofs.YtjdhkpdjecegnaaGreatDoor
open Go.Abs
def Nd.text : Nd → List UInt8 | .mk _ t _ _ => t
def Nd.cols : Nd → Int | .mk _ _ c _ => c
theorem Nd.cnt_kids : ∀ x : Nd,x.cnt = Nd.cnts x.kids + 1
 | .mk _ _ _ _ => rfl
def zBE (x y : Nd) : Bool:=(x.kind == y.kind) && (((x.kids.length : Int) == (y.kids.length : Int)) && (x.cols == y.cols))
def rowD (P : Nd → Nd → Nat) (x : Nd) (f : List Nd → Nat) : List Nd → Nat
 | [] => x.cnt + f []
 | y :: ys => if zBE x y then min (min (x.cnt + f (y :: ys)) (y.cnt + rowD P x f ys)) (P x y + f ys) else min (x.cnt + f (y :: ys)) (y.cnt + rowD P x f ys)
def TD (P : Nd → Nd → Nat) : List Nd → List Nd → Nat
 | [] => Nd.cnts
 | x :: xs => rowD P x (TD P xs)
def sumD (f : List Nd → List Nd → Nat) : List Nd → List Nd → Nat
 | u :: us,v :: vs => f u.kids v.kids + sumD f us vs
 | _,_ => 0
def txt (x y : Nd) : Nat:=bif x.text == y.text then 0 else 1
def PD : Nat → Nd → Nd → Nat
 | 0,_,_ => 0
 | n + 1,x,y => txt x y + sumD (TD (PD n)) x.kids y.kids
def D (x y : Nd) : Nat:=PD x.cnt x y
def DL (a b : List Nd) : Nat:=TD D a b
theorem zMb {P P' : Nd → Nd → Nat} {x : Nd} {f : List Nd → Nat} (h : ∀ y,P x y = P' x y) : ∀ b,rowD P x f b = rowD P' x f b
 | [] => rfl
 | y :: ys => by simp only [rowD,zMb h ys,h]
theorem zMy {P P' : Nd → Nd → Nat} : ∀ {a : List Nd},(∀ x ∈ a,∀ y,P x y = P' x y) → TD P a = TD P' a
 | [],_ => rfl
 | x :: xs,h => by
  rw [TD,TD,zMy fun x hx => h x (List.mem_cons_of_mem _ hx)]
  exact funext (zMb (h x List.mem_cons_self))
theorem zIV {f g : List Nd → List Nd → Nat} : ∀ {us : List Nd} (vs : List Nd),(∀ u ∈ us,f u.kids = g u.kids) → sumD f us vs = sumD g us vs
 | [],vs,_ => by cases vs <;> rfl
 | u :: us,[],_ => rfl
 | u :: us,v :: vs,h => by
  rw [sumD,sumD,h u List.mem_cons_self,zIV vs fun u hu => h u (List.mem_cons_of_mem _ hu)]
theorem zNB : ∀ (n m : Nat) (x y : Nd),x.cnt ≤ n → x.cnt ≤ m → PD n x y = PD m x y
 | 0,_,x,_,h,_ => by have:=x.cnt_pos; omega
 | _ + 1,0,x,_,_,h => by have:=x.cnt_pos; omega
 | n + 1,m + 1,x,y,h1,h2 => by
  rw [PD,PD]
  congr 1
  refine zIV _ fun u hu => zMy fun x' hx' y' => ?_
  have e1:=x.cnt_kids;have e2:=u.cnt_kids;have e3:=Nd.cnts_mem hu;have e4:=Nd.cnts_mem hx';exact zNB n m x' y' (by omega) (by omega)
theorem D_eq (x y : Nd) : D x y = txt x y + sumD DL x.kids y.kids:=by
 unfold D DL;have e1:=x.cnt_kids;rw [e1,PD]
 congr 1
 refine zIV _ fun u hu => zMy fun x' hx' y' => ?_
 have e2:=u.cnt_kids;have e3:=Nd.cnts_mem hu;have e4:=Nd.cnts_mem hx';exact zNB _ _ x' y' (by omega) (Nat.le_refl _)
theorem zP7 {P : Nd → Nd → Nat} {x : Nd} {f : List Nd → Nat} {c : Nat} (h : ∀ b,f b ≤ c + Nd.cnts b) : ∀ b,rowD P x f b ≤ x.cnt + c + Nd.cnts b
 | [] => by have:=h []; simp only [rowD]; omega
 | y :: ys => by
  have h1:=h (y :: ys)
  have : rowD P x f (y :: ys) ≤ x.cnt + f (y :: ys):=by
   simp only [rowD]
   split
   ·exact Nat.le_trans (Nat.min_le_left _ _) (Nat.min_le_left _ _)
   ·exact Nat.min_le_left _ _
  omega
theorem zJz {P : Nd → Nd → Nat} : ∀ a b : List Nd,TD P a b ≤ Nd.cnts a + Nd.cnts b
 | [],b => by simp [TD,Nd.cnts]
 | x :: xs,b => by
  have:=zP7 (P:=P) (x:=x) (zJz (P:=P) xs) b;simp only [TD,Nd.cnts]; omega
theorem zNu : ∀ us vs : List Nd,sumD DL us vs ≤ Nd.cnts us + Nd.cnts vs
 | [],vs => by cases vs <;> simp [sumD]
 | u :: us,[] => by simp [sumD]
 | u :: us,v :: vs => by
  have h1:=zNu us vs;have h2 : DL u.kids v.kids ≤ _:=zJz u.kids v.kids;have e1:=u.cnt_kids;have e2:=v.cnt_kids;simp only [sumD,Nd.cnts]; omega
theorem zSZ (x y : Nd) : txt x y ≤ 1:=by
 unfold txt;cases x.text == y.text
 ·exact Nat.le_refl _
 ·exact Nat.zero_le _
theorem D_le (x y : Nd) : D x y ≤ x.cnt + y.cnt:=by
 have h1:=zNu x.kids y.kids;have h2:=zSZ x y;have e1:=x.cnt_kids;have e2:=y.cnt_kids;rw [D_eq]; omega
def sufs (f : List Nd → Nat) : List Nd → List Int
 | [] => [(f [] : Int)]
 | y :: ys => (f (y :: ys) : Int) :: sufs f ys
theorem zIr (f : List Nd → Nat) : ∀ b,∃ r,sufs f b = (f b : Int) :: r
 | [] => ⟨_,rfl⟩
 | y :: ys => ⟨_,rfl⟩
theorem zGW (f : List Nd → Nat) (b : List Nd) : (sufs f b).headD 0 = (f b : Int):=by
 obtain ⟨r,h⟩:=zIr f b; rw [h]; rfl
def tabD (P : Nd → Nd → Nat) : List Nd → List Nd → List (List Int)
 | [],b => [sufs (TD P []) b]
 | x :: xs,b => sufs (TD P (x :: xs)) b :: tabD P xs b
theorem zKZ (P : Nd → Nd → Nat) : ∀ a b,∃ r,tabD P a b = sufs (TD P a) b :: r
 | [],b => ⟨_,rfl⟩
 | x :: xs,b => ⟨_,rfl⟩
theorem zUN (P : Nd → Nd → Nat) (a b : List Nd) : ∃ r,at? (tabD P a b) 0 = some r ∧ at? r 0 = some (TD P a b : Int):=by
 obtain ⟨r,h⟩:=zKZ P a b;obtain ⟨r',h'⟩:=zIr (TD P a) b;exact ⟨sufs (TD P a) b,by rw [h]; rfl,by rw [h']; rfl⟩
theorem zQP {C : Nd → Option Int} : ∀ (b : List Nd),(∀ y ∈ b,C y = some (y.cnt : Int)) → Nd.cnts b ≤ 1048576 → zAX C b = some (sufs (TD D []) b)
 | [],_,_ => rfl
 | y :: ys,h,hb => by
  simp only [Nd.cnts] at hb;have hf : TD D [] ys = Nd.cnts ys:=rfl;rw [zAX,zQP ys (fun y hy => h y (List.mem_cons_of_mem _ hy)) (by omega),Option.bind_some,h y List.mem_cons_self,Option.bind_some,zGW,hf,wrap64_in (by omega) (by omega)]
  rfl
theorem zMT (a b : Nat) : (if (a : Int) < (b : Int) then (a : Int) else (b : Int)) = ((min a b : Nat) : Int):=by
 by_cases h : (a : Int) < (b : Int)
 ·rw [if_pos h,Nat.min_eq_left (by omega)]
 ·rw [if_neg h,Nat.min_eq_right (by omega)]
theorem zSY {C : Nd → Option Int} {A : Nd → Nd → Option Bool} {Q : Nd → Nd → Option Int} {x : Nd} {f : List Nd → Nat} {c : Nat} (hx : x.cnt ≤ 1048576) (hc : c ≤ 1048576) (hf : ∀ b,f b ≤ c + Nd.cnts b) :
  ∀ (b : List Nd),(∀ y ∈ b,C y = some (y.cnt : Int)) → (∀ y ∈ b,A x y = some (zBE x y)) → (∀ y ∈ b,zBE x y = true → Q x y = some (D x y : Int)) → Nd.cnts b ≤ 1048576 →
  zAK C A Q x (x.cnt : Int) b (sufs f b) = some (sufs (rowD D x f) b)
 | [],_,_,_,_ => by
  have:=hf []
  simp only [Nd.cnts] at this;simp only [sufs,zAK,rowD]
  rw [wrap64_in (by omega) (by omega)]; rfl
 | y :: ys,h1,h2,h3,hb => by
  simp only [Nd.cnts] at hb;have g1:=hf (y :: ys)
  simp only [Nd.cnts] at g1;have g2:=hf ys;have g3:=zP7 (P:=D) (x:=x) hf ys;have g4:=D_le x y;have ih:=zSY (C:=C) (A:=A) (Q:=Q) hx hc hf ys (fun y hy => h1 y (List.mem_cons_of_mem _ hy)) (fun y hy => h2 y (List.mem_cons_of_mem _ hy)) (fun y hy => h3 y (List.mem_cons_of_mem _ hy)) (by omega)
  obtain ⟨r,hr⟩:=zIr f ys;rw [sufs,hr,zAK,← hr,ih,Option.bind_some,h1 y List.mem_cons_self,Option.bind_some,h2 y List.mem_cons_self,Option.bind_some,zGW]
  dsimp only;rw [wrap64_in (by omega) (by omega),wrap64_in (n:=(y.cnt : Int) + _) (by omega) (by omega),zA5 (by omega),Bool.false_or]
  have e1 : (bif decide ((y.cnt : Int) + (rowD D x f ys : Int) < (x.cnt : Int) + (f (y :: ys) : Int)) then (y.cnt : Int) + (rowD D x f ys : Int) else (x.cnt : Int) + (f (y :: ys) : Int)) = ((min (x.cnt + f (y :: ys)) (y.cnt + rowD D x f ys) : Nat) : Int):=by
   by_cases h : (y.cnt : Int) + (rowD D x f ys : Int) < (x.cnt : Int) + (f (y :: ys) : Int)
   ·rw [zA8 h,Nat.min_eq_right (by omega)]; rfl
   ·rw [zA5 h,Nat.min_eq_left (by omega)]; rfl
  rw [e1]
  cases ha : zBE x y with
  | false => simp only [cond_false,sufs,rowD,ha]; simp
  | true =>
   rw [cond_true,h3 y List.mem_cons_self ha,Option.bind_some]
   rw [wrap64_in (by omega) (by omega),← Int.natCast_add,zMT,Nat.min_comm]
   simp only [sufs,rowD,ha,if_true]
theorem zQR {C : Nd → Option Int} {A : Nd → Nd → Option Bool} {Q : Nd → Nd → Option Int} {b : List Nd} (hb : Nd.cnts b ≤ 1048576) (hC : ∀ y ∈ b,C y = some (y.cnt : Int)) :
  ∀ (a : List Nd),(∀ x ∈ a,C x = some (x.cnt : Int)) → (∀ x ∈ a,∀ y ∈ b,A x y = some (zBE x y)) → (∀ x ∈ a,∀ y ∈ b,zBE x y = true → Q x y = some (D x y : Int)) → Nd.cnts a ≤ 1048576 →
  zAN C A Q b a = some (tabD D a b)
 | [],_,_,_,_ => by rw [zAN,zQP b hC hb]; rfl
 | x :: xs,h1,h2,h3,ha => by
  simp only [Nd.cnts] at ha;rw [zAN,zQR hb hC xs (fun y hy => h1 y (List.mem_cons_of_mem _ hy)) (fun y hy => h2 y (List.mem_cons_of_mem _ hy)) (fun y hy => h3 y (List.mem_cons_of_mem _ hy)) (by omega),Option.bind_some,h1 x List.mem_cons_self,Option.bind_some]
  obtain ⟨r,hr⟩:=zKZ D xs b;rw [hr]
  dsimp only;rw [zSY (c:=Nd.cnts xs) (by omega) (by omega) (zJz xs) b hC (h2 x List.mem_cons_self) (h3 x List.mem_cons_self) hb,Option.bind_some,← hr]
  rfl
theorem zQf (x y : Nd) : zCY x y = some (zBE x y):=by
 obtain ⟨a,b,c,d⟩:=x;obtain ⟨a',b',c',d'⟩:=y;unfold zCY zBE;simp only [Nd.kind,Nd.kids,Nd.cols]
 cases a == a' <;> cases ((d.length : Int) == (d'.length : Int)) <;> rfl
theorem zQO {f : List Nd → List Nd → Nat} {a b : List Nd} {i : Nat} (h : i < a.length) (h' : i < b.length) : sumD f (a.drop i) (b.drop i) = f a[i].kids b[i].kids + sumD f (a.drop (i + 1)) (b.drop (i + 1)):=by
 rw [List.drop_eq_getElem_cons h,List.drop_eq_getElem_cons h']; rfl
theorem zOX {F : List Nd → List Nd → Option (List (List Int))} {a b : List Nd} (hF : ∀ u ∈ a,∀ v ∈ b,F u.kids v.kids = some (tabD D u.kids v.kids)) (hl : a.length = b.length) (ha : Nd.cnts a ≤ 1048576) (hb : Nd.cnts b ≤ 1048576) :
  ∀ (q i o : Nat),a.length - i < q → i ≤ a.length → o + sumD DL (a.drop i) (b.drop i) ≤ 4000000 → zCy F a b q (o : Int) (i : Int) = some ((o + sumD DL (a.drop i) (b.drop i) : Nat) : Int)
 | 0,_,_,h,_,_ => by omega
 | q + 1,i,o,hq,hi,ho => by
  have l1:=Nd.cnts_len a;unfold zCy
  by_cases h : i < a.length
  ·have h' : i < b.length :=(by omega);rw [zA8 (Int.ofNat_lt.2 h),cond_true,zBA h,zBA h']
   have hf:=hF _ (List.getElem_mem h) _ (List.getElem_mem h')
   have hs:=zQO (f:=DL) h h';rcases e : a[i] with ⟨x1,x2,x3,x4⟩
   rcases e' : b[i] with ⟨y1,y2,y3,y4⟩
   rw [e,e'] at hf hs;simp only [Nd.kids] at hf hs;obtain ⟨r,r1,r2⟩:=zUN D x4 y4;have hd : TD D x4 y4 = DL x4 y4:=rfl;rw [hd] at r2;simp only [Option.bind_some,hf,r1,r2]
   rw [zAL (by omega),wrap64_in (by omega) (by omega),← Int.natCast_add,zOX hF hl ha hb q (i + 1) _ (by omega) (by omega) (by omega)]
   congr 2; omega
  ·rw [zA5 (by omega),cond_false]
   obtain rfl : i = a.length :=(by omega);rw [List.drop_length]
   cases List.drop a.length b <;> rfl
theorem zEd {x y : Nd} (h : zBE x y = true) : x.kids.length = y.kids.length:=by
 unfold zBE at h;simp only [Bool.and_eq_true] at h;have:=eq_of_beq h.2.1
 omega
theorem zSA : ∀ N : Nat,(∀ x y : Nd,zBE x y = true → 2 * x.cnt + 2 * y.cnt < N → x.cnt ≤ 1048576 → y.cnt ≤ 1048576 → zB2 N x y = some (D x y : Int)) ∧
  (∀ a b : List Nd,2 * Nd.cnts a + 2 * Nd.cnts b + 2 < N → Nd.cnts a ≤ 1048576 → Nd.cnts b ≤ 1048576 → zCd N a b = some (tabD D a b))
 | 0 => ⟨fun _ _ _ h _ _ => by omega,fun _ _ h _ _ => by omega⟩
 | n + 1 => by
  obtain ⟨ih1,ih2⟩:=zSA n;refine ⟨fun x y hal h hx hy => ?_,fun a b h ha hb => ?_⟩
  ·have e1:=x.cnt_kids;have e2:=y.cnt_kids;have hl:=zEd hal;have hle:=zNu x.kids y.kids;have hD:=D_eq x y;have l1:=Nd.cnts_len x.kids;have hF : ∀ u ∈ x.kids,∀ v ∈ y.kids,zCd n u.kids v.kids = some (tabD D u.kids v.kids):=fun u hu v hv => by
    have:=Nd.cnts_mem hu;have:=Nd.cnts_mem hv;have:=u.cnt_kids;have:=v.cnt_kids;exact ih2 _ _ (by omega) (by omega) (by omega)
   have ht:=zSZ x y;have:=zOX hF hl (by omega) (by omega) n 0 (txt x y) (by omega) (by omega) (by simp only [List.drop_zero]; omega)
   rw [show ((0 : Nat) : Int) = 0 from rfl,List.drop_zero,List.drop_zero,← hD] at this;obtain ⟨a,b,c,d⟩:=x;obtain ⟨a',b',c',d'⟩:=y;unfold zB2;have e : (bif (!(b == b')) then some 1 else some 0 : Option Int) = some (txt (.mk a b c d) (.mk a' b' c' d') : Int):=by
    unfold txt;simp only [Nd.text]
    cases b == b' <;> rfl
   rw [e]
   simp only [Option.bind_some]
   simp only [Nd.kids] at this;rw [this]; rfl
  ·have l1:=Nd.cnts_len a;have l2:=Nd.cnts_len b;rw [zCd,zBx ⟨by omega,by omega⟩]
   refine zQR hb (fun y hy => ?_) a (fun x hx => ?_) (fun x _ y _ => zQf x y) (fun x hx y hy hal => ?_) ha
   ·have:=Nd.cnts_mem hy; exact zDz n y (by omega) (by omega)
   ·have:=Nd.cnts_mem hx; exact zDz n x (by omega) (by omega)
   ·have:=Nd.cnts_mem hy;have:=Nd.cnts_mem hx;exact ih1 x y hal (by omega) (by omega) (by omega)
end Go.Proofs.YtjdhkpdjecegnaaGreatDoor
namespace Go.Proofs.YtjdhkpdjecegnaaGreatDoor
open Go.Abs
def zPS : List (List UInt8):=[[114,111,119],[115,121,109],[110,117,109],[116,101,120,116],[102,114,97,99],[114,111,111,116],[115,117,98],[115,117,112],
 [98,111,116,104],[97,99,99,101,110,116],[102,101,110,99,101],[109,97,116,114,105,120]]
def kindName (k : Int) : List UInt8:=if 1 ≤ k ∧ k ≤ 12 then zPS.getD (k.toNat - 1) [] else [110,111,100,101] ++ Lib.itoa k
def escL : List UInt8 → List UInt8
 | [] => []
 | c :: r => if c = 34 ∨ c = 92 then 92 :: c :: escL r else c :: escL r
def zG5 (t : List UInt8) : List UInt8:=if t = [] then [] else 58 :: 34 :: (escL t ++ [34])
def zLd (c : Int) : List UInt8:=if c = 0 then [] else 42 :: Lib.itoa c
def zKq (k : Int) (t : List UInt8) (c : Int) : List UInt8:=kindName k ++ (zG5 t ++ zLd c)
def zPO : List UInt8 → List UInt8
 | [] => []
 | _ :: r => 40 :: (r ++ [41])
mutual
def zCD : Nd → List UInt8
 | .mk k t c ks => zKq k t c ++ zPO (zDe ks)
def zDe : List Nd → List UInt8
 | [] => []
 | v :: vs => 32 :: (zCD v ++ zDe vs)
end
theorem zRe : ∀ i < 12,zPS.getD i [] ≠ []:=by decide
theorem zPP (k : Int) : kindName k ≠ []:=by
 unfold kindName;split
 ·exact zRe _ (by omega)
 ·simp
def hd (l : List UInt8) (s : List UInt8) : Prop:=∀ b r,l = b :: r → b ∈ s
theorem zGO : ∀ t : List UInt8,(escL t).length ≤ 2 * t.length
 | [] => Nat.le_refl _
 | c :: r => by
  have:=zGO r;simp only [escL]
  split <;> simp only [List.length_cons] <;> omega
theorem zGr {k : Int} (h : zLe k) : (kindName k).length ≤ 25:=by
 unfold kindName;split
 ·have : ∀ i < 12,(zPS.getD i []).length ≤ 25 :=(by decide);exact this _ (by omega)
 ·have:=Lib.itoa_length_le k h.1 h.2
  simp; omega
theorem zR9 {k : Int} {t : List UInt8} {c : Int} (hk : zLe k) (hc : zLe c) : (zKq k t c).length ≤ 55 + 2 * t.length:=by
 have h1:=zGr hk;have h2:=zGO t;have h3:=Lib.itoa_length_le c hc.1 hc.2;have h4 : (zG5 t).length ≤ 3 + 2 * t.length :=(by unfold zG5; split <;> simp; omega);have h5 : (zLd c).length ≤ 22 :=(by unfold zLd; split <;> simp; omega);simp only [zKq,List.length_append]; omega
theorem zSe (l : List UInt8) : (zPO l).length ≤ l.length + 1:=by cases l <;> simp [zPO]
mutual
theorem zOe : ∀ v : Nd,v.rng → (zCD v).length ≤ 60 * v.w
 | .mk k t c ks,h => by
  have h1:=zR9 (t:=t) h.1 h.2.1
  have h2:=zIA ks h.2.2
  have h3:=zSe (zDe ks)
  simp only [zCD,List.length_append,Nd.w]; omega
theorem zIA : ∀ vs : List Nd,Nd.rngs vs → (zDe vs).length ≤ 60 * Nd.ws vs
 | [],_ => by simp [zDe]
 | v :: vs,h => by
  have h1:=zOe v h.1
  have h2:=zIA vs h.2
  simp only [zDe,List.length_cons,List.length_append,Nd.ws]; omega
end
theorem zPo (c : UInt8) (l : List UInt8) (h : l.length < 4294967296) : zAI c l = some ((),l ++ [c]):=by
 unfold zAI zA1;simp only [Option.bind_some]
 rw [zBx (by simp; omega)]
theorem zUt (s l : List UInt8) (h : l.length + s.length ≤ 4294967296) : zAo s l = some ((s.length : Int),(),l ++ s):=by
 unfold zAo zA1;simp only [Option.bind_some]
 rw [zBx h]
theorem zTX {n : Int} (h : zLe n) : zDj n = some (Lib.itoa n):=by
 unfold zDj;exact zBx (show -9223372036854775808 ≤ n ∧ n ≤ 9223372036854775807 from h)
theorem zQi (c : UInt8) : ((c.toNat : Int) == 34) = (c == 34) ∧ ((c.toNat : Int) == 92) = (c == 92) :=
 ⟨of_decide_eq_true (zJw (P:=fun c => decide (((c.toNat : Int) == 34) = (c == 34))) (by decide +kernel) c),of_decide_eq_true (zJw (P:=fun c => decide (((c.toNat : Int) == 92) = (c == 92))) (by decide +kernel) c)⟩
theorem zOf {t : List UInt8} {i : Nat} (h : i < t.length) : escL (t.drop i) = if t[i] = 34 ∨ t[i] = 92 then 92 :: t[i] :: escL (t.drop (i + 1)) else t[i] :: escL (t.drop (i + 1)):=by
 rw [List.drop_eq_getElem_cons h]; rfl
theorem zH7 (t : List UInt8) (ht : t.length ≤ 1073741824) : ∀ (k i : Nat) (l : List UInt8),t.length - i < k → i ≤ t.length → l.length + 2 * (t.length - i) < 4294967296 →
  zAW t k (i : Int) l = some (l ++ escL (t.drop i))
 | 0,_,_,h,_,_ => by omega
 | k + 1,i,l,hk,hi,hl => by
  unfold zAW
  by_cases h : i < t.length
  ·rw [zA8 (Int.ofNat_lt.2 h),cond_true,zBA h,zOf h]
   simp only [Option.bind_some,(zQi t[i]).1,(zQi t[i]).2]
   rw [zAL (by omega)]
   have e92 : b8of 92 = 92:=rfl
   by_cases h1 : t[i] = 34
   ·rw [if_pos (.inl h1),show (t[i] == 34) = true from beq_iff_eq.2 h1,cond_true]
    simp only [Option.bind_some,cond_true]
    rw [e92,zPo _ _ (by omega)]
    simp only [Option.bind_some]
    rw [zPo _ _ (by simp; omega)]
    simp only [Option.bind_some]
    rw [zH7 t ht k (i + 1) _ (by omega) (by omega) (by simp; omega)]
    simp
   ·rw [show (t[i] == 34) = false from beq_eq_false_iff_ne.2 h1,cond_false]
    simp only [Option.bind_some]
    by_cases h2 : t[i] = 92
    ·rw [if_pos (.inr h2),show (t[i] == 92) = true from beq_iff_eq.2 h2,cond_true]
     try simp only [Option.bind_some,cond_true]
     rw [e92,zPo _ _ (by omega)]
     simp only [Option.bind_some]
     rw [zPo _ _ (by simp; omega)]
     simp only [Option.bind_some]
     rw [zH7 t ht k (i + 1) _ (by omega) (by omega) (by simp; omega)]
     simp [h2]
    ·rw [if_neg (by intro h; exact h.elim h1 h2),show (t[i] == 92) = false from beq_eq_false_iff_ne.2 h2,cond_false]
     simp only [Option.bind_some]
     rw [zPo _ _ (by omega)]
     simp only [Option.bind_some]
     rw [zH7 t ht k (i + 1) _ (by omega) (by omega) (by simp; omega)]
     simp
  ·rw [zA5 (by omega),cond_false]
   obtain rfl : i = t.length :=(by omega);simp [escL]
theorem zJg (k : Int) : kindName k = if k = 1 then [114,111,119] else if k = 2 then [115,121,109] else if k = 3 then [110,117,109] else if k = 4 then [116,101,120,116]
 else if k = 5 then [102,114,97,99] else if k = 6 then [114,111,111,116] else if k = 7 then [115,117,98] else if k = 8 then [115,117,112]
 else if k = 9 then [98,111,116,104] else if k = 10 then [97,99,99,101,110,116] else if k = 11 then [102,101,110,99,101]
 else if k = 12 then [109,97,116,114,105,120] else [110,111,100,101] ++ Lib.itoa k:=by
 rcases kinds k with rfl | rfl | rfl | rfl | rfl | rfl | rfl | rfl | rfl | rfl | rfl | rfl | hk
 all_goals first | rfl | skip
 unfold kindName;rw [if_neg (by omega),if_neg (by omega),if_neg (by omega),if_neg (by omega),if_neg (by omega),if_neg (by omega),if_neg (by omega),if_neg (by omega),if_neg (by omega),if_neg (by omega),if_neg (by omega),if_neg (by omega),if_neg (by omega)]
theorem zSf (k : Int) : (bif decide (1 ≤ k) then some (decide (k ≤ 12)) else some false : Option Bool) = some (decide (1 ≤ k ∧ k ≤ 12)):=by
 by_cases h : 1 ≤ k
 ·rw [zA8 h,cond_true]; congr 1; by_cases h2 : k ≤ 12 <;> simp [h,h2]
 ·rw [zA5 h,cond_false]; congr 1; simp [h]
theorem head_eq (n : Nat) (k : Int) (t : List UInt8) (c : Int) (ks : List Nd) (l : List UInt8) (hn : t.length < n) (ht : t.length ≤ 1073741824) (hk : zLe k) (hc : zLe c) (hl : l.length + 2 * t.length + 60 < 4294967296) :
  zBj n (.mk k t c ks) l = some (l ++ zKq k t c):=by
 unfold zBj;have hki:=Lib.itoa_length_le k hk.1 hk.2;have hci:=Lib.itoa_length_le c hc.1 hc.2;have h1 : ∀ X : Option (List UInt8),X = some (l ++ kindName k) → ∀ K : List UInt8 → Option (List UInt8),X.bind K = K (l ++ kindName k):=fun X h K => by rw [h]; rfl
 simp only [zSf,Option.bind_some]
 have hlen:=zGr hk;rw [h1 _ ?_]
 ·have h2 : ∀ X : Option (List UInt8),X = some ((l ++ kindName k) ++ zG5 t) → ∀ K : List UInt8 → Option (List UInt8),X.bind K = K ((l ++ kindName k) ++ zG5 t):=fun X h K => by rw [h]; rfl
  rw [h2 _ ?_]
  ·unfold zKq zLd;have htx : (zG5 t).length ≤ 3 + 2 * t.length:=by have:=zGO t; unfold zG5; split <;> simp; omega
   by_cases h0 : c = 0
   ·subst h0;rw [if_pos rfl,show ((0 : Int) != 0) = false from rfl,cond_false]
    simp
   ·rw [if_neg h0,show (c != 0) = true from bne_iff_ne.2 h0,cond_true,zTX hc]
    simp only [Option.bind_some]
    rw [zBx (by simp; omega),zUt _ _ (by simp; omega)]
    simp
  ·unfold zG5
   by_cases h0 : t = []
   ·subst h0;simp
   ·rw [if_neg h0,show (!(t == [])) = true from by simp [h0],cond_true,zUt _ _ (by simp; omega)]
    simp only [Option.bind_some]
    have:=zH7 t ht n 0 ((l ++ kindName k) ++ [58,34]) (by omega) (by omega) (by simp; omega)
    rw [show ((0 : Nat) : Int) = 0 from rfl] at this;rw [this]
    have he:=zGO t;simp only [Option.bind_some,List.drop_zero]
    rw [show b8of 34 = 34 from rfl,zPo _ _ (by simp; omega)]
    simp
 ·rw [zJg]
  have go : ∀ s : List UInt8,s.length ≤ 25 → ((zAo s l).bind fun x => match x with | (_,_,b) => some b) = some (l ++ s):=fun s hs => by
   rw [zUt _ _ (by omega)]; rfl
  rcases kinds k with rfl | rfl | rfl | rfl | rfl | rfl | rfl | rfl | rfl | rfl | rfl | rfl | hk'
  all_goals first | exact go _ (by decide) | skip
  rw [show decide (1 ≤ k ∧ k ≤ 12) = false from decide_eq_false (by omega),cond_false,zTX hk]
  simp only [Option.bind_some]
  rw [zBx (by simp; omega),if_neg (by omega),if_neg (by omega),if_neg (by omega),if_neg (by omega),if_neg (by omega),if_neg (by omega),if_neg (by omega),if_neg (by omega),if_neg (by omega),if_neg (by omega),if_neg (by omega),if_neg (by omega)]
  exact go _ (by simp; omega)
def remK (ks : List Nd) (i : Nat) : List UInt8:=if i = 0 then zPO (zDe ks) else zDe (ks.drop i) ++ [41]
def outS : List (Nd × Nat) → List UInt8
 | [] => []
 | p :: r => outS r ++ remK p.1.kids p.2
def itS : List (Nd × Nat) → Nat
 | [] => 0
 | p :: r => itS r + (1 + 2 * Nd.cnts (p.1.kids.drop p.2))
theorem zFI (p : Nd × Nat) : ∀ L,outS (L ++ [p]) = remK p.1.kids p.2 ++ outS L
 | [] => by simp [outS]
 | q :: r => by simp only [List.cons_append,outS,zFI p r,List.append_assoc]
theorem zGS (p : Nd × Nat) : ∀ L,itS (L ++ [p]) = itS L + (1 + 2 * Nd.cnts (p.1.kids.drop p.2))
 | [] => by simp [itS]
 | q :: r => by simp only [List.cons_append,itS,zGS p r]; omega
theorem zPN : ∀ L,L.length ≤ itS L
 | [] => Nat.le_refl _
 | q :: r => by have:=zPN r; simp only [itS,List.length_cons]; omega
theorem zSH {ks : List Nd} {i : Nat} (h : i < ks.length) : remK ks i = (if i = 0 then 40 else 32) :: (zCD ks[i] ++ remK ks (i + 1)):=by
 unfold remK;rw [if_neg (by omega : ¬ i + 1 = 0)]
 by_cases h0 : i = 0
 ·subst h0;rw [if_pos rfl,if_pos rfl]
  match ks,h with
  | v :: vs,_ => simp [zDe,zPO]
 ·rw [if_neg h0,if_neg h0,List.drop_eq_getElem_cons h]
  simp [zDe]
theorem zTH (ks : List Nd) : remK ks ks.length = if ks.length = 0 then [] else [41]:=by
 unfold remK
 by_cases h : ks.length = 0
 ·rw [if_pos h,if_pos h,List.length_eq_zero_iff.1 h]; rfl
 ·rw [if_neg h,if_neg h,List.drop_length]; rfl
theorem zH5 (k : Int) (t : List UInt8) (c : Int) (ks : List Nd) : zCD (.mk k t c ks) = zKq k t c ++ remK ks 0:=by
 simp [zCD,remK]
theorem zNz (k : Int) (t : List UInt8) (c : Int) (ks : List Nd) : (Nd.mk k t c ks).w = t.length + Nd.ws ks + 1:=rfl
def entI (p : Nd × Nat) : Nd × Int:=(p.1,(p.2 : Int))
theorem zJV (n : Nat) : ∀ (k : Nat) (L : List (Nd × Nat)) (b : List UInt8),itS L < k → itS L ≤ 1000000000 → (∀ p ∈ L,p.2 ≤ p.1.kids.length ∧ p.1.rng ∧ p.1.w ≤ 16777216 ∧ p.1.w < n) → b.length + (outS L).length ≤ 4000000000 →
  zBQ n k b (L.map entI) = some (b ++ outS L)
 | 0,_,_,h,_,_,_ => by omega
 | k + 1,L,b,hk,hit,hL,hb => by
  unfold zBQ;rcases List.eq_nil_or_concat L with rfl | ⟨L,⟨v,i⟩,rfl⟩
  ·simp [outS]
  ·rw [List.concat_eq_append] at *;obtain ⟨hi,hr,hw,hwn⟩:=hL (v,i) (by simp)
   obtain ⟨k0,t,c,ks⟩:=v;replace hr : (Nd.mk k0 t c ks).rng:=hr;replace hw : (Nd.mk k0 t c ks).w ≤ 16777216:=hw;replace hwn : (Nd.mk k0 t c ks).w < n:=hwn;have hlen : ((List.map entI (L ++ [(Nd.mk k0 t c ks,i)])).length : Int) = (L.length : Int) + 1 :=(by simp);have hll:=zPN (L ++ [(Nd.mk k0 t c ks,i)])
   rw [List.length_append,List.length_singleton] at hll;have hwr : IntKind.i64.wrap (((List.map entI (L ++ [(Nd.mk k0 t c ks,i)])).length : Int) - 1) = (L.length : Int) :=(by rw [hlen,wrap64_in (by omega) (by omega)]; omega);have hat : at? (List.map entI (L ++ [(Nd.mk k0 t c ks,i)])) (L.length : Int) = some (Nd.mk k0 t c ks,(i : Int)):=by
    rw [zBA (by simp)]; simp [entI]
   rw [zA8 (by omega),cond_true,hwr,hat]
   simp only [Option.bind_some,Nd.kids] at hi ⊢;rw [zFI] at hb ⊢;rw [zGS] at hk hit;simp only [Nd.kids] at hb hk hit ⊢
   by_cases he : i = ks.length
   ·subst he;rw [show ((ks.length : Int) == (ks.length : Int)) = true from beq_self_eq_true _,cond_true]
    have hre:=zTH ks;have hx : (bif decide (0 < (ks.length : Int)) then (zAI (b8of 41) b).bind (fun x => match x with | (_,b14) => some b14) else some b) = some (b ++ remK ks ks.length):=by
     rw [hre]
     by_cases h0 : ks.length = 0
     ·rw [zA5 (by omega),cond_false,if_pos h0]; simp
     ·rw [zA8 (by omega),cond_true,if_neg h0,zPo _ _ (by omega)]; rfl
    have hx' : ∀ X : Option (List UInt8),X = some (b ++ remK ks ks.length) → ∀ K : List UInt8 → Option (List UInt8),X.bind K = K (b ++ remK ks ks.length):=fun X h K => by rw [h]; rfl
    rw [hx' _ hx,zBx (by omega),Int.toNat_natCast]
    have ht : List.take L.length (List.map entI (L ++ [(Nd.mk k0 t c ks,ks.length)])) = L.map entI :=(by simp);rw [ht,zJV n k L _ (by omega) (by omega) (fun p hp => hL p (by simp [hp])) (by simp only [List.length_append] at hb ⊢; omega)]
    simp
   ·have h : i < ks.length :=(by omega);rw [zFd (by omega : (i : Int) ≠ (ks.length : Int)),cond_false,zBA h]
    have hd:=Nd.cnts_drop h;have hrs:=zSH h;rw [hrs] at hb ⊢;have hkr : (ks[i]).rng:=Nd.rng_mem hr.2.2 (List.getElem_mem h)
    have hkw : (ks[i]).w < Nd.ws ks:=Nd.w_mem (List.getElem_mem h)
    have hwt:=zNz k0 t c ks;rcases e : ks[i] with ⟨e1,e2,e3,e4⟩
    rw [e] at hd hkr hkw hb;have hwt2:=zNz e1 e2 e3 e4;have hct:=Nd.cnt_kids (.mk e1 e2 e3 e4)
    simp only [Nd.kids] at hct;rw [zH5] at hb;simp only [Option.bind_some]
    have hsep : at? ([40,32] : List UInt8) (if 1 < (i : Int) then 1 else (i : Int)) = some (if i = 0 then 40 else 32):=by
     by_cases h0 : i = 0
     ·subst h0; rfl
     ·rw [if_neg h0]
      by_cases h1 : i = 1
      ·subst h1; rfl
      ·rw [if_pos (by omega)]; rfl
    rw [hsep]
    simp only [Option.bind_some]
    simp only [List.length_append,List.length_cons] at hb;rw [zPo _ _ (by omega)]
    simp only [Option.bind_some]
    rw [head_eq n e1 e2 e3 e4 _ (by omega) (by omega) hkr.1 hkr.2.1 (by simp; omega)]
    simp only [Option.bind_some]
    have hset : (List.map entI (L ++ [(Nd.mk k0 t c ks,i)])).set (L.length : Int).toNat (Nd.mk k0 t c ks,IntKind.i64.wrap ((i : Int) + 1)) ++ [(Nd.mk e1 e2 e3 e4,0)] = (L ++ [(Nd.mk k0 t c ks,i + 1)] ++ [(Nd.mk e1 e2 e3 e4,0)]).map entI:=by
     have hlk:=Nd.ws_len ks;rw [wrap64_in (by omega) (by omega)]
     simp [entI]
    have hll2:=zPN L;rw [zBx (by simp; omega),hset]
    rw [zJV n k _ _ (by rw [zGS,zGS]; simp only [Nd.kids,List.drop_zero]; omega) (by rw [zGS,zGS]; simp only [Nd.kids,List.drop_zero]; omega) ?_ ?_]
    ·rw [zFI,zFI,zH5]
     simp [Nd.kids]
    ·intro p hp;rcases List.mem_append.1 hp with hp | hp
     ·rcases List.mem_append.1 hp with hp | hp
      ·exact hL p (by simp [hp])
      ·simp only [List.mem_singleton] at hp; subst hp
       exact ⟨h,hr,hw,hwn⟩
     ·simp only [List.mem_singleton] at hp; subst hp
      exact ⟨Nat.zero_le _,hkr,(show (Nd.mk e1 e2 e3 e4).w ≤ 16777216 by omega),(show (Nd.mk e1 e2 e3 e4).w < n by omega)⟩
    ·rw [zFI,zFI]
     simp only [Nd.kids,List.length_append,List.length_cons,List.length_nil]
     omega
theorem zTj (t : Nd) : zCD t ≠ []:=by
 obtain ⟨k,t,c,ks⟩:=t;rw [zH5]
 unfold zKq;have:=zPP k;simp [this]
theorem zJj (n : Nat) (t : Nd) (h : 2 * t.w < n) (hw : t.w ≤ 16777216) (hr : t.rng) : zDZ n t = some (zCD t):=by
 have hlen:=zOe t hr;have hne:=zTj t;have hcw:=Nd.cnt_w t;have hck:=Nd.cnt_kids t;obtain ⟨k,tx,c,ks⟩:=t;have hwt:=zNz k tx c ks;simp only [Nd.kids] at hck;unfold zDZ zDx;simp only [Option.bind_some]
 rw [head_eq n k tx c ks [] (by omega) (by omega) hr.1 hr.2.1 (by simp; omega)]
 simp only [Option.bind_some,List.nil_append]
 have hl:=zJV n n [(.mk k tx c ks,0)] (zKq k tx c) (by simp [itS,Nd.kids]; omega) (by simp [itS,Nd.kids]; omega) (fun p hp => by simp only [List.mem_singleton] at hp; subst hp; exact ⟨Nat.zero_le _,hr,hw,(show (Nd.mk k tx c ks).w < n by omega)⟩) (by
  rw [zH5] at hlen;simp only [outS,Nd.kids,List.length_append,List.nil_append] at hlen ⊢; omega)
 have e : List.map entI [(Nd.mk k tx c ks,0)] = [(Nd.mk k tx c ks,0)]:=rfl;rw [e] at hl;rw [hl,Option.bind_some]
 have e2 : zKq k tx c ++ outS [(Nd.mk k tx c ks,0)] = zCD (.mk k tx c ks) :=(by rw [zH5]; simp [outS,Nd.kids]);rw [e2]
 unfold zCj;rw [zBx ⟨hne,by omega⟩,Option.bind_some]
theorem zOc (r : Nat) (h : r < 10) : b8of (IntKind.u8.wrap (IntKind.i64.wrap (48 + (r : Int)))) = UInt8.ofNat (48 + r):=by
 have : ∀ r < 10,b8of (IntKind.u8.wrap (IntKind.i64.wrap (48 + ((r : Nat) : Int)))) = UInt8.ofNat (48 + r) :=(by decide);exact this r h
theorem zR3 (r : Nat) (h : r < 10) : b8of (IntKind.u8.wrap (IntKind.i64.wrap (48 - -(r : Int)))) = UInt8.ofNat (48 + r):=by
 have : ∀ r < 10,b8of (IntKind.u8.wrap (IntKind.i64.wrap (48 - -((r : Nat) : Int)))) = UInt8.ofNat (48 + r) :=(by decide);exact this r h
theorem zQt : ∀ (k u : Nat) (s : List UInt8),u < 10 ^ k → u < 9223372036854775808 → s.length + k ≤ 1000 → ∃ (q : Nat) (r : List UInt8),zBG (k + 1) (u : Int) s = some ((q : Int),r) ∧ q < 10 ∧ r.length ≤ s.length + k ∧ UInt8.ofNat (48 + q) :: r = Lib.decDigits u ++ s
 | k,u,s,hk,hu,hs => by
  unfold zBG
  by_cases h : u < 10
  ·rw [zA5 (by omega),cond_false]
   exact ⟨u,s,rfl,h,by omega,by rw [Lib.decDigits,dif_pos h]; rfl⟩
  ·rw [zA8 (by omega),cond_true]
   match k,hk with
   | 0,hk => simp at hk; omega
   | k + 1,hk =>
    have e1 : (u : Int).tmod 10 = ((u % 10 : Nat) : Int) :=(by rw [Int.tmod_eq_emod_of_nonneg (by omega)]; rfl);have e2 : IntKind.i64.wrap ((u : Int).tdiv 10) = ((u / 10 : Nat) : Int):=by
     rw [Int.tdiv_eq_ediv_of_nonneg (by omega),wrap64_in (by omega) (by omega)]; rfl
    rw [e1,e2,zOc _ (Nat.mod_lt _ (by decide)),zBx (by simp; omega)]
    obtain ⟨q,r,h1,h2,h3,h4⟩:=zQt k (u / 10) ([UInt8.ofNat (48 + u % 10)] ++ s) (by rw [Nat.pow_succ] at hk; omega) (by omega) (by simp; omega)
    refine ⟨q,r,h1,h2,by simp at h3; omega,?_⟩
    rw [h4,Lib.decDigits.eq_def u,dif_neg h]
    simp
theorem zL4 (n u : Nat) (h : 25 ≤ n) (hu : u < 9223372036854775808) : zDK (n + 1) (u : Int) = some (Lib.decDigits u):=by
 unfold zDK;rw [zA5 (by omega),cond_false]
 obtain ⟨q,r,h1,h2,h3,h4⟩:=zQt (min (n - 1) 900) u [] (by
  have : (10 : Nat) ^ 24 ≤ 10 ^ (min (n - 1) 900):=Nat.pow_le_pow_right (by decide) (by omega)
  have : (9223372036854775808 : Nat) ≤ 10 ^ 24:=by decide
  omega) hu (by simp; omega)
 have hl : ∀ (k m : Nat) (x : Int) (s : List UInt8) y,zBG k x s = some y → zBG (k + m) x s = some y:=by
  intro k
  induction k with
  | zero => intro m x s y h; simp [zBG] at h
  | succ k ih =>
   intro m x s y h;rw [show k + 1 + m = (k + m) + 1 by omega]
   unfold zBG at h ⊢
   by_cases hx : 10 ≤ x
   ·rw [zA8 hx,cond_true] at h ⊢;obtain ⟨hq,h⟩:=zAJ h;rw [zBx hq]
    exact ih m _ _ _ h
   ·rw [zA5 hx,cond_false] at h ⊢;exact h
 have:=hl _ (n - (min (n - 1) 900 + 1)) _ _ _ h1;rw [show min (n - 1) 900 + 1 + (n - (min (n - 1) 900 + 1)) = n by omega] at this;rw [this]
 simp only [Option.bind_some]
 rw [zOc q h2,zBx (by simp at h3 ⊢; omega)]
 simpa using h4
theorem zL3 (n : Nat) (x : Int) (h : 30 ≤ n) (hx : zLe x) : zDK n x = some (Lib.itoa x):=by
 unfold zLe at hx;obtain ⟨n,rfl⟩ : ∃ m,n = m + 1:=⟨n - 1,by omega⟩
 by_cases h0 : x < 0
 ·obtain ⟨u,rfl⟩ : ∃ u : Nat,x = -(u : Int):=⟨x.natAbs,by omega⟩
  have e1 : (-(u : Int)).tmod 10 = -((u % 10 : Nat) : Int) :=(by rw [Int.neg_tmod,Int.tmod_eq_emod_of_nonneg (by omega)]; rfl);have e2 : IntKind.i64.wrap ((-(u : Int)).tdiv 10) = -((u / 10 : Nat) : Int):=by
   rw [Int.neg_tdiv,Int.tdiv_eq_ediv_of_nonneg (by omega),wrap64_in (by omega) (by omega)]; rfl
  unfold zDK Lib.itoa;rw [zA8 h0,cond_true,if_pos h0,e1,e2,zR3 _ (Nat.mod_lt _ (by decide)),show (-(u : Int)).natAbs = u by omega]
  by_cases h1 : u / 10 = 0
  ·rw [h1,show (-((0 : Nat) : Int) != 0) = false from rfl,cond_false,zBx (by simp),Lib.decDigits,dif_pos (by omega),Nat.mod_eq_of_lt (by omega)]
   rfl
  ·rw [show (-((u / 10 : Nat) : Int) != 0) = true from bne_iff_ne.2 (by omega),cond_true]
   have e3 : IntKind.i64.wrap (0 - -((u / 10 : Nat) : Int)) = ((u / 10 : Nat) : Int) :=(by rw [wrap64_in (by omega) (by omega)]; omega);obtain ⟨m,rfl⟩ : ∃ m,n = m + 1:=⟨n - 1,by omega⟩
   rw [e3,zL4 m (u / 10) (by omega) (by omega)]
   have hl:=Lib.nDigits_le20 (u / 10) (by omega)
   have hl2:=Lib.decDigits_length (u / 10)
   simp only [Option.bind_some]
   rw [zBx (by simp; omega),zBx (by simp; omega),Lib.decDigits.eq_def u,dif_neg (by omega)]
   simp
 ·obtain ⟨u,rfl⟩ : ∃ u : Nat,x = (u : Int):=⟨x.toNat,by omega⟩
  unfold Lib.itoa;rw [if_neg h0,Int.toNat_natCast]
  exact zL4 n u (by omega) (by omega)
theorem zKO (t : List UInt8) (ht : t.length ≤ 1073741824) : ∀ (k i : Nat) (l : List UInt8),t.length - i < k → i ≤ t.length → l.length + 2 * (t.length - i) < 4294967296 →
  zBH t k (i : Int) l = some (l ++ escL (t.drop i))
 | 0,_,_,h,_,_ => by omega
 | k + 1,i,l,hk,hi,hl => by
  unfold zBH
  by_cases h : i < t.length
  ·rw [zA8 (Int.ofNat_lt.2 h),cond_true,zBA h,zOf h]
   simp only [Option.bind_some,(zQi t[i]).1,(zQi t[i]).2]
   rw [zAL (by omega)]
   have e92 : b8of 92 = 92:=rfl;have hx : (bif t[i] == 34 then some true else some (t[i] == 92) : Option Bool) = some (decide (t[i] = 34 ∨ t[i] = 92)):=by
    by_cases h1 : t[i] = 34
    ·simp [h1]
    ·by_cases h2 : t[i] = 92
     ·simp [h2]
     ·rw [beq_eq_false_iff_ne.2 h1,beq_eq_false_iff_ne.2 h2,cond_false,decide_eq_false (by intro h; exact h.elim h1 h2)]
   rw [hx]
   simp only [Option.bind_some]
   by_cases hq : t[i] = 34 ∨ t[i] = 92
   ·rw [decide_eq_true hq,cond_true,if_pos hq,zBx (by simp; omega)]
    simp only [Option.bind_some]
    rw [zBx (by simp; omega)]
    simp only [Option.bind_some]
    rw [zKO t ht k (i + 1) _ (by omega) (by omega) (by simp; omega),e92]
    simp
   ·rw [decide_eq_false hq,cond_false,if_neg hq]
    simp only [Option.bind_some]
    rw [zBx (by simp; omega)]
    simp only [Option.bind_some]
    rw [zKO t ht k (i + 1) _ (by omega) (by omega) (by simp; omega)]
    simp
  ·rw [zA5 (by omega),cond_false]
   obtain rfl : i = t.length :=(by omega);simp [escL]
theorem zNj (n : Nat) (t : List UInt8) (hn : t.length < n) (ht : t.length ≤ 1073741824) : zEj n t = some (34 :: (escL t ++ [34])):=by
 unfold zEj;have:=zKO t ht n 0 [34] (by omega) (by omega) (by simp; omega)
 rw [show ((0 : Nat) : Int) = 0 from rfl,List.drop_zero] at this;have he:=zGO t;show (zBH t n 0 [b8of 34]).bind _ = _;rw [show b8of 34 = 34 from rfl,this,Option.bind_some,zBx (by simp; omega)]
 simp
theorem zIN {F : Nd → Option (List UInt8)} {ks : List Nd} (hF : ∀ v ∈ ks,F v = some (zCD v)) (hl : ks.length ≤ 1073741824) :
  ∀ (q i : Nat) (x : List UInt8),ks.length - i < q → i ≤ ks.length → x.length + (zDe (ks.drop i)).length ≤ 4294967296 →
   zCu F ks q x (i : Int) = some (x ++ (if i = 0 then (zDe ks).tail else zDe (ks.drop i)))
 | 0,_,_,h,_,_ => by omega
 | q + 1,i,x,hq,hi,hx => by
  unfold zCu
  by_cases h : i < ks.length
  ·have hd:=List.drop_eq_getElem_cons h;have hf:=hF _ (List.getElem_mem h)
   rw [hd] at hx;rw [zA8 (Int.ofNat_lt.2 h),cond_true,zBA h]
   rcases e : ks[i] with ⟨e1,e2,e3,e4⟩
   rw [e] at hf hd hx;simp only [zDe,List.length_cons,List.length_append] at hx;simp only [Option.bind_some,hf]
   rw [zAL (by omega)]
   by_cases h0 : i = 0
   ·subst h0;rw [zA5 (by omega),cond_false]
    simp only [Option.bind_some]
    rw [zBx (by omega)]
    simp only [Option.bind_some]
    have ih:=zIN hF hl q 1 (x ++ zCD (.mk e1 e2 e3 e4)) (by omega) (by omega) (by simp at hx ⊢; omega)
    rw [show (((0 + 1 : Nat)) : Int) = ((1 : Nat) : Int) from rfl,ih,if_neg (by decide)]
    rw [List.drop_zero] at hd;have hd':=congrArg zDe hd;simp only [zDe] at hd';simp [hd']
   ·rw [zA8 (by omega),cond_true,zBx (by simp; omega)]
    simp only [Option.bind_some]
    rw [zBx (by simp; omega)]
    simp only [Option.bind_some]
    rw [zIN hF hl q (i + 1) _ (by omega) (by omega) (by simp; omega),if_neg (by omega),if_neg h0,hd]
    simp [zDe]
  ·rw [zA5 (by omega),cond_false]
   obtain rfl : i = ks.length:=by omega
   congr 1
   by_cases h0 : ks.length = 0
   ·rw [if_pos h0,List.length_eq_zero_iff.1 h0]; simp [zDe]
   ·rw [if_neg h0,List.drop_length]; simp [zDe]
theorem zQ8 {l : List UInt8} (h : l ≠ []) : zPO l = 40 :: (l.tail ++ [41]):=by
 cases l with
 | nil => exact absurd rfl h
 | cons a l => rfl
theorem zHD : ∀ (n : Nat) (t : Nd),t.w + 40 < n → t.w ≤ 16777216 → t.rng → zCK n t = some (zCD t)
 | 0,_,h,_,_ => by omega
 | n + 1,.mk k t c ks,h,hw,hr => by
  have hwt:=zNz k t c ks;have hki:=Lib.itoa_length_le k hr.1.1 hr.1.2;have hci:=Lib.itoa_length_le c hr.2.1.1 hr.2.1.2;have hkl:=zGr hr.1;have he:=zGO t;have hd:=zIA ks hr.2.2;unfold zCK;rw [zL3 n k (by omega) hr.1]
  simp only [Option.bind_some]
  rw [zBx (by simp; omega),zSf]
  simp only [Option.bind_some]
  have h1 : ∀ X : Option (List UInt8),X = some (kindName k) → ∀ K : List UInt8 → Option (List UInt8),X.bind K = K (kindName k):=fun X h K => by rw [h]; rfl
  rw [h1 _ ?_]
  ·have h2 : ∀ X : Option (List UInt8),X = some (kindName k ++ zG5 t) → ∀ K : List UInt8 → Option (List UInt8),X.bind K = K (kindName k ++ zG5 t):=fun X h K => by rw [h]; rfl
   rw [h2 _ ?_]
   ·have hx : (zG5 t).length ≤ 3 + 2 * t.length :=(by unfold zG5; split <;> simp; omega);have h3 : ∀ X : Option (List UInt8),X = some ((kindName k ++ zG5 t) ++ zLd c) → ∀ K : List UInt8 → Option (List UInt8),X.bind K = K ((kindName k ++ zG5 t) ++ zLd c):=fun X h K => by rw [h]; rfl
    rw [h3 _ ?_]
    ·have hy : (zLd c).length ≤ 22:=by unfold zLd; split <;> simp; omega
     by_cases h0 : ks = []
     ·subst h0;simp [zCD,zDe,zPO,zKq]
     ·have hkl : ks.length ≠ 0 :=(by simpa using h0);rw [zFd (by omega : (ks.length : Int) ≠ 0),cond_false,zBx (by simp; omega)]
      have hlk:=Nd.ws_len ks;have hlo:=zIN (F:=zCK n) (ks:=ks) (fun v hv => zHD n v (by have:=Nd.w_mem hv; omega) (by have:=Nd.w_mem hv; omega) (Nd.rng_mem hr.2.2 hv)) (by omega) n 0 (((kindName k ++ zG5 t) ++ zLd c) ++ [40]) (by omega) (by omega) (by simp; omega)
      rw [show ((0 : Nat) : Int) = 0 from rfl,if_pos rfl] at hlo;rw [hlo,Option.bind_some,zBx (by simp; omega)]
      have hne : zDe ks ≠ []:=by
       cases ks with
       | nil => exact absurd rfl h0
       | cons v vs => simp [zDe]
      simp [zCD,zKq,zQ8 hne]
    ·unfold zLd
     by_cases h0 : c = 0
     ·subst h0; simp
     ·rw [if_neg h0,show (c != 0) = true from bne_iff_ne.2 h0,cond_true,zBx (by simp; omega),zL3 n c (by omega) hr.2.1]
      simp only [Option.bind_some]
      rw [zBx (by simp; omega)]
      simp
   ·unfold zG5
    by_cases h0 : t = []
    ·subst h0; simp
    ·rw [if_neg h0,show (!(t == [])) = true from by simp [h0],cond_true,zBx (by simp; omega),zNj n t (by omega) (by omega)]
     simp only [Option.bind_some]
     rw [zBx (by simp; omega)]
     simp
  ·rw [zJg]
   rcases kinds k with rfl | rfl | rfl | rfl | rfl | rfl | rfl | rfl | rfl | rfl | rfl | rfl | hk'
   all_goals first | rfl | skip
   rw [show decide (1 ≤ k ∧ k ≤ 12) = false from decide_eq_false (by omega),cond_false,if_neg (by omega),if_neg (by omega),if_neg (by omega),if_neg (by omega),if_neg (by omega),if_neg (by omega),if_neg (by omega),if_neg (by omega),if_neg (by omega),if_neg (by omega),if_neg (by omega),if_neg (by omega)]
end Go.Proofs.YtjdhkpdjecegnaaGreatDoor
namespace Go.Proofs.YtjdhkpdjecegnaaGreatDoor
open Go.Abs
def cntI (x : Nd) : Int:=(x.cnt : Int)
theorem zMg (n : Nat) {l : List Nd} (hn : ∀ v ∈ l,v.cnt < n) (hb : Nd.cnts l ≤ 1048576) : ∀ (q i : Nat),l.length - i < q → i ≤ l.length →
  zBX n l q (i : Int) ((l.take i).map cntI ++ List.replicate (l.length - i) 0) = some (l.map cntI)
 | 0,_,h,_ => by omega
 | q + 1,i,hq,hi => by
  have l1:=Nd.cnts_len l;unfold zBX
  by_cases h : i < l.length
  ·rw [zA8 (Int.ofNat_lt.2 h),cond_true,zBA h]
   have hm:=List.getElem_mem h;have hc:=zMW n _ (hn _ hm) (by have:=Nd.cnts_mem hm; omega)
   have ht : l.take (i + 1) = l.take i ++ [l[i]]:=List.take_append_getElem h ▸ rfl;rcases e : l[i] with ⟨a,b,c,d⟩
   rw [e] at hc ht;simp only [Option.bind_some,hc]
   have hlen : ((l.take i).map cntI).length = i :=(by simp; omega);obtain ⟨m,hm⟩ : ∃ m,l.length - i = m + 1:=⟨l.length - i - 1,by omega⟩
   have hg : at? ((l.take i).map cntI ++ List.replicate (l.length - i) (0 : Int)) (i : Int) = some 0:=by
    unfold at?
    rw [if_pos (by omega),Int.toNat_natCast,List.getElem?_append_right (by omega),hlen,hm]
    simp
   rw [hg,Option.bind_some,zAL (by omega),Int.toNat_natCast]
   have hs : ((l.take i).map cntI ++ List.replicate (l.length - i) (0 : Int)).set i ((Nd.mk a b c d).cnt : Int) = (l.take (i + 1)).map cntI ++ List.replicate (l.length - (i + 1)) 0:=by
    rw [List.set_append_right _ _ (by omega),hlen,Nat.sub_self,hm,ht,show l.length - (i + 1) = m by omega,List.replicate_succ,List.set_cons_zero,List.map_append]
    simp [cntI]
   rw [hs]
   exact zMg n hn hb q (i + 1) (by omega) (by omega)
  ·rw [zA5 (by omega),cond_false]
   obtain rfl : i = l.length :=(by omega);simp
theorem zQL (n : Nat) (l : List Nd) (hn : Nd.cnts l + 1 < n) (hb : Nd.cnts l ≤ 1048576) : zDu n l = some (l.map cntI):=by
 have l1:=Nd.cnts_len l;have:=zMg n (l:=l) (fun v hv => by have:=Nd.cnts_mem hv; omega) hb n 0 (by omega) (by omega)
 rw [show ((0 : Nat) : Int) = 0 from rfl] at this;simp only [List.take_zero,List.map_nil,List.nil_append,Nat.sub_zero] at this;rw [zDu,zBx ⟨by omega,by omega⟩,Int.toNat_natCast,this]; rfl
theorem zQq : ∀ b : List Nd,Nd.cnts b ≤ 1048576 → zAZ (b.map cntI) = sufs (TD D []) b
 | [],_ => rfl
 | y :: ys,hb => by
  simp only [Nd.cnts] at hb;have hf : TD D [] ys = Nd.cnts ys:=rfl;rw [List.map_cons,zAZ,zQq ys (by omega),zGW,hf,cntI,wrap64_in (by omega) (by omega),sufs,show TD D [] (y :: ys) = y.cnt + Nd.cnts ys from rfl]
  congr 1; omega
def prI (x y : Nd) : Int:=bif zBE x y then (D x y : Int) else -1
theorem zR8 {F : Nd → Nd → Option Int} {x : Nd} {f : List Nd → Nat} {c : Nat} (hx : x.cnt ≤ 1048576) (hc : c ≤ 1048576) (hf : ∀ b,f b ≤ c + Nd.cnts b) :
  ∀ (b : List Nd),(∀ y ∈ b,F x y = some (prI x y)) → Nd.cnts b ≤ 1048576 → zAD F x (x.cnt : Int) b (b.map cntI) (sufs f b) = some (sufs (rowD D x f) b,b.map (prI x))
 | [],_,_ => by
  have:=hf []
  simp only [Nd.cnts] at this;simp only [sufs,List.map_nil,zAD,rowD]
  rw [wrap64_in (by omega) (by omega),Nat.add_comm]; rfl
 | y :: ys,h1,hb => by
  simp only [Nd.cnts] at hb;have g1:=hf (y :: ys)
  simp only [Nd.cnts] at g1;have g2:=hf ys;have g3:=zP7 (P:=D) (x:=x) hf ys;have g4:=D_le x y;have ih:=zR8 (F:=F) hx hc hf ys (fun y hy => h1 y (List.mem_cons_of_mem _ hy)) (by omega)
  obtain ⟨r,hr⟩:=zIr f ys;rw [sufs,hr,List.map_cons,zAD,← hr,ih,Option.bind_some,h1 y List.mem_cons_self,Option.bind_some]
  dsimp only;rw [zGW,cntI,wrap64_in (n:=(f (y :: ys) : Int) + (x.cnt : Int)) (by omega) (by omega),wrap64_in (n:=(rowD D x f ys : Int) + _) (by omega) (by omega),← Int.natCast_add,← Int.natCast_add,zMT,Nat.add_comm (f (y :: ys)),Nat.add_comm (rowD D x f ys)]
  unfold prI;cases ha : zBE x y with
  | false =>
   simp only [cond_false,sufs,rowD,ha,List.map_cons]
   rw [if_neg (by omega)]
   simp [prI,ha]
  | true =>
   simp only [cond_true]
   rw [if_pos (by omega),wrap64_in (by omega) (by omega),← Int.natCast_add,zMT,Nat.min_comm,Nat.add_comm (f ys)]
   simp [sufs,rowD,ha,prI]
theorem zQr {F : Nd → Nd → Option Int} {b : List Nd} (hb : Nd.cnts b ≤ 1048576) :
  ∀ (a : List Nd),(∀ x ∈ a,∀ y ∈ b,F x y = some (prI x y)) → Nd.cnts a ≤ 1048576 → zAQ F b (b.map cntI) a (a.map cntI) = some (tabD D a b,a.map fun x => b.map (prI x))
 | [],_,_ => by rw [List.map_nil,zAQ,zQq b hb]; rfl
 | x :: xs,h1,ha => by
  simp only [Nd.cnts] at ha;rw [List.map_cons,zAQ,zQr hb xs (fun y hy => h1 y (List.mem_cons_of_mem _ hy)) (by omega),Option.bind_some]
  obtain ⟨r,hr⟩:=zKZ D xs b;rw [hr]
  dsimp only;rw [cntI,zR8 (c:=Nd.cnts xs) (by omega) (by omega) (zJz xs) b (h1 x List.mem_cons_self) hb,Option.bind_some,← hr]
  rfl
theorem zJo {F : List Nd → List Nd → Option (List (List Int) × List (List Int) × List Int × List Int)} {a b : List Nd} (hF : ∀ u ∈ a,∀ v ∈ b,∃ p,F u.kids v.kids = some (tabD D u.kids v.kids,p)) (hl : a.length = b.length) (ha : Nd.cnts a ≤ 1048576) :
  ∀ (q i o : Nat),a.length - i < q → i ≤ a.length → o + sumD DL (a.drop i) (b.drop i) ≤ 4000000 → zBz F a b q (o : Int) (i : Int) = some ((o + sumD DL (a.drop i) (b.drop i) : Nat) : Int)
 | 0,_,_,h,_,_ => by omega
 | q + 1,i,o,hq,hi,ho => by
  have l1:=Nd.cnts_len a;unfold zBz
  by_cases h : i < a.length
  ·have h' : i < b.length :=(by omega);rw [zA8 (Int.ofNat_lt.2 h),cond_true,zBA h,zBA h']
   obtain ⟨p,hf⟩:=hF _ (List.getElem_mem h) _ (List.getElem_mem h')
   have hs:=zQO (f:=DL) h h';rcases e : a[i] with ⟨x1,x2,x3,x4⟩
   rcases e' : b[i] with ⟨y1,y2,y3,y4⟩
   rw [e,e'] at hf hs;simp only [Nd.kids] at hf hs;obtain ⟨r,r1,r2⟩:=zUN D x4 y4;have hd : TD D x4 y4 = DL x4 y4:=rfl;rw [hd] at r2;obtain ⟨p1,p2,p3⟩:=p;simp only [Option.bind_some,hf,r1,r2]
   rw [zAL (by omega),wrap64_in (by omega) (by omega),← Int.natCast_add,zJo hF hl ha q (i + 1) _ (by omega) (by omega) (by omega)]
   congr 2; omega
  ·rw [zA5 (by omega),cond_false]
   obtain rfl : i = a.length :=(by omega);rw [List.drop_length]
   cases List.drop a.length b <;> rfl
theorem zR5 : ∀ N : Nat,(∀ x y : Nd,2 * x.cnt + 2 * y.cnt < N → x.cnt ≤ 1048576 → y.cnt ≤ 1048576 → zBC N x y = some (prI x y)) ∧
  (∀ a b : List Nd,2 * Nd.cnts a + 2 * Nd.cnts b + 2 < N → Nd.cnts a ≤ 1048576 → Nd.cnts b ≤ 1048576 → zBW N a b = some (tabD D a b,(a.map fun x => b.map (prI x)),a.map cntI,b.map cntI))
 | 0 => ⟨fun _ _ h _ _ => by omega,fun _ _ h _ _ => by omega⟩
 | n + 1 => by
  obtain ⟨ih1,ih2⟩:=zR5 n;refine ⟨fun x y h hx hy => ?_,fun a b h ha hb => ?_⟩
  ·have e1:=x.cnt_kids;have e2:=y.cnt_kids;have hle:=zNu x.kids y.kids;have hD:=D_eq x y;have l1:=Nd.cnts_len x.kids;have hF : ∀ u ∈ x.kids,∀ v ∈ y.kids,∃ p,zBW n u.kids v.kids = some (tabD D u.kids v.kids,p):=fun u hu v hv => by
    have:=Nd.cnts_mem hu;have:=Nd.cnts_mem hv;have:=u.cnt_kids;have:=v.cnt_kids;exact ⟨_,ih2 _ _ (by omega) (by omega) (by omega)⟩
   have ht:=zSZ x y;have hal : zBE x y = true → x.kids.length = y.kids.length:=zEd;have hlp : x.kids.length = y.kids.length → _:=fun hl => zJo hF hl (by omega) n 0 (txt x y) (by omega) (by omega) (by simp only [List.drop_zero]; omega)
   rw [show ((0 : Nat) : Int) = 0 from rfl,List.drop_zero,List.drop_zero,← hD] at hlp;obtain ⟨a,b,c,d⟩:=x;obtain ⟨a',b',c',d'⟩:=y;unfold zBC;have e : (bif (!(b == b')) then some 1 else some 0 : Option Int) = some (txt (.mk a b c d) (.mk a' b' c' d') : Int):=by
    unfold txt;simp only [Nd.text]
    cases b == b' <;> rfl
   have e3 : (bif (a != a') then some true else bif (c != c') then some true else some ((d.length : Int) != (d'.length : Int)) : Option Bool) = some (!zBE (.mk a b c d) (.mk a' b' c' d')):=by
    unfold zBE bne;simp only [Nd.kind,Nd.kids,Nd.cols]
    cases a == a' <;> cases c == c' <;> cases ((d.length : Int) == (d'.length : Int)) <;> rfl
   rw [e,e3]
   unfold prI;cases hab : zBE (.mk a b c d) (.mk a' b' c' d') with
   | false => rfl
   | true =>
    simp only [Nd.kids] at hlp hal;simp only [Option.bind_some,Bool.not_true,cond_false,cond_true]
    rw [hlp (hal hab)]; rfl
  ·have l1:=Nd.cnts_len a;have l2:=Nd.cnts_len b;rw [zBW,zQL n a (by omega) ha,zQL n b (by omega) hb,Option.bind_some,Option.bind_some,zBx ⟨by omega,by omega,by simp⟩]
   rw [zQr hb a (fun x hx y hy => ?_) ha]
   ·rfl
   ·have:=Nd.cnts_mem hy;have:=Nd.cnts_mem hx;exact ih1 x y (by omega) (by omega) (by omega)
theorem zMJ (n : Nat) (a b : Nd) (ha : a.w + 45 < n) (ha' : a.w ≤ 67108864) (hb : b.w + 45 < n) (hb' : b.w ≤ 67108864) : zDv n a b = some (zDk a && zDk b):=by
 have e1:=zIc n a ha ha';have e2:=zIc n b hb hb';obtain ⟨a1,a2,a3,a4⟩:=a;obtain ⟨b1,b2,b3,b4⟩:=b;unfold zDv;simp only [e1,e2,Option.bind_some]
 cases zDk (.mk a1 a2 a3 a4) <;> rfl
end Go.Proofs.YtjdhkpdjecegnaaGreatDoor
namespace Go.Proofs.YtjdhkpdjecegnaaGreatDoor
open Go.Abs
theorem zTd (k : Nat) : zFU (k + 60) = some true:=by
 with_unfolding_all rfl
end Go.Proofs.YtjdhkpdjecegnaaGreatDoor
namespace Go.Proofs.YtjdhkpdjecegnaaGreatDoor
open Go.Abs
theorem zUE (n : Nat) (a b : Nd) (h : 130 < n) : ∃ y,zGv n a b = some y ∧ (y = true → a.cnt ≤ 120 ∧ b.cnt ≤ 120):=by
 obtain ⟨y1,h1,h2⟩:=zTU n a 120 (by omega) (by omega)
 obtain ⟨y2,g1,g2⟩:=zTU n b 120 (by omega) (by omega)
 rw [show ((120 : Nat) : Int) = 120 from rfl] at h1 g1;obtain ⟨a1,a2,a3,a4⟩:=a;obtain ⟨b1,b2,b3,b4⟩:=b;unfold zGv;simp only [h1,g1,Option.bind_some]
 cases y1 with
 | false => exact ⟨false,rfl,fun h => by cases h⟩
 | true => exact ⟨y2,rfl,fun h => ⟨h2 rfl,g2 h⟩⟩
end Go.Proofs.YtjdhkpdjecegnaaGreatDoor
namespace Go.Proofs.YtjdhkpdjecegnaaGreatDoor
open Go.Abs
theorem zKo {k : Int} : ∀ {a : List Nd} {v : Nd},zEY k a = true → v ∈ a → zGq v = true ∧ ((v.kind == 1) == (k == 1)) = false
 | u :: a,v,h,hm => by
  simp only [zEY,Bool.and_eq_true,Bool.not_eq_true'] at h;rcases List.mem_cons.1 hm with rfl | hm
  ·exact ⟨h.1.2,h.1.1⟩
  ·exact zKo h.2 hm
theorem zMM {u : Nd} (h : zGq u = true) (hk : u.kind = 1) : u = .mk 1 [] 0 u.kids ∧ zEY 1 u.kids = true:=by
 obtain ⟨k,t,c,ks⟩:=u;simp only [Nd.kind] at hk;subst hk;simp only [zGq,Bool.and_eq_true] at h;obtain ⟨⟨h1,h2⟩,h3⟩:=h;have h1' : (t == []) = true:=h1;have h2' : ((c == 0) && decide ((ks.length : Int) ≤ 200)) = true:=h2;simp only [Bool.and_eq_true] at h2';rw [eq_of_beq h1',eq_of_beq h2'.1]
 exact ⟨rfl,h3⟩
theorem zPa {F : Nd → Nd → Option Bool} {a b : List Nd} (hF : ∀ u ∈ a,∀ v ∈ b,∃ y,F u v = some y ∧ (y = true ↔ u = v)) (hl : a.length = b.length) (hb : a.length ≤ 1073741824) :
  ∀ (q i : Nat),a.length - i < q → i ≤ a.length → ∃ y,zBt F a b q (i : Int) = some (if y then .go () else .ret false) ∧ (y = true ↔ a.drop i = b.drop i)
 | 0,_,h,_ => by omega
 | q + 1,i,hq,hi => by
  unfold zBt
  by_cases h : i < a.length
  ·have h' : i < b.length :=(by omega);rw [zA8 (Int.ofNat_lt.2 h),cond_true,zBA h,zBA h']
   obtain ⟨y,f1,f2⟩:=hF _ (List.getElem_mem h) _ (List.getElem_mem h')
   have d1:=List.drop_eq_getElem_cons h;have d2:=List.drop_eq_getElem_cons h';rcases e : a[i] with ⟨x1,x2,x3,x4⟩
   rcases e' : b[i] with ⟨y1,y2,y3,y4⟩
   rw [e,e'] at f1 f2;rw [e] at d1;rw [e'] at d2;simp only [Option.bind_some,f1]
   cases y with
   | false =>
    refine ⟨false,rfl,⟨(fun h => by cases h),fun h => ?_⟩⟩
    rw [d1,d2] at h;exact f2.2 (List.cons.inj h).1
   | true =>
    simp only [Bool.not_true,cond_false]
    rw [zAL (by omega)]
    obtain ⟨z,g1,g2⟩:=zPa hF hl hb q (i + 1) (by omega) (by omega)
    refine ⟨z,g1,?_⟩
    rw [d1,d2,g2,f2.1 rfl]
    simp
  ·rw [zA5 (by omega),cond_false]
   obtain rfl : i = a.length :=(by omega);refine ⟨true,rfl,?_⟩
   rw [List.drop_length,hl,List.drop_length]
   simp
theorem zQg : ∀ N : Nat,(∀ x y : Nd,2 * x.cnt < N → x.cnt ≤ 67108864 → ∃ r,zCv N x y = some r ∧ (r = true ↔ x = y)) ∧
  (∀ a b : List Nd,2 * Nd.cnts a + 1 < N → Nd.cnts a ≤ 67108864 → ∃ r,zBZ N a b = some r ∧ (r = true ↔ a = b))
 | 0 => ⟨fun _ _ h _ => by omega,fun _ _ h _ => by omega⟩
 | n + 1 => by
  obtain ⟨ih1,ih2⟩:=zQg n;refine ⟨fun x y h hx => ?_,fun a b h ha => ?_⟩
  ·obtain ⟨a,b,c,d⟩:=x;obtain ⟨a',b',c',d'⟩:=y;simp only [Nd.cnt] at h hx;obtain ⟨r,h1,h2⟩:=ih2 d d' (by omega) (by omega)
   unfold zCv;simp only [h1,Option.bind_some]
   cases e1 : a == a' with
   | false => exact ⟨false,rfl,⟨(fun h => by cases h),fun h => by cases h; simp at e1⟩⟩
   | true =>
    cases e2 : b == b' with
    | false => exact ⟨false,rfl,⟨(fun h => by cases h),fun h => by cases h; simp at e2⟩⟩
    | true =>
     cases e3 : c == c' with
     | false => exact ⟨false,rfl,⟨(fun h => by cases h),fun h => by cases h; simp at e3⟩⟩
     | true =>
      refine ⟨r,rfl,h2.trans ⟨fun h => ?_,fun h => by cases h; rfl⟩⟩
      rw [eq_of_beq e1,eq_of_beq e2,eq_of_beq e3,h]
  ·unfold zBZ;have l1:=Nd.cnts_len a
   by_cases hl : a.length = b.length
   ·obtain ⟨y,g1,g2⟩:=zPa (F:=zCv n) (a:=a) (b:=b) (fun u hu v _ => ih1 u v (by have:=Nd.cnts_mem hu; omega) (by have:=Nd.cnts_mem hu; omega)) hl (by omega) n 0 (by omega) (by omega)
    rw [show ((0 : Nat) : Int) = 0 from rfl] at g1;rw [hl,bne_self_eq_false,cond_false,g1]
    refine ⟨y,by cases y <;> rfl,g2⟩
   ·have : ((a.length : Int) != (b.length : Int)) = true:=by
     unfold bne;rw [zFd (by omega)]; rfl
    rw [this]
    exact ⟨false,rfl,⟨(fun h => by cases h),fun h => absurd (congrArg List.length h) hl⟩⟩
theorem zS2 {x : Nd} (h : zDk x = true) : x = .mk 1 [] 0 x.kids ∧ zEY 1 x.kids = true:=by
 unfold zDk at h;simp only [Bool.and_eq_true] at h;exact zMM h.2.1 (eq_of_beq h.1)
end Go.Proofs.YtjdhkpdjecegnaaGreatDoor
namespace Go.Proofs.YtjdhkpdjecegnaaGreatDoor
open Go.Abs
theorem zTv (a b : Nat) : Nat.max a b = if a ≤ b then b else a:=rfl
theorem zMI : ∀ {ks : List Nd} {v : Nd},v ∈ ks → v.dep ≤ Nd.deps ks
 | u :: ks,v,h => by
  simp only [Nd.deps,zTv]
  rcases List.mem_cons.1 h with rfl | h
  ·split <;> omega
  ·have:=zMI h; split <;> omega
end Go.Proofs.YtjdhkpdjecegnaaGreatDoor
namespace Go.Proofs.YtjdhkpdjecegnaaGreatDoor
open Go.Abs
theorem zUa {t : Nd} (h : t.cnt ≤ 1000000000) : zFT t = some t:=zBx h
end Go.Proofs.YtjdhkpdjecegnaaGreatDoor
namespace Go.Proofs.YtjdhkpdjecegnaaGreatDoor
open Go.Abs
abbrev Op8:=Int × List Int × Int × Int × List Nd × Int × List UInt8 × List UInt8
def Op8.nodes (o : Op8) : List Nd:=o.2.2.2.2.1
end Go.Proofs.YtjdhkpdjecegnaaGreatDoor
namespace Go.Proofs.YtjdhkpdjecegnaaGreatDoor
open Go.Abs
def Op8.row (o : Op8) : List Int:=o.2.1
def Op8.text (o : Op8) : List UInt8:=o.2.2.2.2.2.2.2
end Go.Proofs.YtjdhkpdjecegnaaGreatDoor
namespace Go.Proofs.YtjdhkpdjecegnaaGreatDoor
open Go.Abs
theorem cnt_kids (v : Nd) : v.cnt = Nd.cnts v.kids + 1:=by cases v; simp only [Nd.cnt,Nd.kids]; try omega
end Go.Proofs.YtjdhkpdjecegnaaGreatDoor
namespace Go.Proofs.YtjdhkpdjecegnaaGreatDoor
open Go.Abs
def zBi : Nat → Nat → Nat → List Nd → List Nd → List (Nat × Nat)
 | k + 1,i,j,x :: xs,y :: ys =>
  bif zBE x y && (DL (x :: xs) (y :: ys) == DL xs ys + D x y) then (i,j) :: zBi k (i + 1) (j + 1) xs ys
  else bif (DL (x :: xs) (y :: ys) == DL xs (y :: ys) + x.cnt) && (!(DL (x :: xs) (y :: ys) == DL (x :: xs) ys + y.cnt) || Op.bytesLess (zCD x) (zCD y)) then zBi k (i + 1) j xs (y :: ys)
  else zBi k i (j + 1) (x :: xs) ys
 | _,_,_,_,_ => []
theorem zCq (a b : Nat) : ((a : Int) == (b : Int)) = (a == b):=by
 by_cases h : a = b
 ·subst h; simp
 ·rw [beq_eq_false_iff_ne.2 h,beq_eq_false_iff_ne.2 (by omega)]
theorem zRL (a b : Nat) : (a == b) = (b == a):=by
 by_cases h : a = b
 ·subst h; rfl
 ·rw [beq_eq_false_iff_ne.2 h,beq_eq_false_iff_ne.2 (Ne.symm h)]
theorem zPh (P : Nd → Nd → Nat) (b : List Nd) : ∀ (a : List Nd) (i : Nat),i ≤ a.length → at? (tabD P a b) (i : Int) = some (sufs (TD P (a.drop i)) b)
 | [],0,_ => rfl
 | [],i + 1,h => by simp at h
 | x :: xs,0,_ => rfl
 | x :: xs,i + 1,h => by
  have:=zPh P b xs i (by simpa using h)
  unfold at? at this ⊢;rw [if_pos (by omega)] at this ⊢;simp only [Int.toNat_natCast] at this ⊢
  simpa [tabD] using this
theorem zF2 (f : List Nd → Nat) : ∀ (b : List Nd) (j : Nat),j ≤ b.length → at? (sufs f b) (j : Int) = some (f (b.drop j) : Int)
 | [],0,_ => rfl
 | [],j + 1,h => by simp at h
 | y :: ys,0,_ => rfl
 | y :: ys,j + 1,h => by
  have:=zF2 f ys j (by simpa using h)
  unfold at? at this ⊢;rw [if_pos (by omega)] at this ⊢;simp only [Int.toNat_natCast] at this ⊢
  simpa [sufs] using this
theorem zJi {α β : Type} (f : α → β) {l : List α} {i : Nat} (h : i < l.length) : at? (l.map f) (i : Int) = some (f l[i]):=by
 rw [zBA (by simpa using h)]; simp
def zBd (p : Nat × Nat) : Int × Int:=((p.1 : Int),(p.2 : Int))
theorem zGM (n : Nat) {a b : List Nd} (ha : Nd.cnts a ≤ 1000000) (hb : Nd.cnts b ≤ 1000000) (hwa : ∀ x ∈ a,2 * x.w < n ∧ x.w ≤ 16777216 ∧ x.rng) (hwb : ∀ x ∈ b,2 * x.w < n ∧ x.w ≤ 16777216 ∧ x.rng) :
  ∀ (k i j : Nat) (l : List (Int × Int)),(a.length - i) + (b.length - j) < k → i ≤ a.length → j ≤ b.length → l.length ≤ i →
   zBq n a b (tabD D a b) (a.map fun x => b.map (prI x)) (a.map cntI) (b.map cntI) k (i : Int) (j : Int) l = some (l ++ (zBi k i j (a.drop i) (b.drop j)).map zBd)
 | 0,_,_,_,h,_,_,_ => by omega
 | k + 1,i,j,l,hk,hi,hj,hl => by
  have la:=Nd.cnts_len a;have lb:=Nd.cnts_len b;unfold zBq
  by_cases hia : i < a.length
  ·rw [zA8 (Int.ofNat_lt.2 hia),cond_true]
   by_cases hjb : j < b.length
   ·rw [zA8 (Int.ofNat_lt.2 hjb),Option.bind_some,cond_true]
    have hda:=List.drop_eq_getElem_cons hia;have hdb:=List.drop_eq_getElem_cons hjb;have ca:=Nd.cnts_drop hia;have cb:=Nd.cnts_drop hjb;obtain ⟨x1,x2,x3⟩:=hwa _ (List.getElem_mem hia)
    obtain ⟨y1,y2,y3⟩:=hwb _ (List.getElem_mem hjb)
    have ca' : Nd.cnts (a.drop i) ≤ Nd.cnts a:=by
     have:=Nd.cnts_append (a.take i) (a.drop i); rw [List.take_append_drop] at this; omega
    have cb' : Nd.cnts (b.drop j) ≤ Nd.cnts b:=by
     have:=Nd.cnts_append (b.take j) (b.drop j); rw [List.take_append_drop] at this; omega
    have b1:=zJz (P:=D) (a.drop i) (b.drop j)
    have b2:=zJz (P:=D) (a.drop (i + 1)) (b.drop j)
    have b3:=zJz (P:=D) (a.drop i) (b.drop (j + 1))
    have b4:=zJz (P:=D) (a.drop (i + 1)) (b.drop (j + 1))
    have b5:=D_le a[i] b[j];have t1:=zPh D b a i (by omega)
    have t2:=zPh D b a (i + 1) (by omega)
    have s1:=zF2 (TD D (a.drop i)) b j (by omega)
    have s2:=zF2 (TD D (a.drop (i + 1))) b j (by omega)
    have s3:=zF2 (TD D (a.drop i)) b (j + 1) (by omega)
    have s4:=zF2 (TD D (a.drop (i + 1))) b (j + 1) (by omega)
    have p1:=zJi (fun x => b.map (prI x)) hia;have p2:=zJi (prI a[i]) hjb;have c1:=zJi cntI hia;have c2:=zJi cntI hjb;have d1:=zJj n a[i] x1 x2 x3;have d2:=zJj n b[j] y1 y2 y3;rw [zAL (by omega),zAL (by omega)]
    simp only [t1,t2,s1,s2,s3,s4,p1,p2,c1,c2,Option.bind_some,zBA hia,zBA hjb]
    have hx : (bif decide (0 ≤ prI a[i] b[j]) then some ((TD D (a.drop i) (b.drop j) : Int) == IntKind.i64.wrap ((TD D (a.drop (i + 1)) (b.drop (j + 1)) : Int) + prI a[i] b[j])) else some false : Option Bool) = some (zBE a[i] b[j] && (DL (a[i] :: a.drop (i + 1)) (b[j] :: b.drop (j + 1)) == DL (a.drop (i + 1)) (b.drop (j + 1)) + D a[i] b[j])):=by
     unfold prI;cases hal : zBE a[i] b[j] with
     | false => rfl
     | true =>
      rw [cond_true,zA8 (by omega),cond_true,wrap64_in (by omega) (by omega),← Int.natCast_add,zCq,← hda,← hdb]; rfl
    rw [hx,Option.bind_some,hda,hdb,zBi]
    cases zBE a[i] b[j] && (DL (a[i] :: a.drop (i + 1)) (b[j] :: b.drop (j + 1)) == DL (a.drop (i + 1)) (b.drop (j + 1)) + D a[i] b[j]) with
    | true =>
     simp only [cond_true]
     rw [zBx (by simp; omega),zGM n ha hb hwa hwb k (i + 1) (j + 1) _ (by omega) (by omega) (by omega) (by simp; omega)]
     simp [zBd]
    | false =>
     simp only [cond_false]
     rw [← hda,← hdb,cntI,wrap64_in (by omega) (by omega),← Int.natCast_add,zCq,cntI,wrap64_in (by omega) (by omega),← Int.natCast_add,zCq]
     have hz : ∀ X : Option Bool,X = some ((DL (a.drop i) (b.drop j) == DL (a.drop (i + 1)) (b.drop j) + a[i].cnt) && (!(DL (a.drop i) (b.drop j) == DL (a.drop i) (b.drop (j + 1)) + b[j].cnt) || Op.bytesLess (zCD a[i]) (zCD b[j]))) → ∀ K : Bool → Option (List (Int × Int)),X.bind K = K ((DL (a.drop i) (b.drop j) == DL (a.drop (i + 1)) (b.drop j) + a[i].cnt) && (!(DL (a.drop i) (b.drop j) == DL (a.drop i) (b.drop (j + 1)) + b[j].cnt) || Op.bytesLess (zCD a[i]) (zCD b[j]))):=fun X h K => by rw [h]; rfl
     refine (hz _ ?_ _).trans ?_
     ·have key : ∀ (p q r : Bool),(bif p then (bif !q then some true else some r) else some false : Option Bool) = some (p && (!q || r)) :=(by intro p q r; cases p <;> cases q <;> rfl);rcases e : a[i] with ⟨e1,e2,e3,e4⟩
      rcases e' : b[j] with ⟨f1,f2,f3,f4⟩
      rw [e] at d1;rw [e'] at d2;simp only [d1,d2,Option.bind_some]
      exact key _ _ _
     cases ((DL (a.drop i) (b.drop j) == DL (a.drop (i + 1)) (b.drop j) + a[i].cnt) && (!(DL (a.drop i) (b.drop j) == DL (a.drop i) (b.drop (j + 1)) + b[j].cnt) || Op.bytesLess (zCD a[i]) (zCD b[j]))) with
     | true =>
      simp only [cond_true]
      rw [zGM n ha hb hwa hwb k (i + 1) j _ (by omega) (by omega) (by omega) (by omega)]
     | false =>
      simp only [cond_false]
      rw [zGM n ha hb hwa hwb k i (j + 1) _ (by omega) (by omega) (by omega) (by omega)]
   ·rw [zA5 (by omega),Option.bind_some,cond_false]
    obtain rfl : j = b.length :=(by omega);rw [List.drop_length]
    cases a.drop i <;> simp [zBi]
  ·rw [zA5 (by omega),cond_false,Option.bind_some,cond_false]
   obtain rfl : i = a.length :=(by omega);rw [List.drop_length]
   simp [zBi]
theorem zFZ (n : Nat) {a b : List Nd} (hn : 2 * Nd.cnts a + 2 * Nd.cnts b + 2 < n) (ha : Nd.cnts a ≤ 1000000) (hb : Nd.cnts b ≤ 1000000) (hwa : ∀ x ∈ a,x.w + 40 < n ∧ x.w ≤ 16777216 ∧ x.rng) (hwb : ∀ x ∈ b,x.w + 40 < n ∧ x.w ≤ 16777216 ∧ x.rng) :
  ∀ (k i j : Nat) (l : List (Int × Int)),(a.length - i) + (b.length - j) < k → i ≤ a.length → j ≤ b.length → l.length ≤ i →
   zA7 n a b (tabD D a b) k (i : Int) (j : Int) l = some (l ++ (zBi k i j (a.drop i) (b.drop j)).map zBd)
 | 0,_,_,_,h,_,_,_ => by omega
 | k + 1,i,j,l,hk,hi,hj,hl => by
  have la:=Nd.cnts_len a;have lb:=Nd.cnts_len b;unfold zA7
  by_cases hia : i < a.length
  ·rw [zA8 (Int.ofNat_lt.2 hia),cond_true]
   by_cases hjb : j < b.length
   ·rw [zA8 (Int.ofNat_lt.2 hjb),Option.bind_some,cond_true]
    have hda:=List.drop_eq_getElem_cons hia;have hdb:=List.drop_eq_getElem_cons hjb;have ca:=Nd.cnts_drop hia;have cb:=Nd.cnts_drop hjb;obtain ⟨x1,x2,x3⟩:=hwa _ (List.getElem_mem hia)
    obtain ⟨y1,y2,y3⟩:=hwb _ (List.getElem_mem hjb)
    have mx:=Nd.cnts_mem (List.getElem_mem hia)
    have my:=Nd.cnts_mem (List.getElem_mem hjb)
    have ca' : Nd.cnts (a.drop i) ≤ Nd.cnts a:=by
     have:=Nd.cnts_append (a.take i) (a.drop i); rw [List.take_append_drop] at this; omega
    have cb' : Nd.cnts (b.drop j) ≤ Nd.cnts b:=by
     have:=Nd.cnts_append (b.take j) (b.drop j); rw [List.take_append_drop] at this; omega
    have b1:=zJz (P:=D) (a.drop i) (b.drop j)
    have b2:=zJz (P:=D) (a.drop (i + 1)) (b.drop j)
    have b3:=zJz (P:=D) (a.drop i) (b.drop (j + 1))
    have b4:=zJz (P:=D) (a.drop (i + 1)) (b.drop (j + 1))
    have b5:=D_le a[i] b[j];have t1:=zPh D b a i (by omega)
    have t2:=zPh D b a (i + 1) (by omega)
    have s1:=zF2 (TD D (a.drop i)) b j (by omega)
    have s2:=zF2 (TD D (a.drop (i + 1))) b j (by omega)
    have s3:=zF2 (TD D (a.drop i)) b (j + 1) (by omega)
    have s4:=zF2 (TD D (a.drop (i + 1))) b (j + 1) (by omega)
    have d1:=zHD n a[i] x1 x2 x3;have d2:=zHD n b[j] y1 y2 y3;have k1:=zDz n a[i] (by omega) (by omega)
    have k2:=zDz n b[j] (by omega) (by omega)
    have al:=zQf a[i] b[j];have pr:=(zSA n).1 a[i] b[j];have hP : ∀ (x y : Nd),x = a[i] → y = b[j] → zA7 n a b (tabD D a b) (k + 1) (i : Int) (j : Int) l = some (l ++ (zBi (k + 1) i j (a.drop i) (b.drop j)).map zBd) → True:=fun _ _ _ _ _ => trivial
    clear hP
    rw [zAL (by omega),zAL (by omega)]
    simp only [t1,t2,s1,s2,s3,s4,Option.bind_some,zBA hia,zBA hjb]
    have fin : ∀ (A B C : Bool),A = (zBE a[i] b[j] && (DL (a[i] :: a.drop (i + 1)) (b[j] :: b.drop (j + 1)) == DL (a.drop (i + 1)) (b.drop (j + 1)) + D a[i] b[j])) →
      B = ((DL (a[i] :: a.drop (i + 1)) (b[j] :: b.drop (j + 1)) == DL (a.drop (i + 1)) (b[j] :: b.drop (j + 1)) + a[i].cnt) && (!(DL (a[i] :: a.drop (i + 1)) (b[j] :: b.drop (j + 1)) == DL (a[i] :: a.drop (i + 1)) (b.drop (j + 1)) + b[j].cnt) || Op.bytesLess (zCD a[i]) (zCD b[j]))) →
      (bif A then req (l.length + [((i : Int),(j : Int))].length ≤ 4294967296) (zA7 n a b (tabD D a b) k ((i + 1 : Nat) : Int) ((j + 1 : Nat) : Int) (l ++ [((i : Int),(j : Int))]))
       else bif B then zA7 n a b (tabD D a b) k ((i + 1 : Nat) : Int) (j : Int) l else zA7 n a b (tabD D a b) k (i : Int) ((j + 1 : Nat) : Int) l) = some (l ++ (zBi (k + 1) i j (a.drop i) (b.drop j)).map zBd):=fun A B C hA hB => by
     rw [hda,hdb,zBi,← hA,← hB]
     cases A with
     | true =>
      simp only [cond_true]
      rw [zBx (by simp; omega),zFZ n hn ha hb hwa hwb k (i + 1) (j + 1) _ (by omega) (by omega) (by omega) (by simp; omega)]
      simp [zBd]
     | false =>
      cases B with
      | true =>
       simp only [cond_true,cond_false]
       rw [zFZ n hn ha hb hwa hwb k (i + 1) j _ (by omega) (by omega) (by omega) (by omega),← hdb]
      | false =>
       simp only [cond_false]
       rw [zFZ n hn ha hb hwa hwb k i (j + 1) _ (by omega) (by omega) (by omega) (by omega),← hda]
    rw [← hda,← hdb] at fin;rcases e : a[i] with ⟨e1,e2,e3,e4⟩
    rcases e' : b[j] with ⟨f1,f2,f3,f4⟩
    rw [e] at d1 k1 mx ca b5;rw [e'] at d2 k2 my cb b5;rw [e,e'] at al pr fin;simp only [k1,k2,d1,d2,al,Option.bind_some]
    rw [wrap64_in (by omega) (by omega),← Int.natCast_add,zCq,wrap64_in (by omega) (by omega),← Int.natCast_add,zCq]
    have hA : (bif zBE (.mk e1 e2 e3 e4) (.mk f1 f2 f3 f4) then (zB2 n (.mk e1 e2 e3 e4) (.mk f1 f2 f3 f4)).bind fun y44 => some (IntKind.i64.wrap (y44 + (TD D (a.drop (i + 1)) (b.drop (j + 1)) : Int)) == (TD D (a.drop i) (b.drop j) : Int)) else some false : Option Bool) = some (zBE (.mk e1 e2 e3 e4) (.mk f1 f2 f3 f4) && (DL (a.drop i) (b.drop j) == DL (a.drop (i + 1)) (b.drop (j + 1)) + D (.mk e1 e2 e3 e4) (.mk f1 f2 f3 f4))):=by
     cases hal : zBE (.mk e1 e2 e3 e4) (.mk f1 f2 f3 f4) with
     | false => rfl
     | true =>
      rw [cond_true,pr hal (by omega) (by omega) (by omega),Option.bind_some,wrap64_in (by omega) (by omega),← Int.natCast_add,zCq,zRL,Nat.add_comm]; rfl
    rw [hA,Option.bind_some]
    have hB : (bif (TD D (a.drop (i + 1)) (b.drop j) + 0 == 0) then some true else some false : Option Bool) = (bif (TD D (a.drop (i + 1)) (b.drop j) + 0 == 0) then some true else some false : Option Bool):=rfl
    clear hB
    have key : ∀ (p q r : Bool) (Y N : Option (List (Int × Int))),((bif p then (bif !q then some true else some r) else some false : Option Bool).bind fun x => bif x then Y else N) = bif (p && (!q || r)) then Y else N :=(by intro p q r Y N; cases p <;> cases q <;> cases r <;> rfl);refine Eq.trans ?_ (fin _ _ true rfl rfl)
    congr 1
    rw [key,zRL,Nat.add_comm (Nd.mk e1 e2 e3 e4).cnt,zRL (_ + TD D (a.drop i) (b.drop (j + 1))),Nat.add_comm (Nd.mk f1 f2 f3 f4).cnt]
    rfl
   ·rw [zA5 (by omega),Option.bind_some,cond_false]
    obtain rfl : j = b.length :=(by omega);rw [List.drop_length]
    cases a.drop i <;> simp [zBi]
  ·rw [zA5 (by omega),cond_false,Option.bind_some,cond_false]
   obtain rfl : i = a.length :=(by omega);rw [List.drop_length]
   simp [zBi]
theorem zGL : ∀ (k i j : Nat) (a b : List Nd),(zBi k i j a b).length ≤ a.length
 | 0,_,_,_,_ => by simp [zBi]
 | k + 1,i,j,[],_ => by simp [zBi]
 | k + 1,i,j,_ :: _,[] => by simp [zBi]
 | k + 1,i,j,x :: xs,y :: ys => by
  have h1:=zGL k (i + 1) (j + 1) xs ys;have h2:=zGL k (i + 1) j xs (y :: ys)
  have h3:=zGL k i (j + 1) (x :: xs) ys;simp only [zBi]
  cases zBE x y && (DL (x :: xs) (y :: ys) == DL xs ys + D x y) <;> cases (DL (x :: xs) (y :: ys) == DL xs (y :: ys) + x.cnt) && (!(DL (x :: xs) (y :: ys) == DL (x :: xs) ys + y.cnt) || Op.bytesLess (zCD x) (zCD y)) <;>
   simp only [cond_true,cond_false,List.length_cons] at * <;> omega
theorem zGT {t x : Nd} (hr : t.rng) (h : x ∈ t.kids) : x.rng:=by
 obtain ⟨a,b,c,ks⟩:=t;exact Nd.rng_mem hr.2.2 h
end Go.Proofs.YtjdhkpdjecegnaaGreatDoor
namespace Go.Proofs.YtjdhkpdjecegnaaGreatDoor
open Go.Abs
def zGY (p : List Int) (i : Nat) (x : Nd) : Op8:=(2,p,(i : Int),0,[x],0,[],[])
def zF7 (p : List Int) (j : Nat) (y : Nd) : Op8:=(1,p,(j : Int),0,[y],0,[],[])
def zIS (p : List Int) (j : Nat) (old text : List UInt8) : Op8:=(5,p,(j : Int),0,[],0,old,text)
inductive Mv where | mat | del | ins
inductive Sc : List Mv → List Nd → List Nd → Prop
 | nil : Sc [] [] []
 | mat {s : List Mv} {x y : Nd} {xs ys : List Nd} (ha : zBE x y = true) (h : Sc s xs ys) : Sc (.mat :: s) (x :: xs) (y :: ys)
 | del {s : List Mv} {x : Nd} {xs b : List Nd} (h : Sc s xs b) : Sc (.del :: s) (x :: xs) b
 | ins {s : List Mv} {y : Nd} {a ys : List Nd} (h : Sc s a ys) : Sc (.ins :: s) a (y :: ys)
abbrev RowO:=List Int → List Nd → List Nd → List Op8
def zB1 (G : RowO) (p : List Int) (i : Nat) : Nat → List Nd → List Nd → List Op8
 | s,u :: us,v :: vs => zB1 G p i (s + 1) us vs ++ G (p ++ [(i : Int),(s : Int)]) u.kids v.kids
 | _,_,_ => []
def zEW (G : RowO) (p : List Int) : Nat → List Mv → List Nd → List Nd → List Op8
 | i,.mat :: s,x :: xs,y :: ys => zEW G p (i + 1) s xs ys ++ zB1 G p i 0 x.kids y.kids
 | i,.del :: s,x :: xs,b => zEW G p (i + 1) s xs b ++ [zGY p i x]
 | i,.ins :: s,a,_ :: ys => zEW G p i s a ys
 | _,_,_,_ => []
end Go.Proofs.YtjdhkpdjecegnaaGreatDoor
namespace Go.Proofs.YtjdhkpdjecegnaaGreatDoor
open Go.Abs
def setO (p : List Int) (j : Nat) (x y : Nd) : List Op8:=if x.text = y.text then [] else [zIS p j x.text y.text]
def zCf (G : RowO) (p : List Int) (j : Nat) : Nat → List Nd → List Nd → List Op8
 | s,u :: us,v :: vs => G (p ++ [(j : Int),(s : Int)]) u.kids v.kids ++ zCf G p j (s + 1) us vs
 | _,_,_ => []
def zEV (G : RowO) (p : List Int) : Nat → List Mv → List Nd → List Nd → List Op8
 | j,.mat :: s,x :: xs,y :: ys => setO p j x y ++ (zCf G p j 0 x.kids y.kids ++ zEV G p (j + 1) s xs ys)
 | j,.del :: s,_ :: xs,b => zEV G p j s xs b
 | j,.ins :: s,a,y :: ys => zF7 p j y :: zEV G p (j + 1) s a ys
 | _,_,_,_ => []
end Go.Proofs.YtjdhkpdjecegnaaGreatDoor
namespace Go.Proofs.YtjdhkpdjecegnaaGreatDoor
open Go.Abs
def scr : Nat → List Nd → List Nd → List Mv
 | 0,_,_ => []
 | k + 1,[],b => b.map fun _ => .ins
 | k + 1,x :: xs,[] => (x :: xs).map fun _ => .del
 | k + 1,x :: xs,y :: ys =>
  bif zBE x y && (DL (x :: xs) (y :: ys) == DL xs ys + D x y) then .mat :: scr k xs ys
  else bif (DL (x :: xs) (y :: ys) == DL xs (y :: ys) + x.cnt) && (!(DL (x :: xs) (y :: ys) == DL (x :: xs) ys + y.cnt) || Op.bytesLess (zCD x) (zCD y)) then .del :: scr k xs (y :: ys)
  else .ins :: scr k (x :: xs) ys
theorem zT0 : ∀ b : List Nd,Sc (b.map fun _ => .ins) [] b
 | [] => .nil
 | _ :: ys => .ins (zT0 ys)
theorem zTZ : ∀ a : List Nd,Sc (a.map fun _ => .del) a []
 | [] => .nil
 | _ :: xs => .del (zTZ xs)
theorem zQJ : ∀ (k : Nat) (a b : List Nd),a.length + b.length < k → Sc (scr k a b) a b
 | 0,_,_,h => by omega
 | k + 1,[],b,_ => by unfold scr; exact zT0 b
 | k + 1,x :: xs,[],_ => by unfold scr; exact zTZ (x :: xs)
 | k + 1,x :: xs,y :: ys,h => by
  simp only [List.length_cons] at h;unfold scr;cases h1 : (zBE x y && (DL (x :: xs) (y :: ys) == DL xs ys + D x y)) with
  | true =>
   rw [cond_true]
   simp only [Bool.and_eq_true] at h1;exact .mat h1.1 (zQJ k xs ys (by omega))
  | false =>
   rw [cond_false]
   generalize ((DL (x :: xs) (y :: ys) == DL xs (y :: ys) + x.cnt) && (!(DL (x :: xs) (y :: ys) == DL (x :: xs) ys + y.cnt) || Op.bytesLess (zCD x) (zCD y))) = c;cases c with
   | true => exact .del (zQJ k xs (y :: ys) (by simp only [List.length_cons]; omega))
   | false => exact .ins (zQJ k (x :: xs) ys (by simp only [List.length_cons]; omega))
def sK (a b : List Nd) : List Mv:=scr (a.length + b.length + 1) a b
theorem zO9 (a b : List Nd) : Sc (sK a b) a b:=zQJ _ _ _ (Nat.lt_succ_self _)
def zDs : Nat → RowO
 | 0,_,_,_ => []
 | N + 1,p,a,b => zEW (zDs N) p 0 (sK a b) a b
def zDE : Nat → RowO
 | 0,_,_,_ => []
 | N + 1,p,a,b => zEV (zDE N) p 0 (sK a b) a b
theorem zQ9 {a : List Nd} {x u : Nd} (hx : x ∈ a) (hu : u ∈ x.kids) : Nd.cnts u.kids + 2 ≤ Nd.cnts a:=by
 have h1:=Nd.cnts_mem hx;have h2:=Nd.cnts_mem hu;have e1:=x.cnt_kids;have e2:=u.cnt_kids
 omega
def opsK (a b : Nd) : List Op8:=zDs 130 [] a.kids b.kids ++ zDE 130 [] a.kids b.kids
end Go.Proofs.YtjdhkpdjecegnaaGreatDoor
namespace Go.Proofs.YtjdhkpdjecegnaaGreatDoor
open Go.Abs
def opw (o : Op8) : Nat:=Nd.ws o.nodes + o.text.length + 4
def sw : List Op8 → Nat
 | [] => 0
 | o :: l => opw o + sw l
theorem zMj : ∀ a b : List Op8,sw (a ++ b) = sw a + sw b
 | [],b => by simp [sw]
 | o :: a,b => by simp only [List.cons_append,sw,zMj a b]; omega
theorem zSX : ∀ l : List Op8,4 * l.length ≤ sw l
 | [] => Nat.zero_le _
 | o :: l => by
  have:=zSX l;simp only [List.length_cons,sw,opw]
  omega
theorem zUL {x : Nd} {p : List Int} {i : Nat} : sw [zGY p i x] = x.w + 5:=by
 simp [sw,opw,zGY,Op8.nodes,Op8.text,Nd.ws]
theorem zT1 {x : Nd} {p : List Int} {i : Nat} : opw (zF7 p i x) = x.w + 5:=by
 simp [opw,zF7,Op8.nodes,Op8.text,Nd.ws]
theorem zUM (p : List Int) (j : Nat) (x y : Nd) : sw (setO p j x y) ≤ y.text.length + 4:=by
 unfold setO;split
 ·exact Nat.zero_le _
 ·simp [sw,opw,zIS,Op8.nodes,Op8.text,Nd.ws]
theorem zK3 {v : Nd} : v.w = v.text.length + Nd.ws v.kids + 1:=by cases v; rfl
theorem zPg {G : RowO} {p : List Int} {i : Nat} : ∀ (s : Nat) (us vs : List Nd),(∀ u ∈ us,∀ v p,sw (G p u.kids v) ≤ 5 * Nd.ws u.kids) → sw (zB1 G p i s us vs) ≤ 5 * Nd.ws us
 | _,[],vs,_ => by simp only [zB1,sw]; omega
 | _,_ :: _,[],_ => by simp only [zB1,sw]; omega
 | s,u :: us,v :: vs,h => by
  have h1:=h u List.mem_cons_self v.kids (p ++ [(i : Int),(s : Int)])
  have h2:=zPg (G:=G) (p:=p) (i:=i) (s + 1) us vs fun u hu => h u (List.mem_cons_of_mem _ hu)
  have e:=zK3 (v:=u)
  simp only [zB1,zMj,Nd.ws]
  omega
theorem zPf {G : RowO} {p : List Int} {i : Nat} : ∀ (s : Nat) (us vs : List Nd),(∀ v ∈ vs,∀ u p,sw (G p u v.kids) ≤ 5 * Nd.ws v.kids) → sw (zCf G p i s us vs) ≤ 5 * Nd.ws vs
 | _,[],vs,_ => by simp only [zCf,sw]; omega
 | _,_ :: _,[],_ => by simp only [zCf,sw]; omega
 | s,u :: us,v :: vs,h => by
  have h1:=h v List.mem_cons_self u.kids (p ++ [(i : Int),(s : Int)])
  have h2:=zPf (G:=G) (p:=p) (i:=i) (s + 1) us vs fun u hu => h u (List.mem_cons_of_mem _ hu)
  have e:=zK3 (v:=v)
  simp only [zCf,zMj,Nd.ws]
  omega
theorem zUs {G : RowO} {p : List Int} {s : List Mv} {a b : List Nd} (hs : Sc s a b) : (∀ x ∈ a,∀ u ∈ x.kids,∀ v p,sw (G p u.kids v) ≤ 5 * Nd.ws u.kids) → ∀ i,sw (zEW G p i s a b) ≤ 5 * Nd.ws a:=by
 induction hs with
 | nil => intro _ i; exact Nat.zero_le _
 | @mat s x y xs ys ha _ ih =>
  intro h i;have h1:=ih (fun x hx => h x (List.mem_cons_of_mem _ hx)) (i + 1)
  have h2:=zPg (G:=G) (p:=p) (i:=i) 0 x.kids y.kids (h x List.mem_cons_self)
  have e:=zK3 (v:=x)
  simp only [zEW,zMj,Nd.ws]
  omega
 | @del s x xs b _ ih =>
  intro h i;have h1:=ih (fun x hx => h x (List.mem_cons_of_mem _ hx)) (i + 1)
  simp only [zEW,zMj,zUL,Nd.ws]
  omega
 | @ins s y a ys _ ih => intro h i; exact ih h i
theorem zUr {G : RowO} {p : List Int} {s : List Mv} {a b : List Nd} (hs : Sc s a b) : (∀ y ∈ b,∀ v ∈ y.kids,∀ u p,sw (G p u v.kids) ≤ 5 * Nd.ws v.kids) → ∀ j,sw (zEV G p j s a b) ≤ 5 * Nd.ws b:=by
 induction hs with
 | nil => intro _ i; exact Nat.zero_le _
 | @mat s x y xs ys ha _ ih =>
  intro h j;have h1:=ih (fun x hx => h x (List.mem_cons_of_mem _ hx)) (j + 1)
  have h2:=zPf (G:=G) (p:=p) (i:=j) 0 x.kids y.kids (h y List.mem_cons_self)
  have h3:=zUM p j x y;have e:=zK3 (v:=y)
  simp only [zEV,zMj,Nd.ws]
  omega
 | @del s x xs b _ ih => intro h j; exact ih h j
 | @ins s y a ys _ ih =>
  intro h j;have h1:=ih (fun x hx => h x (List.mem_cons_of_mem _ hx)) (j + 1)
  have e:=zT1 (x:=y) (p:=p) (i:=j)
  simp only [zEV,sw,Nd.ws]
  omega
theorem zPe : ∀ (N : Nat) (p : List Int) (a b : List Nd),sw (zDs N p a b) ≤ 5 * Nd.ws a
 | 0,_,_,_ => Nat.zero_le _
 | N + 1,p,a,b => by
  unfold zDs;exact zUs (zO9 a b) (fun x _ u _ v q => zPe N q u.kids v) 0
theorem zPd : ∀ (N : Nat) (p : List Int) (a b : List Nd),sw (zDE N p a b) ≤ 5 * Nd.ws b
 | 0,_,_,_ => Nat.zero_le _
 | N + 1,p,a,b => by
  unfold zDE;exact zUr (zO9 a b) (fun y _ v _ u q => zPd N q u v.kids) 0
theorem zOq {G : RowO} {p : List Int} {i : Nat} {o : Op8} : ∀ (s : Nat) (us vs : List Nd),o ∈ zB1 G p i s us vs → ∃ u ∈ us,∃ v ∈ vs,∃ q,o ∈ G q u.kids v.kids
 | _,[],_,h => by simp only [zB1] at h; cases h
 | _,_ :: _,[],h => by simp only [zB1] at h; cases h
 | s,u :: us,v :: vs,h => by
  simp only [zB1] at h;rcases List.mem_append.1 h with h | h
  ·obtain ⟨u',h1,v',h2,q,h3⟩:=zOq (s + 1) us vs h;exact ⟨u',List.mem_cons_of_mem _ h1,v',List.mem_cons_of_mem _ h2,q,h3⟩
  ·exact ⟨u,List.mem_cons_self,v,List.mem_cons_self,_,h⟩
theorem zOp {G : RowO} {p : List Int} {i : Nat} {o : Op8} : ∀ (s : Nat) (us vs : List Nd),o ∈ zCf G p i s us vs → ∃ u ∈ us,∃ v ∈ vs,∃ q,o ∈ G q u.kids v.kids
 | _,[],_,h => by simp only [zCf] at h; cases h
 | _,_ :: _,[],h => by simp only [zCf] at h; cases h
 | s,u :: us,v :: vs,h => by
  simp only [zCf] at h;rcases List.mem_append.1 h with h | h
  ·exact ⟨u,List.mem_cons_self,v,List.mem_cons_self,_,h⟩
  ·obtain ⟨u',h1,v',h2,q,h3⟩:=zOp (s + 1) us vs h;exact ⟨u',List.mem_cons_of_mem _ h1,v',List.mem_cons_of_mem _ h2,q,h3⟩
theorem zSb {G : RowO} {p : List Int} {s : List Mv} {a b : List Nd} {o : Op8} (hs : Sc s a b) : ∀ i,o ∈ zEW G p i s a b → (∃ x ∈ a,∃ i,o = zGY p i x) ∨ ∃ x ∈ a,∃ y ∈ b,∃ u ∈ x.kids,∃ v ∈ y.kids,∃ q,o ∈ G q u.kids v.kids:=by
 induction hs with
 | nil => intro i h; simp only [zEW] at h; cases h
 | @mat s x y xs ys ha _ ih =>
  intro i h;simp only [zEW] at h;rcases List.mem_append.1 h with h | h
  ·rcases ih _ h with ⟨z,h1,h2⟩ | ⟨z,h1,w,h2,h3⟩
   ·exact .inl ⟨z,List.mem_cons_of_mem _ h1,h2⟩
   ·exact .inr ⟨z,List.mem_cons_of_mem _ h1,w,List.mem_cons_of_mem _ h2,h3⟩
  ·obtain ⟨u,h1,v,h2,q,h3⟩:=zOq 0 _ _ h;exact .inr ⟨x,List.mem_cons_self,y,List.mem_cons_self,u,h1,v,h2,q,h3⟩
 | @del s x xs b _ ih =>
  intro i h;simp only [zEW] at h;rcases List.mem_append.1 h with h | h
  ·rcases ih _ h with ⟨z,h1,h2⟩ | ⟨z,h1,w,h2,h3⟩
   ·exact .inl ⟨z,List.mem_cons_of_mem _ h1,h2⟩
   ·exact .inr ⟨z,List.mem_cons_of_mem _ h1,w,h2,h3⟩
  ·exact .inl ⟨x,List.mem_cons_self,i,List.mem_singleton.1 h⟩
 | @ins s y a ys _ ih =>
  intro i h;rcases ih _ h with ⟨z,h1,h2⟩ | ⟨z,h1,w,h2,h3⟩
  ·exact .inl ⟨z,h1,h2⟩
  ·exact .inr ⟨z,h1,w,List.mem_cons_of_mem _ h2,h3⟩
theorem zSa {G : RowO} {p : List Int} {s : List Mv} {a b : List Nd} {o : Op8} (hs : Sc s a b) : ∀ j,o ∈ zEV G p j s a b → (∃ y ∈ b,∃ j,o = zF7 p j y) ∨ (∃ x ∈ a,∃ y ∈ b,∃ j,o = zIS p j x.text y.text) ∨ ∃ x ∈ a,∃ y ∈ b,∃ u ∈ x.kids,∃ v ∈ y.kids,∃ q,o ∈ G q u.kids v.kids:=by
 induction hs with
 | nil => intro i h; simp only [zEV] at h; cases h
 | @mat s x y xs ys ha _ ih =>
  intro j h;simp only [zEV] at h;rcases List.mem_append.1 h with h | h
  ·unfold setO at h;split at h
   ·cases h
   ·exact .inr (.inl ⟨x,List.mem_cons_self,y,List.mem_cons_self,j,List.mem_singleton.1 h⟩)
  ·rcases List.mem_append.1 h with h | h
   ·obtain ⟨u,h1,v,h2,q,h3⟩:=zOp 0 _ _ h;exact .inr (.inr ⟨x,List.mem_cons_self,y,List.mem_cons_self,u,h1,v,h2,q,h3⟩)
   ·rcases ih _ h with ⟨z,h1,h2⟩ | ⟨z,h1,w,h2,h3⟩ | ⟨z,h1,w,h2,h3⟩
    ·exact .inl ⟨z,List.mem_cons_of_mem _ h1,h2⟩
    ·exact .inr (.inl ⟨z,List.mem_cons_of_mem _ h1,w,List.mem_cons_of_mem _ h2,h3⟩)
    ·exact .inr (.inr ⟨z,List.mem_cons_of_mem _ h1,w,List.mem_cons_of_mem _ h2,h3⟩)
 | @del s x xs b _ ih =>
  intro j h;rcases ih _ h with ⟨z,h1,h2⟩ | ⟨z,h1,w,h2,h3⟩ | ⟨z,h1,w,h2,h3⟩
  ·exact .inl ⟨z,h1,h2⟩
  ·exact .inr (.inl ⟨z,List.mem_cons_of_mem _ h1,w,h2,h3⟩)
  ·exact .inr (.inr ⟨z,List.mem_cons_of_mem _ h1,w,h2,h3⟩)
 | @ins s y a ys _ ih =>
  intro j h;simp only [zEV] at h;rcases List.mem_cons.1 h with h | h
  ·exact .inl ⟨y,List.mem_cons_self,j,h⟩
  ·rcases ih _ h with ⟨z,h1,h2⟩ | ⟨z,h1,w,h2,h3⟩ | ⟨z,h1,w,h2,h3⟩
   ·exact .inl ⟨z,List.mem_cons_of_mem _ h1,h2⟩
   ·exact .inr (.inl ⟨z,h1,w,List.mem_cons_of_mem _ h2,h3⟩)
   ·exact .inr (.inr ⟨z,h1,w,List.mem_cons_of_mem _ h2,h3⟩)
theorem zT3 {a : List Nd} {x u : Nd} (hx : x ∈ a) (hu : u ∈ x.kids) : Nd.ws u.kids ≤ Nd.ws a:=by
 have h1:=Nd.w_mem hx;have h2:=Nd.w_mem hu;have e1:=zK3 (v:=x)
 have e2:=zK3 (v:=u)
 omega
theorem zR0 : ∀ (N : Nat) (p : List Int) (a b : List Nd),∀ o ∈ zDs N p a b,opw o ≤ Nd.ws a + 5
 | 0,_,_,_,_,h => by cases h
 | N + 1,p,a,b,o,h => by
  unfold zDs at h;rcases zSb (zO9 a b) _ h with ⟨x,h1,i,rfl⟩ | ⟨x,h1,y,_,u,h2,v,_,q,h3⟩
  ·have:=Nd.w_mem h1;have e : opw (zGY p i x) = x.w + 5:=by simp [opw,zGY,Op8.nodes,Op8.text,Nd.ws]
   omega
  ·have h4:=zR0 N q u.kids v.kids o h3;have:=zT3 h1 h2
   omega
theorem zRR : ∀ (N : Nat) (p : List Int) (a b : List Nd),∀ o ∈ zDE N p a b,opw o ≤ Nd.ws b + 5
 | 0,_,_,_,_,h => by cases h
 | N + 1,p,a,b,o,h => by
  unfold zDE at h;rcases zSa (zO9 a b) _ h with ⟨y,h1,j,rfl⟩ | ⟨x,_,y,h1,j,rfl⟩ | ⟨x,_,y,h1,u,_,v,h2,q,h3⟩
  ·have:=Nd.w_mem h1;have e:=zT1 (x:=y) (p:=p) (i:=j)
   omega
  ·have:=Nd.w_mem h1;have e:=zK3 (v:=y)
   have e2 : opw (zIS p j x.text y.text) = y.text.length + 4:=by simp [opw,zIS,Op8.nodes,Op8.text,Nd.ws]
   omega
  ·have h4:=zRR N q u.kids v.kids o h3;have:=zT3 h1 h2
   omega
end Go.Proofs.YtjdhkpdjecegnaaGreatDoor
namespace Go.Proofs.YtjdhkpdjecegnaaGreatDoor
open Go.Abs
theorem zFu : ∀ (k i j : Nat) (a b : List Nd),∀ u ∈ zBi k i j a b,∃ s t x y,u = (i + s,j + t) ∧ a[s]? = some x ∧ b[t]? = some y ∧ zBE x y = true
 | 0,i,j,a,b,u,h => by unfold zBi at h; cases h
 | k + 1,i,j,[],b,u,h => by unfold zBi at h; cases h
 | k + 1,i,j,x :: xs,[],u,h => by unfold zBi at h; cases h
 | k + 1,i,j,x :: xs,y :: ys,u,h => by
  unfold zBi at h;cases h1 : (zBE x y && (DL (x :: xs) (y :: ys) == DL xs ys + D x y)) with
  | true =>
   rw [h1,cond_true] at h;rcases List.mem_cons.1 h with rfl | h
   ·exact ⟨0,0,x,y,rfl,rfl,rfl,(Bool.and_eq_true _ _ ▸ h1).1⟩
   ·obtain ⟨s,t,x',y',rfl,h2,h3,h4⟩:=zFu k (i + 1) (j + 1) xs ys u h;exact ⟨s + 1,t + 1,x',y',by rw [Nat.add_assoc,Nat.add_comm 1,Nat.add_assoc j,Nat.add_comm 1],h2,h3,h4⟩
  | false =>
   rw [h1,cond_false] at h;generalize ((DL (x :: xs) (y :: ys) == DL xs (y :: ys) + x.cnt) && (!(DL (x :: xs) (y :: ys) == DL (x :: xs) ys + y.cnt) || Op.bytesLess (zCD x) (zCD y))) = c at h;cases c with
   | true =>
    obtain ⟨s,t,x',y',rfl,h2,h3,h4⟩:=zFu k (i + 1) j xs (y :: ys) u h;exact ⟨s + 1,t,x',y',by rw [Nat.add_assoc,Nat.add_comm 1],h2,h3,h4⟩
   | false =>
    obtain ⟨s,t,x',y',rfl,h2,h3,h4⟩:=zFu k i (j + 1) (x :: xs) ys u h;exact ⟨s,t + 1,x',y',by rw [Nat.add_assoc j,Nat.add_comm 1],h2,h3,h4⟩
theorem zEr : ∀ (k i j : Nat) (a b : List Nd),(zBi k i j a b).Pairwise fun u v => u.1 < v.1 ∧ u.2 < v.2
 | 0,i,j,a,b => by unfold zBi; exact .nil
 | k + 1,i,j,[],b => by unfold zBi; exact .nil
 | k + 1,i,j,x :: xs,[] => by unfold zBi; exact .nil
 | k + 1,i,j,x :: xs,y :: ys => by
  unfold zBi;cases h1 : (zBE x y && (DL (x :: xs) (y :: ys) == DL xs ys + D x y)) with
  | true =>
   rw [cond_true]
   refine .cons (fun u hu => ?_) (zEr k (i + 1) (j + 1) xs ys)
   obtain ⟨s,t,_,_,rfl,_⟩:=zFu k (i + 1) (j + 1) xs ys u hu;dsimp only
   omega
  | false =>
   rw [cond_false]
   generalize ((DL (x :: xs) (y :: ys) == DL xs (y :: ys) + x.cnt) && (!(DL (x :: xs) (y :: ys) == DL (x :: xs) ys + y.cnt) || Op.bytesLess (zCD x) (zCD y))) = c;cases c with
   | true => exact zEr k (i + 1) j xs (y :: ys)
   | false => exact zEr k i (j + 1) (x :: xs) ys
end Go.Proofs.YtjdhkpdjecegnaaGreatDoor
namespace Go.Proofs.YtjdhkpdjecegnaaGreatDoor
open Go.Abs
def rowK (l : List Nd) : Nd:=.mk 1 [] 0 l
def parK (l : List (Nat × Nat)) (i : Nat) : Option Nat:=(l.find? fun u => u.1 == i).map (·.2)
def zFe (a b : List Nd) : List (Nat × Nat):=zBi (a.length + b.length + 1) 0 0 a b
end Go.Proofs.YtjdhkpdjecegnaaGreatDoor
namespace Go.Proofs.YtjdhkpdjecegnaaGreatDoor
open Go.Abs
def noN : Nd:=.mk 0 [] 0 []
def parB (l : List (Nat × Nat)) (j : Nat) : Option Nat:=(l.find? fun u => u.2 == j).map (·.1)
def delF (G : RowO) (p : List Int) (A B : List Nd) (l : List (Nat × Nat)) (i : Nat) : List Op8 :=
 match parK l i with
 | none => [zGY p i (A.getD i noN)]
 | some j => zB1 G p i 0 (A.getD i noN).kids (B.getD j noN).kids
def chgF (G : RowO) (p : List Int) (A B : List Nd) (l : List (Nat × Nat)) (j : Nat) : List Op8 :=
 match parB l j with
 | none => [zF7 p j (B.getD j noN)]
 | some i => setO p j (A.getD i noN) (B.getD j noN) ++ zCf G p j 0 (A.getD i noN).kids (B.getD j noN).kids
theorem zKJ {u : Nat × Nat} {l : List (Nat × Nat)} {i : Nat} : parK (u :: l) i = if u.1 = i then some u.2 else parK l i:=by
 unfold parK;rw [List.find?_cons]
 by_cases h : u.1 = i
 ·rw [if_pos h,show (u.1 == i) = true from beq_iff_eq.2 h]; rfl
 ·rw [if_neg h,show (u.1 == i) = false from beq_eq_false_iff_ne.2 h]
theorem zGC {u : Nat × Nat} {l : List (Nat × Nat)} {j : Nat} : parB (u :: l) j = if u.2 = j then some u.1 else parB l j:=by
 unfold parB;rw [List.find?_cons]
 by_cases h : u.2 = j
 ·rw [if_pos h,show (u.2 == j) = true from beq_iff_eq.2 h]; rfl
 ·rw [if_neg h,show (u.2 == j) = false from beq_eq_false_iff_ne.2 h]
theorem zNf {l : List (Nat × Nat)} {i : Nat} (h : ∀ u ∈ l,u.1 ≠ i) : parK l i = none:=by
 unfold parK;rw [List.find?_eq_none.2 fun u hu => by simpa using h u hu]
 rfl
theorem zNe {l : List (Nat × Nat)} {j : Nat} (h : ∀ u ∈ l,u.2 ≠ j) : parB l j = none:=by
 unfold parB;rw [List.find?_eq_none.2 fun u hu => by simpa using h u hu]
 rfl
theorem zGN {A : List Nd} {i : Nat} {x : Nd} {xs : List Nd} (h : A.drop i = x :: xs) : A.getD i noN = x ∧ A.drop (i + 1) = xs:=by
 have hi : i < A.length:=by
  have:=congrArg List.length h;simp only [List.length_drop,List.length_cons] at this
  omega
 rw [List.drop_eq_getElem_cons hi] at h;obtain ⟨h1,h2⟩:=List.cons.inj h;exact ⟨by rw [List.getD_eq_getElem?_getD,List.getElem?_eq_getElem hi,h1]; rfl,h2⟩
theorem zJS {f : Nat → List Op8} (i n : Nat) : (List.range' i (n + 1)).reverse.flatMap f = (List.range' (i + 1) n).reverse.flatMap f ++ f i:=by
 rw [List.range'_succ,List.reverse_cons,List.flatMap_append]
 simp
theorem zIB {f g : Nat → List Op8} {l : List Nat} (h : ∀ i ∈ l,f i = g i) : l.flatMap f = l.flatMap g:=by
 induction l with
 | nil => rfl
 | cons x l ih => rw [List.flatMap_cons,List.flatMap_cons,h x List.mem_cons_self,ih fun i hi => h i (List.mem_cons_of_mem _ hi)]
theorem zRZ {G : RowO} {p : List Int} {A B : List Nd} : ∀ (a : List Nd) (i : Nat),A.drop i = a → zEW G p i (a.map fun _ => .del) a [] = (List.range' i a.length).reverse.flatMap (delF G p A B [])
 | [],i,_ => rfl
 | x :: xs,i,h => by
  obtain ⟨h1,h2⟩:=zGN h;have ih:=zRZ (G:=G) (p:=p) (A:=A) (B:=B) xs (i + 1) h2;rw [List.length_cons,zJS,List.map_cons]
  simp only [zEW]
  rw [ih]
  have : delF G p A B [] i = [zGY p i x] :=(by unfold delF; rw [zNf (fun u hu => by cases hu),h1]);rw [this]
theorem zRY {G : RowO} {p : List Int} : ∀ (b : List Nd) (i : Nat),zEW G p i (b.map fun _ => .ins) [] b = []
 | [],_ => rfl
 | y :: ys,i => by rw [List.map_cons]; simp only [zEW]; exact zRY ys i
theorem zRP {G : RowO} {p : List Int} : ∀ (a : List Nd) (j : Nat),zEV G p j (a.map fun _ => .del) a [] = []
 | [],_ => rfl
 | x :: xs,j => by rw [List.map_cons]; simp only [zEV]; exact zRP xs j
theorem zRQ {G : RowO} {p : List Int} {A B : List Nd} : ∀ (b : List Nd) (j : Nat),B.drop j = b → zEV G p j (b.map fun _ => .ins) [] b = (List.range' j b.length).flatMap (chgF G p A B [])
 | [],j,_ => rfl
 | y :: ys,j,h => by
  obtain ⟨h1,h2⟩:=zGN h;have ih:=zRQ (G:=G) (p:=p) (A:=A) (B:=B) ys (j + 1) h2;rw [List.length_cons,List.range'_succ,List.flatMap_cons,List.map_cons]
  simp only [zEV]
  rw [ih]
  have : chgF G p A B [] j = [zF7 p j y] :=(by unfold chgF; rw [zNe (fun u hu => by cases hu),h1]);rw [this]; rfl
theorem zUA {k i j : Nat} {a b : List Nd} {u : Nat × Nat} (h : u ∈ zBi k i j a b) : i ≤ u.1 ∧ j ≤ u.2:=by
 obtain ⟨s,t,_,_,rfl,_⟩:=zFu k i j a b u h;dsimp only
 omega
theorem zH4 {G : RowO} {p : List Int} {A B : List Nd} : ∀ (k i j : Nat) (a b : List Nd),a.length + b.length < k → A.drop i = a → B.drop j = b → zEW G p i (scr k a b) a b = (List.range' i a.length).reverse.flatMap (delF G p A B (zBi k i j a b))
 | 0,_,_,_,_,h,_,_ => by omega
 | k + 1,i,j,[],b,_,_,_ => by unfold scr; rw [zRY]; rfl
 | k + 1,i,j,x :: xs,[],_,ha,_ => by unfold scr zBi; exact zRZ (x :: xs) i ha
 | k + 1,i,j,x :: xs,y :: ys,h,ha,hb => by
  obtain ⟨ha1,ha2⟩:=zGN ha;obtain ⟨hb1,hb2⟩:=zGN hb;simp only [List.length_cons] at h;unfold scr zBi;cases h1 : (zBE x y && (DL (x :: xs) (y :: ys) == DL xs ys + D x y)) with
  | true =>
   have ih:=zH4 (G:=G) (p:=p) k (i + 1) (j + 1) xs ys (by omega) ha2 hb2;simp only [cond_true,zEW]
   rw [ih,List.length_cons,zJS]
   congr 1
   ·refine zIB fun q hq => ?_
    have hq':=List.mem_range'_1.1 (List.mem_reverse.1 hq)
    unfold delF;rw [zKJ,if_neg (by dsimp only; omega)]
   ·unfold delF;rw [zKJ,if_pos rfl]
    dsimp only;rw [ha1,hb1]
  | false =>
   simp only [cond_false]
   generalize ((DL (x :: xs) (y :: ys) == DL xs (y :: ys) + x.cnt) && (!(DL (x :: xs) (y :: ys) == DL (x :: xs) ys + y.cnt) || Op.bytesLess (zCD x) (zCD y))) = c;cases c with
   | true =>
    have ih:=zH4 (G:=G) (p:=p) k (i + 1) j xs (y :: ys) (by simp only [List.length_cons]; omega) ha2 hb;simp only [cond_true,zEW]
    rw [ih,List.length_cons,zJS]
    congr 1
    unfold delF;rw [zNf fun u hu => by have:=zUA hu; omega,ha1]
   | false =>
    have ih:=zH4 (G:=G) (p:=p) k i (j + 1) (x :: xs) ys (by simp only [List.length_cons]; omega) ha hb2;simp only [cond_false,zEW]
    exact ih
theorem zH0 {G : RowO} {p : List Int} {A B : List Nd} : ∀ (k i j : Nat) (a b : List Nd),a.length + b.length < k → A.drop i = a → B.drop j = b → zEV G p j (scr k a b) a b = (List.range' j b.length).flatMap (chgF G p A B (zBi k i j a b))
 | 0,_,_,_,_,h,_,_ => by omega
 | k + 1,i,j,[],b,_,_,hb => by unfold scr zBi; exact zRQ b j hb
 | k + 1,i,j,x :: xs,[],_,ha,_ => by unfold scr; rw [zRP]; rfl
 | k + 1,i,j,x :: xs,y :: ys,h,ha,hb => by
  obtain ⟨ha1,ha2⟩:=zGN ha;obtain ⟨hb1,hb2⟩:=zGN hb;simp only [List.length_cons] at h;unfold scr zBi;cases h1 : (zBE x y && (DL (x :: xs) (y :: ys) == DL xs ys + D x y)) with
  | true =>
   have ih:=zH0 (G:=G) (p:=p) k (i + 1) (j + 1) xs ys (by omega) ha2 hb2;simp only [cond_true,zEV]
   rw [ih,List.length_cons,List.range'_succ,List.flatMap_cons,← List.append_assoc]
   congr 1
   ·unfold chgF;rw [zGC,if_pos rfl]
    dsimp only;rw [ha1,hb1]
   ·refine zIB fun q hq => ?_
    have hq':=List.mem_range'_1.1 hq;unfold chgF;rw [zGC,if_neg (by dsimp only; omega)]
  | false =>
   simp only [cond_false]
   generalize ((DL (x :: xs) (y :: ys) == DL xs (y :: ys) + x.cnt) && (!(DL (x :: xs) (y :: ys) == DL (x :: xs) ys + y.cnt) || Op.bytesLess (zCD x) (zCD y))) = c;cases c with
   | true =>
    have ih:=zH0 (G:=G) (p:=p) k (i + 1) j xs (y :: ys) (by simp only [List.length_cons]; omega) ha2 hb;simp only [cond_true,zEV]
    exact ih
   | false =>
    have ih:=zH0 (G:=G) (p:=p) k i (j + 1) (x :: xs) ys (by simp only [List.length_cons]; omega) ha hb2;simp only [cond_false,zEV]
    rw [ih,List.length_cons,List.range'_succ,List.flatMap_cons]
    have : chgF G p A B (zBi k i (j + 1) (x :: xs) ys) j = [zF7 p j y]:=by
     unfold chgF;rw [zNe fun u hu => by have:=zUA hu; omega,hb1]
    rw [this]; rfl
theorem zJe (N : Nat) (p : List Int) (a b : List Nd) : zDs (N + 1) p a b = (List.range' 0 a.length).reverse.flatMap (delF (zDs N) p a b (zFe a b)):=by
 unfold zDs sK zFe;exact zH4 _ 0 0 a b (Nat.lt_succ_self _) rfl rfl
theorem zJd (N : Nat) (p : List Int) (a b : List Nd) : zDE (N + 1) p a b = (List.range' 0 b.length).flatMap (chgF (zDE N) p a b (zFe a b)):=by
 unfold zDE sK zFe;exact zH0 _ 0 0 a b (Nat.lt_succ_self _) rfl rfl
end Go.Proofs.YtjdhkpdjecegnaaGreatDoor
namespace Go.Proofs.YtjdhkpdjecegnaaGreatDoor
open Go.Abs
theorem zET : ∀ (k k' i j : Nat) (a b : List Nd),a.length + b.length < k → a.length + b.length < k' → zBi k i j a b = zBi k' i j a b
 | 0,_,_,_,_,_,h,_ => by omega
 | _ + 1,0,_,_,_,_,_,h => by omega
 | k + 1,k' + 1,i,j,[],b,_,_ => by unfold zBi; rfl
 | k + 1,k' + 1,i,j,x :: xs,[],_,_ => by unfold zBi; rfl
 | k + 1,k' + 1,i,j,x :: xs,y :: ys,h,h' => by
  simp only [List.length_cons] at h h';unfold zBi;rw [zET k k' (i + 1) (j + 1) xs ys (by omega) (by omega),zET k k' (i + 1) j xs (y :: ys) (by simp only [List.length_cons]; omega) (by simp only [List.length_cons]; omega),zET k k' i (j + 1) (x :: xs) ys (by simp only [List.length_cons]; omega) (by simp only [List.length_cons]; omega)]
end Go.Proofs.YtjdhkpdjecegnaaGreatDoor
