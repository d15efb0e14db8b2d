/-
  Joined out of: DzT, PTyp9, PCnt, PByte, PText, PVal, PDist, PDump, PFill, PAwk, PCost, PMet, PNode, PRow, PPut, PWith, PWt, PLeast, PLeast2, PEdit1, PEdit2, PEdit3, PEdit4, PEdit5, PAlign, PDif1, PDif2.
-/
import Derived.Lib.ItoaLen
import Derived.Test.YtjdhkpdjecegnaaGreatDoorZe
set_option linter.unusedVariables false
set_option linter.unusedSimpArgs false
set_option maxHeartbeats 2000000
set_option maxRecDepth 100000
namespace Go.Proofs.YtjdhkpdjecegnaaGreatDoor
open Go.Abs
def zHK (n : Nat) (xs : List AV) (r : Ret) : Prop:=∃ (a0 : List (List Int)) (y0 : List Int),zBk n a0 = some y0 ∧ xs = [.s (.sl 1 ((List.map zAv) a0))] ∧ r = .row 3 1 ((List.map (irow .i64)) y0)
def zDu : zAt:=zAC fun xs r => ∃ n,zHK n xs r
theorem zEI : PSound Tryz.prog 47 zDu:=by
 have gok : ∀ f s,look? f [(69,zFD)] = some s → PSound Tryz.prog f s:=zAu (by
  simp only [List.forall_mem_cons]
  exact ⟨zIq,by simp⟩)
 refine zAJ tokW Tryz.call47 Tryz.func47 rfl (fun xs r h => by obtain ⟨n,_,_,_,rfl,_⟩:=h; show 1 ≤ 36; decide) 36 rfl ?_;rintro xs r w0 G0 ⟨n,slices1,y0,h,rfl,rfl⟩ _;rw [zBk] at h;refine zAa ?_;refine zAb [2] [] rfl ?_;show Tri _ _ _ _;refine zAk (Le.rename [] [(0,.s (.sl 1 ((List.map zAv) slices1)))] [] 0 ⟨rfl,trivial⟩ trivial rfl rfl rfl rfl rfl) ?_;refine zAa ?_;refine zAb [] [] rfl ?_;show Tri _ _ _ _;refine zAa ?_;refine zAa ?_;refine zAb [] [10] rfl ?_;intro n2 hn2;obtain rfl : (slices1.length : Int) = n2:=(hn2.trans (congrArg (fun m : Nat => (m : Int)) (rlen (fun _ => rfl) slices1))).symm;show Tri _ _ _ _
 obtain ⟨size5,hl,h⟩:=zAc h;refine zAp ⟨ofL [(0,.s (.sl 1 ((List.map zAv) slices1))),(3,.s (.int .i64 size5))],fun _ => none,0⟩ ?_ (fun σ' hle => ?_)
 ·refine zAi (zAG (X:=Nat × Int × Int) (fun y => match y with | (k,x3,size4) => ⟨ofL [(0,.s (.sl 1 ((List.map zAv) slices1))),(3,.s (.int .i64 size4)),(9,.s (.sl 1 ((List.map zAv) slices1))),(10,.s (.int .i64 (slices1.length : Int))),(11,.s (.int .i64 x3))],fun _ => none,0⟩) (fun y => zAO slices1 y.1 y.2.1 y.2.2 = some size5) (fun y => y.1) (n,0,0) hl ?_ ?_)
  ·exact (Le.forget _ ⟨rfl,rfl,rfl,rfl,rfl,trivial⟩)
  ·rintro ⟨k,x3,size4⟩ h;cases k with
   | zero => cases h
   | succ k =>
    replace h : zAO slices1 (k+1) x3 size4 = some size5:=h;rw [zAO] at h;refine zAa ?_;refine zAb [] [] rfl ?_;show Tri _ _ _ _;refine zAa ?_;refine zAd rfl (fun hb => ?_) (fun hb => ?_)
    ·replace h:=zAm hb h;refine zAg ?_;show Tri _ _ _ _;refine zAa ?_;refine zAi ?_;refine zAa ?_;refine zAb [] [13] rfl ?_;obtain ⟨e6,he6,h⟩:=zAc h;refine And.intro (zAz (fun _ => rfl) he6).1 ?_;intro r7 hr7;obtain rfl : [.sl 1 ((List.map (irow .i64)) e6)] = r7:=(hr7.trans (zAz (fun _ => rfl) he6).2.1).symm;show Tri _ _ _ _;refine zAa ?_;refine zAb [] [17] rfl ?_;intro n8 hn8;obtain rfl : (e6.length : Int) = n8:=(hn8.trans (congrArg (fun m : Nat => (m : Int)) (rlen (fun _ => rfl) e6))).symm;show Tri _ _ _ _;refine zAa ?_;refine zAb [] [] rfl ?_;show Tri _ _ _ _;refine zAd rfl (fun hb => ?_) (fun hb => ?_)
     ·replace h:=zAm hb h;cases h
     ·replace h:=zAl hb h;refine zAg ?_;show Tri _ _ _ _;refine zAb [] [] rfl ?_;refine ⟨(k,IntKind.i64.wrap (x3 + 1),IntKind.i64.wrap (size4 + (e6.length : Int))),h,(Le.forget _ ⟨rfl,rfl,rfl,rfl,rfl,trivial⟩),Nat.lt_succ_self k⟩
    ·replace h:=zAl hb h;refine zAI ?_;cases h;exact (Le.forget _ ⟨rfl,rfl,trivial⟩)
 ·show Tri _ _ _ _;refine zAk hle ?_;refine zAa ?_;refine zAb [24] [] rfl ?_;obtain ⟨y9,hy9,h⟩:=zAc h;refine ⟨_,⟨_,_,hy9,rfl,rfl⟩,?_⟩
  show Tri _ _ _ _;refine zAa ?_;refine zAa ?_;refine zAb [] [26] rfl ?_;intro n10 hn10;obtain rfl : (slices1.length : Int) = n10:=(hn10.trans (congrArg (fun m : Nat => (m : Int)) (rlen (fun _ => rfl) slices1))).symm;show Tri _ _ _ _;obtain ⟨l14,hl,h⟩:=zAc h;refine zAp ⟨ofL [(6,.orow 0)],ofH [(0,.row 3 1 ((List.map (irow .i64)) l14))],1⟩ ?_ (fun σ' hle => ?_)
  ·refine zAi (zAG (X:=Nat × Int × (List Int)) (fun y => match y with | (k,x11,l13) => ⟨ofL [(6,.orow 0),(25,.s (.sl 1 ((List.map zAv) slices1))),(26,.s (.int .i64 (slices1.length : Int))),(27,.s (.int .i64 x11))],ofH [(0,.row 3 1 ((List.map (irow .i64)) l13))],1⟩) (fun y => zAP slices1 y.1 y.2.1 y.2.2 = some l14) (fun y => y.1) (n,0,y9) hl ?_ ?_)
   ·exact (Le.rename [(0,0)] _ _ _ ⟨rfl,rfl,rfl,rfl,trivial⟩ ⟨rfl,⟨_,rfl,rfl⟩,trivial⟩ rfl rfl rfl rfl rfl)
   ·rintro ⟨k,x11,l13⟩ h;cases k with
    | zero => cases h
    | succ k =>
     replace h : zAP slices1 (k+1) x11 l13 = some l14:=h;rw [zAP] at h;refine zAa ?_;refine zAb [] [] rfl ?_;show Tri _ _ _ _;refine zAa ?_;refine zAd rfl (fun hb => ?_) (fun hb => ?_)
     ·replace h:=zAm hb h;refine zAg ?_;show Tri _ _ _ _;refine zAa ?_;refine zAi ?_;refine zAa ?_;refine zAb [] [29] rfl ?_;obtain ⟨e15,he15,h⟩:=zAc h;refine And.intro (zAz (fun _ => rfl) he15).1 ?_;intro r16 hr16;obtain rfl : [.sl 1 ((List.map (irow .i64)) e15)] = r16:=(hr16.trans (zAz (fun _ => rfl) he15).2.1).symm;show Tri _ _ _ _;refine zAb [33] [] rfl ?_;obtain ⟨hq,h⟩:=zAU h
      refine And.intro (show (((List.map (irow .i64)) l13).length + ((List.map (irow .i64)) e15).length) * 8 ≤ 140737488355328 ∧ ((List.map (irow .i64)) l13).length + ((List.map (irow .i64)) e15).length ≤ 9223372036854775807 from by simp only [List.length_append,List.length_cons,List.length_nil,List.length_map,rlen (fun _ => rfl)] at hq ⊢; omega) ?_;show Tri _ _ _ _
      refine zAk (Le.rename [(1,0)] [(6,.orow 0),(25,.s (.sl 1 ((List.map zAv) slices1))),(26,.s (.int .i64 (slices1.length : Int))),(27,.s (.int .i64 x11))] [(0,.row 3 1 ((List.map (irow .i64)) (l13 ++ e15)))] 1 ⟨rfl,rfl,rfl,rfl,trivial⟩ ⟨rfl,⟨_,rfl,congrArg (Ob.row 3 1) (by simp [List.map_append,List.map_take,List.map_drop,irow,brow,zAT,List.map_cons,List.map_nil,zAK,Nd.encs_eq,Nd.enc,zAq,zAn,zAo,zAw,zAv,zAs,zAx,zAr,zAW,zAH,zAD])⟩,trivial⟩ rfl rfl rfl rfl rfl) ?_;refine zAb [] [] rfl ?_
      refine ⟨(k,IntKind.i64.wrap (x11 + 1),l13 ++ e15),h,(Le.rename [(0,0)] _ _ _ ⟨rfl,rfl,rfl,rfl,trivial⟩ ⟨rfl,⟨_,rfl,rfl⟩,trivial⟩ rfl rfl rfl rfl rfl),Nat.lt_succ_self k⟩
     ·replace h:=zAl hb h;refine zAI ?_;cases h;exact (Le.rename [(0,0)] _ _ _ ⟨rfl,trivial⟩ ⟨rfl,⟨_,rfl,rfl⟩,trivial⟩ rfl rfl rfl rfl rfl)
  ·show Tri _ _ _ _;refine zAk hle ?_;refine zAa ?_;refine zAb [] [] rfl ?_;show Tri _ _ _ _;refine zAh ?_;have hy:=Option.some.inj h;subst hy;unfold zAy;exact ⟨_,Le.refl _ _,0,rfl,rfl⟩
def zOm (n : Nat) (xs : List AV) (os : List Ob) (x : AV) (os' : List (Option Ob)) : Prop:=∃ (a0 : (Int × List Int × Int × Int × List Nd × Int × List UInt8 × List UInt8)) (a1 : List (Int × List Int × Int × Int × List Nd × Int × List UInt8 × List UInt8)) (z0 : List (Int × List Int × Int × Int × List Nd × Int × List UInt8 × List UInt8)),zCy n a0 a1 = some z0 ∧ xs = [.agg ((zAr a0).map .s),.op 0 0] ∧ os = [.box 27 [.orow 1],.row 54 8 ((List.map zAr) a1)] ∧ x = .tup [] ∧ os' = [some (.box 27 [.orow 2]),none,some (.row 54 8 ((List.map zAr) z0))]
def zGU : zAt:=zCd (fun xs os x os' => ∃ n,zOm n xs os x os')
theorem zI3 : PSound Tryz.prog 23 zGU:=by
 have gok : ∀ f s,look? f [(24,zOC)] = some s → PSound Tryz.prog f s:=zAu (by
  simp only [List.forall_mem_cons]
  exact ⟨zR1,by simp⟩)
 refine PSound.withNil (zHl tokW Tryz.call23 Tryz.func23 rfl (fun xs os x os' h => by obtain ⟨n,_,_,_,_,rfl,rfl,_,rfl⟩:=h; exact ⟨by show 2 ≤ 8; decide,by show 2 ≤ 3; decide⟩) 8 rfl ?_) _;rintro xs os x os' w0 G0 B0 ⟨n,⟨op1_kind,op1_row,op1_at,op1_n,op1_nodes,op1_slot,op1_old,op1_text⟩,o2,z0,h,rfl,rfl,rfl,rfl⟩ _;rw [zCy] at h;refine zAa ?_;refine zAb [] [] rfl ?_;show Tri _ _ _ _;refine zAF (by exact tokW) (by exact gok) (by exact mixed) [7] [6] [0,4,5] rfl (by decide +kernel) ?_;obtain ⟨⟨y3_kind,y3_row,y3_at,y3_n,y3_nodes,y3_slot,y3_old,y3_text⟩,hy3,h⟩:=zAc h;refine ⟨_,⟨_,_,_,hy3,rfl,rfl⟩,?_⟩
 intro r4 hr4;obtain rfl : (List.map zAr) [(y3_kind,y3_row,y3_at,y3_n,y3_nodes,y3_slot,y3_old,y3_text)] = r4:=(hr4.trans (by simp [List.map_append,List.map_take,List.map_drop,irow,brow,zAT,List.map_cons,List.map_nil,zAK,Nd.encs_eq,Nd.enc,zAq,zAn,zAo,zAw,zAv,zAs,zAx,zAr,zAW,zAH,zAD])).symm;obtain ⟨hq,h⟩:=zAU h
 refine And.intro (show (((List.map zAr) o2).length + ((List.map zAr) [(y3_kind,y3_row,y3_at,y3_n,y3_nodes,y3_slot,y3_old,y3_text)]).length) * 112 ≤ 140737488355328 ∧ ((List.map zAr) o2).length + ((List.map zAr) [(y3_kind,y3_row,y3_at,y3_n,y3_nodes,y3_slot,y3_old,y3_text)]).length ≤ 9223372036854775807 from by simp only [List.length_append,List.length_cons,List.length_nil,List.length_map,rlen (fun _ => rfl)] at hq ⊢; omega) ?_;have hy:=Option.some.inj h;subst hy;unfold zCX
 exact ⟨_,(Le.trans (Le.rename [(0,0),(2,2)] [] [(0,.box 27 [.orow 2]),(2,.row 54 8 ((List.map zAr) (o2 ++ [(y3_kind,y3_row,y3_at,y3_n,y3_nodes,y3_slot,y3_old,y3_text)])))] 3 trivial ⟨rfl,⟨_,rfl,rfl⟩,rfl,⟨_,rfl,congrArg (Ob.row 54 8) (by simp [List.map_append,List.map_take,List.map_drop,irow,brow,zAT,List.map_cons,List.map_nil,zAK,Nd.encs_eq,Nd.enc,zAq,zAn,zAo,zAw,zAv,zAs,zAx,zAr,zAW,zAH,zAD])⟩,trivial⟩ rfl rfl rfl rfl rfl) (Le.rename [(0,0),(2,2)] [] [(0,.box 27 [.orow 2]),(2,.row 54 8 ((List.map zAr) (o2 ++ [(y3_kind,y3_row,y3_at,y3_n,y3_nodes,y3_slot,y3_old,y3_text)])))] 3 trivial ⟨rfl,⟨_,rfl,rfl⟩,rfl,⟨_,rfl,rfl⟩,trivial⟩ rfl rfl rfl rfl rfl)),rfl,rfl,rfl,rfl,rfl,rfl,trivial⟩
def zCp (n : Nat) (xs : List AV) (os : List Ob) (x : AV) (os' : List (Option Ob)) : Prop:=∃ (a0 : List Nd) (a1 : List Nd) (a2 : List Int) (a3 : List (Int × List Int × Int × Int × List Nd × Int × List UInt8 × List UInt8)) (z0 : List (Int × List Int × Int × Int × List Nd × Int × List UInt8 × List UInt8)),zA1 n a0 a1 a2 a3 = some z0 ∧ xs = [.s (.sl 4 (Nd.encs a0)),.s (.sl 4 (Nd.encs a1)),.s (.sl 1 ((List.map (irow .i64)) a2)),.clo 23 [.op 0 0]] ∧ os = [.box 27 [.orow 1],.row 54 8 ((List.map zAr) a3)] ∧ x = .tup [] ∧ os' = [some (.box 27 [.orow 2]),none,some (.row 54 8 ((List.map zAr) z0))]
theorem zHR (n : Nat) (ih : PSound Tryz.prog 26 (zCd (zCp n))) : PSound Tryz.prog 26 (zCd (zCp (n + 1))):=by
 have gok : ∀ f s,look? f [(45,zGV),(23,zGU),(47,zDu),(26,zCd (zCp n))] = some s → PSound Tryz.prog f s:=zAu (by
  simp only [List.forall_mem_cons]
  exact ⟨zI4,zI3,zEI,ih,by simp⟩)
 refine PSound.withNil (zHl tokW Tryz.call26 Tryz.func26 rfl (fun xs os x os' h => by obtain ⟨_,_,_,_,_,_,rfl,rfl,_,rfl⟩:=h; exact ⟨by show 4 ≤ 92; decide,by show 2 ≤ 3; decide⟩) 92 rfl ?_) _;rintro xs os x os' w0 G0 B0 ⟨a1,a2,a3,o4,z0,h,rfl,rfl,rfl,rfl⟩ _;rw [zA1] at h;refine zAa ?_;refine zAb [] [] rfl ?_;obtain ⟨y5,hy5,h⟩:=zAc h;refine ⟨_,⟨_,_,_,_,hy5,rfl,rfl⟩,?_⟩
 show Tri _ _ _ _;refine zAa ?_;refine zAb [] [17] rfl ?_;intro n6 hn6;obtain rfl : (a2.length : Int) = n6:=(hn6.trans (congrArg (fun m : Nat => (m : Int)) (rlen Nd.encs_eq a2))).symm;show Tri _ _ _ _;obtain ⟨l11,hl,h⟩:=zAc h;refine zAp ⟨ofL [],ofH [(0,.box 27 [.orow 2]),(2,.row 54 8 ((List.map zAr) l11))],3⟩ ?_ (fun σ' hle => ?_)
 ·refine zAi (zAG (X:=Nat × Int × (List (Int × Int)) × (List (Int × List Int × Int × Int × List Nd × Int × List UInt8 × List UInt8))) (fun y => match y with | (k,x8,x9,l10) => ⟨ofL [(0,.s (.sl 4 (Nd.encs a1))),(2,.s (.sl 1 ((List.map (irow .i64)) a3))),(3,.clo 23 [.op 0 0]),(8,.s (.sl 2 ((List.map zAx) x9))),(16,.s (.sl 4 (Nd.encs a2))),(17,.s (.int .i64 (a2.length : Int))),(18,.s (.int .i64 x8))],ofH [(0,.box 27 [.orow 2]),(2,.row 54 8 ((List.map zAr) l10))],3⟩) (fun y => zBh (zA1 n) n a1 a2 a3 y.1 y.2.1 y.2.2.1 y.2.2.2 = some l11) (fun y => y.1) (n,0,y5,o4) hl ?_ ?_)
  ·exact (Le.rename [(0,0),(1,2)] _ _ _ ⟨rfl,rfl,rfl,rfl,rfl,rfl,rfl,trivial⟩ ⟨rfl,⟨_,rfl,rfl⟩,rfl,⟨_,rfl,rfl⟩,trivial⟩ rfl rfl rfl rfl rfl)
  ·rintro ⟨k,x8,x9,l10⟩ h;cases k with
   | zero => cases h
   | succ k =>
    replace h : zBh (zA1 n) n a1 a2 a3 (k+1) x8 x9 l10 = some l11:=h;rw [zBh] at h;refine zAa ?_;refine zAb [] [] rfl ?_;show Tri _ _ _ _;refine zAa ?_;refine zAd rfl (fun hb => ?_) (fun hb => ?_)
    ·replace h:=zAm hb h;refine zAg ?_;show Tri _ _ _ _;refine zAa ?_;obtain ⟨⟨x12,l13⟩,hj,h⟩:=zAc h;refine zAp ⟨ofL [(0,.s (.sl 4 (Nd.encs a1))),(2,.s (.sl 1 ((List.map (irow .i64)) a3))),(3,.clo 23 [.op 0 0]),(8,.s (.sl 2 ((List.map zAx) x12))),(16,.s (.sl 4 (Nd.encs a2))),(17,.s (.int .i64 (a2.length : Int))),(18,.s (.int .i64 x8))],ofH [(0,.box 27 [.orow 2]),(2,.row 54 8 ((List.map zAr) l13))],3⟩ ?_ (fun σ' hle => ?_)
     ·replace h:=hj;refine zAi ?_;refine zAa ?_;refine zAb [10] [21] rfl ?_;obtain ⟨⟨e14_kind,e14_text,e14_cols,e14_kids⟩,he14,h⟩:=zAc h;refine And.intro (zAz Nd.encs_eq he14).1 ?_;intro r15 hr15;obtain rfl : [.int .i64 e14_kind,.str e14_text,.int .i64 e14_cols,.sl 4 (Nd.encs e14_kids)] = r15:=(hr15.trans (zAz Nd.encs_eq he14).2.1).symm;show Tri _ _ _ _;refine zAk (Le.giveBox 3 [.int .i64 e14_kind,.str e14_text,.int .i64 e14_cols,.sl 4 (Nd.encs e14_kids)] rfl rfl) ?_;refine zAa ?_;refine zAa ?_;obtain ⟨x16,hj,h⟩:=zAc h
      refine zAp ⟨ofL [(0,.s (.sl 4 (Nd.encs a1))),(2,.s (.sl 1 ((List.map (irow .i64)) a3))),(3,.clo 23 [.op 0 0]),(8,.s (.sl 2 ((List.map zAx) x9))),(9,.s (.int .i64 x8)),(10,.s (.pt [.int .i64 e14_kind,.str e14_text,.int .i64 e14_cols,.sl 4 (Nd.encs e14_kids)])),(16,.s (.sl 4 (Nd.encs a2))),(17,.s (.int .i64 (a2.length : Int))),(18,.s (.int .i64 x8)),(33,.s (.bool x16))],ofH [(0,.box 27 [.orow 2]),(2,.row 54 8 ((List.map zAr) l10))],3⟩ ?_ (fun σ' hle => ?_)
      ·replace h:=hj;refine zAb [] [24,26,28] rfl ?_;intro n17 hn17;obtain rfl : (x9.length : Int) = n17:=(hn17.trans (congrArg (fun m : Nat => (m : Int)) (rlen (fun _ => rfl) x9))).symm;intro b hb;cases b with
       | true =>
        replace h:=zAm hb.symm h;cases h;exact (Le.rename [(0,0),(2,2)] _ _ _ ⟨rfl,rfl,rfl,rfl,rfl,rfl,rfl,rfl,rfl,rfl,trivial⟩ ⟨rfl,⟨_,rfl,rfl⟩,rfl,⟨_,rfl,rfl⟩,trivial⟩ rfl rfl rfl rfl rfl)
       | false =>
        replace h:=zAl hb.symm h;obtain ⟨⟨e18_0,e18_1⟩,he18,h⟩:=zAc h;refine And.intro (zAz (fun _ => rfl) he18).1 ?_;intro r19 hr19;obtain rfl : [.int .i64 e18_0,.int .i64 e18_1] = r19:=(hr19.trans (zAz (fun _ => rfl) he18).2.1).symm;refine And.intro (by decide) ?_;cases h;exact (Le.rename [(0,0),(2,2)] _ _ _ ⟨rfl,rfl,rfl,rfl,rfl,rfl,rfl,rfl,rfl,rfl,trivial⟩ ⟨rfl,⟨_,rfl,rfl⟩,rfl,⟨_,rfl,rfl⟩,trivial⟩ rfl rfl rfl rfl rfl)
      ·show Tri _ _ _ _;refine zAk hle ?_;refine zAd rfl (fun hb => ?_) (fun hb => ?_)
       ·replace h:=zAm hb h;refine zAa ?_;refine zAb [] [38] rfl ?_;intro r20 hr20;obtain rfl : Nd.encs [Nd.mk e14_kind e14_text e14_cols e14_kids] = r20:=(hr20.trans (by simp [List.map_append,List.map_take,List.map_drop,irow,brow,zAT,List.map_cons,List.map_nil,zAK,Nd.encs_eq,Nd.enc,zAq,zAn,zAo,zAw,zAv,zAs,zAx,zAr,zAW,zAH,zAD])).symm;obtain ⟨w21,hw21,h⟩:=zAc h;refine ⟨_,_,⟨_,_,_,_,hw21,rfl,rfl,rfl,rfl⟩,?_⟩
        show Tri _ _ _ _;refine zAI ?_;cases h;exact (Le.rename [(0,0),(3,2)] _ _ _ ⟨rfl,rfl,rfl,rfl,rfl,rfl,rfl,trivial⟩ ⟨rfl,⟨_,rfl,rfl⟩,rfl,⟨_,rfl,rfl⟩,trivial⟩ rfl rfl rfl rfl rfl)
       ·replace h:=zAl hb h;refine zAg ?_;show Tri _ _ _ _;refine zAa ?_;refine zAb [11] [43,46] rfl ?_;obtain ⟨⟨e22_0,e22_1⟩,he22,h⟩:=zAc h;refine And.intro (zAz (fun _ => rfl) he22).1 ?_;intro r23 hr23;obtain rfl : [.int .i64 e22_0,.int .i64 e22_1] = r23:=(hr23.trans (zAz (fun _ => rfl) he22).2.1).symm;refine And.intro (by decide) ?_;obtain ⟨⟨e24_kind,e24_text,e24_cols,e24_kids⟩,he24,h⟩:=zAc h;refine And.intro (zAz Nd.encs_eq he24).1 ?_;intro r25 hr25;obtain rfl : [.int .i64 e24_kind,.str e24_text,.int .i64 e24_cols,.sl 4 (Nd.encs e24_kids)] = r25:=(hr25.trans (zAz Nd.encs_eq he24).2.1).symm;show Tri _ _ _ _
        refine zAk (Le.giveBox 3 [.int .i64 e24_kind,.str e24_text,.int .i64 e24_cols,.sl 4 (Nd.encs e24_kids)] rfl rfl) ?_;refine zAa ?_;refine zAb [] [49] rfl ?_;obtain ⟨hq,h⟩:=zAU h;refine And.intro ⟨hq.1,Int.le_trans hq.2.1 (Int.ofNat_le.2 (Nat.le_of_eq (rlen (fun _ => rfl) _).symm)),Int.le_refl _⟩ ?_;intro r26 hr26;obtain rfl : (List.map zAx) ((x9.take (x9.length : Int).toNat).drop (1 : Int).toNat) = r26:=(hr26.trans ((congrArg (fun m : Nat => (((List.map zAx) x9).take m).drop (1 : Int).toNat) (rlen (fun _ => rfl) _)).trans (rcut (fun _ => rfl) _ _ _))).symm;show Tri _ _ _ _;refine zAa ?_;refine zAa ?_;refine zAb [] [] rfl ?_
        show Tri _ _ _ _;obtain ⟨l27,hj,h⟩:=zAc h;refine zAp ⟨ofL [(0,.s (.sl 4 (Nd.encs a1))),(2,.s (.sl 1 ((List.map (irow .i64)) a3))),(3,.clo 23 [.op 0 0]),(8,.s (.sl 2 ((List.map zAx) ((x9.take (x9.length : Int).toNat).drop (1 : Int).toNat)))),(9,.s (.int .i64 x8)),(10,.s (.pt [.int .i64 e14_kind,.str e14_text,.int .i64 e14_cols,.sl 4 (Nd.encs e14_kids)])),(11,.s (.pt [.int .i64 e24_kind,.str e24_text,.int .i64 e24_cols,.sl 4 (Nd.encs e24_kids)])),(16,.s (.sl 4 (Nd.encs a2))),(17,.s (.int .i64 (a2.length : Int))),(18,.s (.int .i64 x8))],ofH [(0,.box 27 [.orow 2]),(2,.row 54 8 ((List.map zAr) l27))],3⟩ ?_ (fun σ' hle => ?_)
        ·replace h:=hj;refine zAd rfl (fun hb => ?_) (fun hb => ?_)
         ·replace h:=zAm hb h;refine zAb [] [] rfl ?_;obtain ⟨w28,hw28,h⟩:=zAc h;refine ⟨_,_,⟨_,_,_,_,hw28,rfl,rfl,rfl,rfl⟩,?_⟩
          cases h;exact (Le.rename [(0,0),(4,2)] _ _ _ ⟨rfl,rfl,rfl,rfl,rfl,rfl,rfl,rfl,rfl,rfl,trivial⟩ ⟨rfl,⟨_,rfl,rfl⟩,rfl,⟨_,rfl,rfl⟩,trivial⟩ rfl rfl rfl rfl rfl)
         ·replace h:=zAl hb h;refine zAg ?_;cases h;exact (Le.rename [(0,0),(2,2)] _ _ _ ⟨rfl,rfl,rfl,rfl,rfl,rfl,rfl,rfl,rfl,rfl,trivial⟩ ⟨rfl,⟨_,rfl,rfl⟩,rfl,⟨_,rfl,rfl⟩,trivial⟩ rfl rfl rfl rfl rfl)
        ·show Tri _ _ _ _;refine zAk hle ?_;refine zAa ?_;refine zAb [] [66] rfl ?_;intro n29 hn29;obtain rfl : (e14_kids.length : Int) = n29:=(hn29.trans (congrArg (fun m : Nat => (m : Int)) (rlen Nd.encs_eq e14_kids))).symm;show Tri _ _ _ _;obtain ⟨l33,hl,h⟩:=zAc h
         refine zAp ⟨ofL [(0,.s (.sl 4 (Nd.encs a1))),(2,.s (.sl 1 ((List.map (irow .i64)) a3))),(3,.clo 23 [.op 0 0]),(8,.s (.sl 2 ((List.map zAx) ((x9.take (x9.length : Int).toNat).drop (1 : Int).toNat)))),(16,.s (.sl 4 (Nd.encs a2))),(17,.s (.int .i64 (a2.length : Int))),(18,.s (.int .i64 x8))],ofH [(0,.box 27 [.orow 2]),(2,.row 54 8 ((List.map zAr) l33))],3⟩ ?_ (fun σ' hle => ?_)
         ·refine zAi (zAG (X:=Nat × Int × (List (Int × List Int × Int × Int × List Nd × Int × List UInt8 × List UInt8))) (fun y => match y with | (k,x31,l32) => ⟨ofL [(0,.s (.sl 4 (Nd.encs a1))),(2,.s (.sl 1 ((List.map (irow .i64)) a3))),(3,.clo 23 [.op 0 0]),(8,.s (.sl 2 ((List.map zAx) ((x9.take (x9.length : Int).toNat).drop (1 : Int).toNat)))),(9,.s (.int .i64 x8)),(10,.s (.pt [.int .i64 e14_kind,.str e14_text,.int .i64 e14_cols,.sl 4 (Nd.encs e14_kids)])),(11,.s (.pt [.int .i64 e24_kind,.str e24_text,.int .i64 e24_cols,.sl 4 (Nd.encs e24_kids)])),(16,.s (.sl 4 (Nd.encs a2))),(17,.s (.int .i64 (a2.length : Int))),(18,.s (.int .i64 x8)),(66,.s (.int .i64 (e14_kids.length : Int))),(67,.s (.int .i64 x31))],ofH [(0,.box 27 [.orow 2]),(2,.row 54 8 ((List.map zAr) l32))],3⟩) (fun y => zBi (zA1 n) n a3 x8 e14_kids e24_kids y.1 y.2.1 y.2.2 = some l33) (fun y => y.1) (n,0,l27) hl ?_ ?_)
          ·exact (Le.rename [(0,0),(2,2)] _ _ _ ⟨rfl,rfl,rfl,rfl,rfl,rfl,rfl,rfl,rfl,rfl,rfl,rfl,trivial⟩ ⟨rfl,⟨_,rfl,rfl⟩,rfl,⟨_,rfl,rfl⟩,trivial⟩ rfl rfl rfl rfl rfl)
          ·rintro ⟨k,x31,l32⟩ h;cases k with
           | zero => cases h
           | succ k =>
            replace h : zBi (zA1 n) n a3 x8 e14_kids e24_kids (k+1) x31 l32 = some l33:=h;rw [zBi] at h;refine zAa ?_;refine zAb [] [] rfl ?_;show Tri _ _ _ _;refine zAa ?_;refine zAd rfl (fun hb => ?_) (fun hb => ?_)
            ·replace h:=zAm hb h;refine zAg ?_;show Tri _ _ _ _;refine zAa ?_;refine zAi ?_;refine zAa ?_;refine zAb [] [] rfl ?_;show Tri _ _ _ _;refine zAF (by exact tokW) (by exact gok) (by exact mixed) [] [73,79,85,86] [19] rfl (by decide +kernel) ?_;obtain ⟨⟨e34_kind,e34_text,e34_cols,e34_kids⟩,he34,h⟩:=zAc h;refine And.intro (zAz Nd.encs_eq he34).1 ?_;intro r35 hr35;obtain rfl : [.int .i64 e34_kind,.str e34_text,.int .i64 e34_cols,.sl 4 (Nd.encs e34_kids)] = r35:=(hr35.trans (zAz Nd.encs_eq he34).2.1).symm;obtain ⟨⟨e36_kind,e36_text,e36_cols,e36_kids⟩,he36,h⟩:=zAc h
             refine And.intro (zAz Nd.encs_eq he36).1 ?_;intro r37 hr37;obtain rfl : [.int .i64 e36_kind,.str e36_text,.int .i64 e36_cols,.sl 4 (Nd.encs e36_kids)] = r37:=(hr37.trans (zAz Nd.encs_eq he36).2.1).symm;intro r38 hr38;obtain rfl : (List.map (irow .i64)) [x8,x31] = r38:=(hr38.trans (by simp [List.map_append,List.map_take,List.map_drop,irow,brow,zAT,List.map_cons,List.map_nil,zAK,Nd.encs_eq,Nd.enc,zAq,zAn,zAo,zAw,zAv,zAs,zAx,zAr,zAW,zAH,zAD])).symm;intro r39 hr39
             obtain rfl : (List.map zAv) [a3,[x8,x31]] = r39:=(hr39.trans (by simp [List.map_append,List.map_take,List.map_drop,irow,brow,zAT,List.map_cons,List.map_nil,zAK,Nd.encs_eq,Nd.enc,zAq,zAn,zAo,zAw,zAv,zAs,zAx,zAr,zAW,zAH,zAD])).symm;obtain ⟨y40,hy40,h⟩:=zAc h;refine ⟨_,⟨_,_,_,hy40,rfl,rfl⟩,?_⟩
             obtain ⟨w41,hw41,h⟩:=zAc h;refine ⟨_,_,⟨_,_,_,_,_,hw41,rfl,rfl,rfl,rfl⟩,?_⟩
             show Tri _ _ _ _;refine zAb [] [] rfl ?_;refine ⟨(k,IntKind.i64.wrap (x31 + 1),w41),h,(Le.rename [(0,0),(3,2)] _ _ _ ⟨rfl,rfl,rfl,rfl,rfl,rfl,rfl,rfl,rfl,rfl,rfl,rfl,trivial⟩ ⟨rfl,⟨_,rfl,rfl⟩,rfl,⟨_,rfl,rfl⟩,trivial⟩ rfl rfl rfl rfl rfl),Nat.lt_succ_self k⟩
            ·replace h:=zAl hb h;refine zAI ?_;cases h;exact (Le.rename [(0,0),(2,2)] _ _ _ ⟨rfl,rfl,rfl,rfl,rfl,rfl,rfl,trivial⟩ ⟨rfl,⟨_,rfl,rfl⟩,rfl,⟨_,rfl,rfl⟩,trivial⟩ rfl rfl rfl rfl rfl)
         ·cases h;exact (Le.trans hle (Le.rename [(0,0),(2,2)] _ _ _ ⟨rfl,rfl,rfl,rfl,rfl,rfl,rfl,trivial⟩ ⟨rfl,⟨_,rfl,rfl⟩,rfl,⟨_,rfl,rfl⟩,trivial⟩ rfl rfl rfl rfl rfl))
     ·show Tri _ _ _ _;refine zAk hle ?_;refine zAb [] [] rfl ?_;refine ⟨(k,IntKind.i64.wrap (x8 + 1),x12,l13),h,(Le.rename [(0,0),(2,2)] _ _ _ ⟨rfl,rfl,rfl,rfl,rfl,rfl,rfl,trivial⟩ ⟨rfl,⟨_,rfl,rfl⟩,rfl,⟨_,rfl,rfl⟩,trivial⟩ rfl rfl rfl rfl rfl),Nat.lt_succ_self k⟩
    ·replace h:=zAl hb h;refine zAI ?_;cases h;exact (Le.rename [(0,0),(2,2)] _ _ _ trivial ⟨rfl,⟨_,rfl,rfl⟩,rfl,⟨_,rfl,rfl⟩,trivial⟩ rfl rfl rfl rfl rfl)
 ·have hy:=Option.some.inj h;subst hy;unfold zCX;exact ⟨_,(Le.trans hle (Le.rename [(0,0),(2,2)] [] [(0,.box 27 [.orow 2]),(2,.row 54 8 ((List.map zAr) l11))] 3 trivial ⟨rfl,⟨_,rfl,rfl⟩,rfl,⟨_,rfl,rfl⟩,trivial⟩ rfl rfl rfl rfl rfl)),rfl,rfl,rfl,rfl,rfl,rfl,trivial⟩
theorem zIe : ∀ n,PSound Tryz.prog 26 (zCd (zCp n)):=by
 intro n
 induction n with
 | zero => exact zIs Tryz.call26 (fun xs os x os' h => by obtain ⟨_,_,_,_,_,h,_⟩:=h; cases h) _
 | succ n ih => exact zHR n ih
def zF2 : zAt:=zCd (fun xs os x os' => ∃ n,zCp n xs os x os')
theorem zI5 : PSound Tryz.prog 26 zF2:=zJE zIe _
theorem zGM {F : List Nd → List Nd → List Int → List (Int × List Int × Int × Int × List Nd × Int × List UInt8 × List UInt8) → Option (List (Int × List Int × Int × Int × List Nd × Int × List UInt8 × List UInt8))} {n : Nat} {xk yk : List Nd} {path : List Int} {j : Int} {o : List (Int × List Int × Int × Int × List Nd × Int × List UInt8 × List UInt8)} : ∀ {N : Nat} {y0 : List (Int × List Int × Int × Int × List Nd × Int × List UInt8 × List UInt8)},zBw F n xk yk path j o N = some y0 → ∃ A : Nat → List (Int × List Int × Int × Int × List Nd × Int × List UInt8 × List UInt8),A 0 = o ∧ A N = y0 ∧ ∀ i,i < N →
  ((at? xk ((xk.length - 1 - i : Nat) : Int)).bind fun ⟨u_kind,u_text,u_cols,u_kids⟩ => (at? yk ((xk.length - 1 - i : Nat) : Int)).bind fun ⟨v_kind,v_text,v_cols,v_kids⟩ => (zBk n [path,[j,((xk.length - 1 - i : Nat) : Int)]]).bind fun y => F u_kids v_kids y (A i)) = some (A (i + 1))
 | 0,y0,h => ⟨fun _ => o,rfl,Option.some.inj h,fun i hi => by omega⟩
 | N + 1,y0,h => by
  unfold zBw at h;obtain ⟨acc,h1,h⟩:=zAc h;obtain ⟨A,q1,q2,q3⟩:=zGM h1;refine ⟨fun i => if i = N + 1 then y0 else A i,by dsimp only; rw [if_neg (by omega)]; exact q1,by dsimp only; rw [if_pos rfl],fun i hi => ?_⟩
  dsimp only;rw [if_neg (by omega : ¬ i = N + 1)]
  by_cases e : i = N
  ·subst e;rw [if_pos rfl,q2]
   exact h
  ·rw [if_neg (by omega)]
   exact q3 i (by omega)
theorem zGL {F : List Nd → List Nd → List Int → List (Int × List Int × Int × Int × List Nd × Int × List UInt8 × List UInt8) → Option (List (Int × List Int × Int × Int × List Nd × Int × List UInt8 × List UInt8))} {n : Nat} {a b : List Nd} {path : List Int} {p : List (Int × Int)} {o : List (Int × List Int × Int × Int × List Nd × Int × List UInt8 × List UInt8)} : ∀ {N : Nat} {y0 : List (Int × Int)} {z0 : List (Int × List Int × Int × Int × List Nd × Int × List UInt8 × List UInt8)},zBv F n a b path p o N = some (y0,z0) → ∃ (P : Nat → List (Int × Int)) (O : Nat → List (Int × List Int × Int × Int × List Nd × Int × List UInt8 × List UInt8)),P 0 = p ∧ O 0 = o ∧ P N = y0 ∧ O N = z0 ∧ ∀ i,i < N →
  ∃ x,a[a.length - 1 - i]? = some x ∧ zBI F n b path ((a.length - 1 - i : Nat) : Int) x (P i) (O i) = some (P (i + 1),O (i + 1))
 | 0,y0,z0,h => by
  obtain ⟨h1,h2⟩:=Prod.mk.inj (Option.some.inj h)
  exact ⟨fun _ => p,fun _ => o,rfl,rfl,h1,h2,fun i hi => by omega⟩
 | N + 1,y0,z0,h => by
  unfold zBv at h;obtain ⟨⟨p1,o1⟩,h1,h⟩:=zAc h;obtain ⟨x,hx,h⟩:=zAc h;obtain ⟨P,O,q1,q2,q3,q4,q5⟩:=zGL h1;refine ⟨fun i => if i = N + 1 then y0 else P i,fun i => if i = N + 1 then z0 else O i,by dsimp only; rw [if_neg (by omega)]; exact q1,by dsimp only; rw [if_neg (by omega)]; exact q2,by dsimp only; rw [if_pos rfl],by dsimp only; rw [if_pos rfl],fun i hi => ?_⟩
  dsimp only;rw [if_neg (by omega : ¬ i = N + 1),if_neg (by omega : ¬ i = N + 1)]
  by_cases e : i = N
  ·subst e;rw [if_pos rfl,if_pos rfl,q3,q4]
   exact ⟨x,hx,h⟩
  ·rw [if_neg (by omega),if_neg (by omega)]
   exact q5 i (by omega)
def zCL (n : Nat) (xs : List AV) (os : List Ob) (x : AV) (os' : List (Option Ob)) : Prop:=∃ (a0 : List Nd) (a1 : List Nd) (a2 : List Int) (a3 : List (Int × List Int × Int × Int × List Nd × Int × List UInt8 × List UInt8)) (z0 : List (Int × List Int × Int × Int × List Nd × Int × List UInt8 × List UInt8)),zBO n a0 a1 a2 a3 = some z0 ∧ xs = [.s (.sl 4 (Nd.encs a0)),.s (.sl 4 (Nd.encs a1)),.s (.sl 1 ((List.map (irow .i64)) a2)),.clo 23 [.op 0 0]] ∧ os = [.box 27 [.orow 1],.row 54 8 ((List.map zAr) a3)] ∧ x = .tup [] ∧ os' = [some (.box 27 [.orow 2]),none,some (.row 54 8 ((List.map zAr) z0))]
theorem zIw (n : Nat) (ih : PSound Tryz.prog 25 (zCd (zCL n))) : PSound Tryz.prog 25 (zCd (zCL (n + 1))):=by
 have gok : ∀ f s,look? f [(45,zGV),(46,zD2),(23,zGU),(47,zDu),(25,zCd (zCL n))] = some s → PSound Tryz.prog f s:=zAu (by
  simp only [List.forall_mem_cons]
  exact ⟨zI4,zGj,zI3,zEI,ih,by simp⟩)
 refine PSound.withNil (zVr Tryz.call25 Tryz.func25 rfl (fun xs os x os' h => by obtain ⟨_,_,_,_,_,_,rfl,rfl,_,rfl⟩:=h; exact ⟨by show 4 ≤ 81; decide,by show 2 ≤ 3; decide⟩) 81 rfl ?_) _;rintro xs os x os' w0 G0 B0 ⟨a1,b2,path3,o4,z0,h,rfl,rfl,rfl,rfl⟩ _;rw [zBO] at h;obtain ⟨y5,hy5,h⟩:=zAc h;obtain ⟨hla,h⟩:=zAU h;obtain ⟨⟨p6,l6⟩,hr,h⟩:=zAc h;obtain rfl : l6 = z0:=Option.some.inj h;obtain ⟨P,O,hP0,hO0,hPN,hON,hst⟩:=zGL hr
 clear h hr
 refine zOf rfl ?_;refine zAb [7] [] rfl ?_;refine ⟨rfl,?_⟩
 refine zOf rfl ?_;refine zAb [8] [] rfl ?_;refine ⟨_,⟨_,_,_,_,hy5,rfl,rfl⟩,?_⟩
 refine ⟨rfl,?_⟩
 refine zOf rfl ?_;refine zAb [] [] rfl ?_;refine ⟨_,⟨_,rfl,rfl⟩,?_⟩
 refine ⟨rfl,?_⟩
 refine zUI (Le.rename [(0,0),(2,2),(3,3),(1,4)] [(5,.s (.pt [.sl 4 (Nd.encs b2)])),(6,.s (.pt [.sl 1 ((List.map (irow .i64)) path3)])),(7,.op 2 0),(8,.op 3 0),(17,.clo 68 [.s (.pt [.sl 4 (Nd.encs a1)])])] [(0,.box 27 [.orow 4]),(2,.box 56 [.clo 23 [.op 0 0]]),(3,.box 78 [.s (.sl 2 ((List.map zAx) y5))]),(4,.row 54 8 ((List.map zAr) o4))] 5 ⟨rfl,rfl,rfl,rfl,rfl,trivial⟩ ⟨rfl,⟨_,rfl,rfl⟩,rfl,⟨_,rfl,rfl⟩,rfl,⟨_,rfl,rfl⟩,rfl,⟨_,rfl,rfl⟩,trivial⟩ rfl rfl rfl rfl rfl) ?_;refine zSd ?_
 refine zSe rfl rfl (sz:=4) (rows:=Nd.encs a1) zSu Tryz.call68 rfl (fun r hr => by rw [Nd.encs_eq] at hr; obtain ⟨o,_,rfl⟩:=List.mem_map.1 hr; cases o; rfl) (by rw [rlen Nd.encs_eq]; omega)
  (fun i => (ofH [(0,.box 27 [.orow 4]),(2,.box 56 [.clo 23 [.op 0 0]]),(3,.box 78 [.s (.sl 2 ((List.map zAx) (P i)))]),(4,.row 54 8 ((List.map zAr) (O i)))],5)) (by dsimp only; rw [hP0,hO0]) 4 (zI1 rfl) (by show 2 ≤ 4; decide) (fun _ => by show 4 ≤ 5; decide) (by show 18 < 81; decide) (by show 19 < 81; decide) ?_ ?_
 ·intro i j row hij hrow l w X G B hl;rw [rlen Nd.encs_eq] at hij;obtain ⟨⟨x_kind,x_text,x_cols,x_kids⟩,hx,h⟩:=hst i (by omega)
  rw [show a1.length - 1 - i = j by omega] at hx h;rw [Nd.encs_eq,List.getElem?_map,hx] at hrow;obtain rfl:=Option.some.inj hrow;refine zAa ?_;refine zAb [9] [] rfl ?_;show Tri _ _ _ _;refine zAb [10] [] rfl ?_;refine ⟨rfl,fun w X G B hl => ?_⟩
  refine zAk (Le.giveBox 5 [.int .i64 (j : Int)] rfl rfl) ?_;refine zAk (Le.giveBox 6 [.int .i64 x_kind,.str x_text,.int .i64 x_cols,.sl 4 (Nd.encs x_kids)] rfl rfl) ?_;refine zAi ?_;rw [zBI] at h;refine zAa ?_;refine zAa ?_;obtain ⟨c,hj,h⟩:=zAc h
  refine zAp ⟨ofL [(5,.s (.pt [.sl 4 (Nd.encs b2)])),(6,.s (.pt [.sl 1 ((List.map (irow .i64)) path3)])),(7,.op 2 0),(8,.op 3 0),(9,.s (.pt [.int .i64 (j : Int)])),(10,.s (.pt [.int .i64 x_kind,.str x_text,.int .i64 x_cols,.sl 4 (Nd.encs x_kids)])),(33,.s (.bool c))],ofH [(0,.box 27 [.orow 4]),(2,.box 56 [.clo 23 [.op 0 0]]),(3,.box 78 [.s (.sl 2 ((List.map zAx) (P i)))]),(4,.row 54 8 ((List.map zAr) (O i)))],5⟩ ?_ (fun σ' hle => ?_)
  ·replace h:=hj;refine zGo (by exact tokW) (by exact gok) (by exact mixed) [] [21,23,26,28] [0,4,5] [0,4,5] rfl (by decide +kernel) ?_;intro n17 hn17;obtain rfl : ((P i).length : Int) = n17:=(hn17.trans (congrArg (fun m : Nat => (m : Int)) (rlen (fun _ => rfl) (P i)))).symm;intro b hb;cases b with
   | true =>
    replace h:=zAm hb.symm h;cases h;exact (Le.rename [(0,0),(2,2),(3,3),(4,4)] _ _ _ ⟨rfl,rfl,rfl,rfl,rfl,rfl,rfl,trivial⟩ ⟨rfl,⟨_,rfl,rfl⟩,rfl,⟨_,rfl,rfl⟩,rfl,⟨_,rfl,rfl⟩,rfl,⟨_,rfl,rfl⟩,trivial⟩ rfl rfl rfl rfl rfl)
   | false =>
    replace h:=zAl hb.symm h;obtain ⟨⟨e18_0,e18_1⟩,he18,h⟩:=zAc h;intro n19 hn19;obtain rfl : ((P i).length : Int) = n19:=(hn19.trans (congrArg (fun m : Nat => (m : Int)) (rlen (fun _ => rfl) (P i)))).symm;refine And.intro (zAz (fun _ => rfl) he18).1 ?_;intro r19 hr19;obtain rfl : [.int .i64 e18_0,.int .i64 e18_1] = r19:=(hr19.trans (zAz (fun _ => rfl) he18).2.1).symm;refine And.intro (by decide) ?_;cases h;exact (Le.rename [(0,0),(2,2),(3,3),(4,4)] _ _ _ ⟨rfl,rfl,rfl,rfl,rfl,rfl,rfl,trivial⟩ ⟨rfl,⟨_,rfl,rfl⟩,rfl,⟨_,rfl,rfl⟩,rfl,⟨_,rfl,rfl⟩,rfl,⟨_,rfl,rfl⟩,trivial⟩ rfl rfl rfl rfl rfl)
  ·show Tri _ _ _ _;refine zAk hle ?_;refine zAd rfl (fun hb => ?_) (fun hb => ?_)
   ·replace h:=zAm hb h;refine zAa ?_;refine zAb [] [38] rfl ?_;intro r20 hr20;obtain rfl : Nd.encs [Nd.mk x_kind x_text x_cols x_kids] = r20:=hr20.symm;obtain ⟨w21,hw21,h⟩:=zAc h;refine ⟨_,_,⟨_,_,_,_,hw21,rfl,rfl,rfl,rfl⟩,?_⟩
    show Tri _ _ _ _;refine zAI ?_;obtain ⟨hP,hO⟩:=Prod.mk.inj (Option.some.inj h)
    refine ⟨rfl,_,Le.rename [(0,0),(2,2),(3,3),(5,4)] [] [(0,.box 27 [.orow 4]),(2,.box 56 [.clo 23 [.op 0 0]]),(3,.box 78 [.s (.sl 2 ((List.map zAx) (P (i + 1))))]),(4,.row 54 8 ((List.map zAr) (O (i + 1))))] 5 trivial ⟨rfl,⟨_,rfl,rfl⟩,rfl,⟨_,rfl,rfl⟩,rfl,⟨_,rfl,by rw [← hP]; rfl⟩,rfl,⟨_,rfl,by rw [← hO]; rfl⟩,trivial⟩ rfl rfl rfl rfl rfl,rfl,rfl⟩
   ·replace h:=zAl hb h;refine zAg ?_;show Tri _ _ _ _;refine zAa ?_;refine zGo (by exact tokW) (by exact gok) (by exact mixed) [11] [44,46,49] [1,2,10,11] [1,2] rfl (by decide +kernel) ?_;obtain ⟨⟨e22_0,e22_1⟩,he22,h⟩:=zAc h;intro n20 hn20;obtain rfl : ((P i).length : Int) = n20:=(hn20.trans (congrArg (fun m : Nat => (m : Int)) (rlen (fun _ => rfl) (P i)))).symm;refine And.intro (zAz (fun _ => rfl) he22).1 ?_;intro r23 hr23;obtain rfl : [.int .i64 e22_0,.int .i64 e22_1] = r23:=(hr23.trans (zAz (fun _ => rfl) he22).2.1).symm;refine And.intro (by decide) ?_;obtain ⟨⟨y_kind,y_text,y_cols,y_kids⟩,he24,h⟩:=zAc h
    refine And.intro (zAz Nd.encs_eq he24).1 ?_;intro r25 hr25;obtain rfl : [.int .i64 y_kind,.str y_text,.int .i64 y_cols,.sl 4 (Nd.encs y_kids)] = r25:=(hr25.trans (zAz Nd.encs_eq he24).2.1).symm;show Tri _ _ _ _;refine zAk (Le.giveBox 5 [.int .i64 y_kind,.str y_text,.int .i64 y_cols,.sl 4 (Nd.encs y_kids)] rfl rfl) ?_;obtain ⟨hq,h⟩:=zAU h;obtain ⟨w,hw,h⟩:=zAc h;obtain ⟨hP,hO⟩:=Prod.mk.inj (Option.some.inj h)
    obtain ⟨A,hA0,hAN,hin⟩:=zGM hw;refine zAa ?_;refine zAb [] [53,55] rfl ?_;intro n26 hn26;obtain rfl : ((P i).length : Int) = n26:=(hn26.trans (congrArg (fun m : Nat => (m : Int)) (rlen (fun _ => rfl) (P i)))).symm;refine And.intro ⟨Int.le_refl _,hq.1,Int.le_trans hq.2.1 (Int.ofNat_le.2 (Nat.le_of_eq (rlen (fun _ => rfl) _).symm))⟩ ?_;intro r26 hr26;obtain rfl : (List.map zAx) (P (i + 1)) = r26:=by rw [hr26,← hP,List.map_take]; rfl
    show Tri _ _ _ _;refine zAa ?_;refine zAb [] [] rfl ?_;refine ⟨_,⟨_,rfl,rfl⟩,?_⟩
    show Tri _ _ _ _
    refine zAk (Le.rename [(0,0),(2,2),(3,3),(4,4)] [(6,.s (.pt [.sl 1 ((List.map (irow .i64)) path3)])),(7,.op 2 0),(9,.s (.pt [.int .i64 (j : Int)])),(10,.s (.pt [.int .i64 x_kind,.str x_text,.int .i64 x_cols,.sl 4 (Nd.encs x_kids)])),(11,.s (.pt [.int .i64 y_kind,.str y_text,.int .i64 y_cols,.sl 4 (Nd.encs y_kids)])),(58,.clo 68 [.s (.pt [.sl 4 (Nd.encs x_kids)])])] [(0,.box 27 [.orow 4]),(2,.box 56 [.clo 23 [.op 0 0]]),(3,.box 78 [.s (.sl 2 ((List.map zAx) (P (i + 1))))]),(4,.row 54 8 ((List.map zAr) (O i)))] 5 ⟨rfl,rfl,rfl,rfl,rfl,rfl,trivial⟩ ⟨rfl,⟨_,rfl,rfl⟩,rfl,⟨_,rfl,rfl⟩,rfl,⟨_,rfl,rfl⟩,rfl,⟨_,rfl,rfl⟩,trivial⟩ rfl rfl rfl rfl rfl) ?_
    refine zAi ?_;refine zSb rfl hl (sz:=4) (rows:=Nd.encs x_kids) zSu Tryz.call68 rfl (fun r hr => by rw [Nd.encs_eq] at hr; obtain ⟨o,_,rfl⟩:=List.mem_map.1 hr; cases o; rfl) (by rw [rlen Nd.encs_eq]; omega)
     (fun q => (ofH [(0,.box 27 [.orow 4]),(2,.box 56 [.clo 23 [.op 0 0]]),(3,.box 78 [.s (.sl 2 ((List.map zAx) (P (i + 1))))]),(4,.row 54 8 ((List.map zAr) (A q)))],5)) (by dsimp only; rw [hA0]) 4 (zI1 rfl) (Nat.le_refl _) (fun _ => by show 4 ≤ 5; decide) (by show 59 < 81; decide) (by show 60 < 81; decide) ?_ ?_
    ·intro i2 j2 row hij2 hrow2 l2 w X G B hl2;rw [rlen Nd.encs_eq] at hij2;have h:=hin i2 (by omega)
     rw [show x_kids.length - 1 - i2 = j2 by omega] at h;refine zAb [] [] rfl ?_;refine ⟨rfl,fun w X G B hl2 => ?_⟩
     refine zAi ?_;refine zAF (by exact tokW) (by exact gok) (by exact mixed) [] [64,70,76,77] [18,19] rfl (by decide +kernel) ?_;obtain ⟨⟨u_kind,u_text,u_cols,u_kids⟩,he34,h⟩:=zAc h;refine And.intro (zAz Nd.encs_eq he34).1 ?_;intro r35 hr35;obtain rfl : [.int .i64 u_kind,.str u_text,.int .i64 u_cols,.sl 4 (Nd.encs u_kids)] = r35:=(hr35.trans (zAz Nd.encs_eq he34).2.1).symm;obtain ⟨⟨v_kind,v_text,v_cols,v_kids⟩,he36,h⟩:=zAc h;refine And.intro (zAz Nd.encs_eq he36).1 ?_;intro r37 hr37;obtain rfl : [.int .i64 v_kind,.str v_text,.int .i64 v_cols,.sl 4 (Nd.encs v_kids)] = r37:=(hr37.trans (zAz Nd.encs_eq he36).2.1).symm
     intro r38 hr38;obtain rfl : (List.map (irow .i64)) [(j : Int),(j2 : Int)] = r38:=hr38.symm;intro r39 hr39;obtain rfl : (List.map zAv) [path3,[(j : Int),(j2 : Int)]] = r39:=hr39.symm;obtain ⟨y40,hy40,h⟩:=zAc h;refine ⟨_,⟨_,_,_,hy40,rfl,rfl⟩,?_⟩
     refine ⟨_,_,⟨_,_,_,_,_,h,rfl,rfl,rfl,rfl⟩,?_⟩
     refine ⟨rfl,_,Le.rename [(0,0),(2,2),(3,3),(5,4)] [] [(0,.box 27 [.orow 4]),(2,.box 56 [.clo 23 [.op 0 0]]),(3,.box 78 [.s (.sl 2 ((List.map zAx) (P (i + 1))))]),(4,.row 54 8 ((List.map zAr) (A (i2 + 1))))] 5 trivial ⟨rfl,⟨_,rfl,rfl⟩,rfl,⟨_,rfl,rfl⟩,rfl,⟨_,rfl,rfl⟩,rfl,⟨_,rfl,rfl⟩,trivial⟩ rfl rfl rfl rfl rfl,rfl,rfl⟩
    ·rw [rlen Nd.encs_eq,hAN]
     refine ⟨rfl,_,Le.rename [(0,0),(2,2),(3,3),(4,4)] [] [(0,.box 27 [.orow 4]),(2,.box 56 [.clo 23 [.op 0 0]]),(3,.box 78 [.s (.sl 2 ((List.map zAx) (P (i + 1))))]),(4,.row 54 8 ((List.map zAr) (O (i + 1))))] 5 trivial ⟨rfl,⟨_,rfl,rfl⟩,rfl,⟨_,rfl,rfl⟩,rfl,⟨_,rfl,rfl⟩,rfl,⟨_,rfl,by rw [← hO]; rfl⟩,trivial⟩ rfl rfl rfl rfl rfl,rfl,rfl⟩
 ·intro D w2 X G2 G' β' a2 hsw hc;rw [rlen Nd.encs_eq,hPN,hON] at hc;refine zT5 (c:=zEr Tryz.prog w0 B0 2 G0 81) tokW hsw rfl rfl rfl hc ?_;refine zQs ?_;unfold zCX;exact ⟨_,(Le.rename [(0,0),(4,2)] [] [(0,.box 27 [.orow 2]),(2,.row 54 8 ((List.map zAr) l6))] 3 trivial ⟨rfl,⟨_,rfl,rfl⟩,rfl,⟨_,rfl,rfl⟩,trivial⟩ rfl rfl rfl rfl rfl),rfl,rfl,rfl,rfl,rfl,rfl,trivial⟩
theorem zIQ : ∀ n,PSound Tryz.prog 25 (zCd (zCL n)):=by
 intro n
 induction n with
 | zero => exact zIs Tryz.call25 (fun xs os x os' h => by obtain ⟨_,_,_,_,_,h,_⟩:=h; cases h) _
 | succ n ih => exact zIw n ih
def zGJ : zAt:=zCd (fun xs os x os' => ∃ n,zCL n xs os x os')
theorem zJB : PSound Tryz.prog 25 zGJ:=zJE zIQ _
def zRF (n : Nat) (xs : List AV) (r : Ret) : Prop:=∃ (a0 : Nd) (a1 : Nd) (y0 : List (Int × List Int × Int × Int × List Nd × Int × List UInt8 × List UInt8)) (y1 : Int),zEm n a0 a1 = some (y0,y1) ∧ xs = [.agg ((Nd.enc a0).map .s),.agg ((Nd.enc a1).map .s)] ∧ r = .val (.tup [.s (.sl 8 ((List.map zAr) y0)),.s (.int .i64 y1)])
def zMy : zAt:=zAC fun xs r => ∃ n,zRF n xs r
theorem zQB : PSound Tryz.prog 8 zMy:=by
 have gok : ∀ f s,look? f [(22,zGW),(25,zGJ),(26,zF2)] = some s → PSound Tryz.prog f s:=zAu (by
  simp only [List.forall_mem_cons]
  exact ⟨zI6,zJB,zI5,by simp⟩)
 refine zAJ tokW Tryz.call8 Tryz.func8 rfl (fun xs r h => by obtain ⟨n,_,_,_,_,_,rfl,_⟩:=h; show 2 ≤ 26; decide) 26 rfl ?_;rintro xs r w0 G0 ⟨n,⟨a1_kind,a1_text,a1_cols,a1_kids⟩,⟨b2_kind,b2_text,b2_cols,b2_kids⟩,y0,y1,h,rfl,rfl⟩ _;rw [zEm] at h;refine zAa ?_;refine zAb [] [] rfl ?_;show Tri _ _ _ _;refine zAa ?_;refine zAa ?_;refine zAb [] [] rfl ?_;obtain ⟨y3,hy3,h⟩:=zAc h;refine ⟨_,⟨_,_,_,_,hy3,rfl,rfl⟩,?_⟩
 show Tri _ _ _ _;refine zAd rfl (fun hb => ?_) (fun hb => ?_)
 ·replace h:=zAm hb h;refine zAa ?_;refine zAb [] [] rfl ?_;show Tri _ _ _ _;refine zAh ?_;obtain ⟨hj1,hk1⟩:=Prod.mk.inj (Option.some.inj h)
  subst hj1;subst hk1;unfold zAy;exact ⟨_,Le.refl _ _,rfl,rfl⟩
 ·replace h:=zAl hb h;refine zAg ?_;show Tri _ _ _ _;refine zAa ?_;refine zAb [6] [] rfl ?_;show Tri _ _ _ _;refine zAk (Le.trans (Le.rename [(0,0)] [(2,.s (.pt [.int .i64 a1_kind,.str a1_text,.int .i64 a1_cols,.sl 4 (Nd.encs a1_kids)])),(3,.s (.pt [.int .i64 b2_kind,.str b2_text,.int .i64 b2_cols,.sl 4 (Nd.encs b2_kids)])),(6,.op 0 0)] [(0,.box 27 [.nl 8])] 1 ⟨rfl,rfl,rfl,trivial⟩ ⟨rfl,⟨_,rfl,rfl⟩,trivial⟩ rfl rfl rfl rfl rfl) (Le.takeNil 0 0 54 rfl rfl (by decide))) ?_;refine zAa ?_;refine zAb [] [] rfl ?_;show Tri _ _ _ _;refine zAa ?_;refine zAb [] [] rfl ?_;obtain ⟨w4,hw4,h⟩:=zAc h
  refine ⟨_,_,⟨_,_,_,_,_,_,hw4,rfl,rfl,rfl,rfl⟩,?_⟩
  show Tri _ _ _ _;refine zAa ?_;refine zAb [] [] rfl ?_;obtain ⟨w5,hw5,h⟩:=zAc h;refine ⟨_,_,⟨_,_,_,_,_,_,hw5,rfl,rfl,rfl,rfl⟩,?_⟩
  show Tri _ _ _ _;refine zAa ?_;refine zAb [] [] rfl ?_;show Tri _ _ _ _;refine zAh ?_;obtain ⟨hj1,hk1⟩:=Prod.mk.inj (Option.some.inj h)
  subst hj1;subst hk1;unfold zAy;exact ⟨_,(Le.trans (Le.rename [(3,0)] [(4,.orow 0),(5,.s (.int .i64 0))] [(0,.row 54 8 ((List.map zAr) w5))] 1 ⟨rfl,rfl,trivial⟩ ⟨rfl,⟨_,rfl,rfl⟩,trivial⟩ rfl rfl rfl rfl rfl) (Le.giveRow 0 rfl)),rfl,rfl⟩
def zQh (n : Nat) (xs : List AV) (r : Ret) : Prop:=∃ (a0 : Nd) (y0 : Bool),zEp n a0 = some y0 ∧ xs = [.agg ((Nd.enc a0).map .s)] ∧ r = .val (.s (.bool y0))
def zK2 : zAt:=zAC fun xs r => ∃ n,zQh n xs r
theorem zPE : PSound Tryz.prog 9 zK2:=by
 have gok : ∀ f s,look? f [(27,zMA),(28,zKY),(29,zKZ)] = some s → PSound Tryz.prog f s:=zAu (by
  simp only [List.forall_mem_cons]
  exact ⟨zQD,zPz,zPA,by simp⟩)
 refine zAJ tokW Tryz.call9 Tryz.func9 rfl (fun xs r h => by obtain ⟨n,_,_,_,rfl,_⟩:=h; show 1 ≤ 20; decide) 20 rfl ?_;rintro xs r w0 G0 ⟨n,⟨n1_kind,n1_text,n1_cols,n1_kids⟩,y0,h,rfl,rfl⟩ _;rw [zEp] at h;refine zAa ?_;refine zAb [] [] rfl ?_;show Tri _ _ _ _;refine zAa ?_;obtain ⟨x2,hj,h⟩:=zAc h;refine zAp ⟨ofL [(2,.s (.bool x2))],fun _ => none,0⟩ ?_ (fun σ' hle => ?_)
 ·replace h:=hj;refine zAb [] [6,10,15] rfl ?_;intro b hb;cases b with
  | true =>
   replace h:=zAm hb.symm h;obtain ⟨y3,hy3,h⟩:=zAc h;refine ⟨_,⟨_,_,_,hy3,rfl,rfl⟩,?_⟩
   intro b hb;cases b with
   | true =>
    replace h:=zAm hb.symm h;obtain ⟨y4,hy4,h⟩:=zAc h;refine ⟨_,⟨_,_,_,hy4,rfl,rfl⟩,?_⟩
    intro b hb;cases b with
    | true =>
     replace h:=zAm hb.symm h;obtain ⟨y5,hy5,h⟩:=zAc h;refine ⟨_,⟨_,_,_,hy5,rfl,rfl⟩,?_⟩
     cases h;exact (Le.forget _ ⟨rfl,trivial⟩)
    | false =>
     replace h:=zAl hb.symm h;cases h;exact (Le.forget _ ⟨rfl,trivial⟩)
   | false =>
    replace h:=zAl hb.symm h;intro b hb;subst hb;cases h;exact (Le.forget _ ⟨rfl,trivial⟩)
  | false =>
   replace h:=zAl hb.symm h;intro b hb;subst hb;intro b hb;subst hb;cases h;exact (Le.forget _ ⟨rfl,trivial⟩)
 ·show Tri _ _ _ _;refine zAk hle ?_;refine zAh ?_;have hy:=Option.some.inj h;subst hy;unfold zAy;exact ⟨_,Le.refl _ _,rfl,rfl⟩
def zJq (n : Nat) (xs : List AV) (r : Ret) : Prop:=∃ (a0 : Nd) (a1 : Nd) (y0 : Bool),zCs n a0 a1 = some y0 ∧ xs = [.agg ((Nd.enc a0).map .s),.agg ((Nd.enc a1).map .s)] ∧ r = .val (.s (.bool y0))
def zJt : zAt:=zAC fun xs r => ∃ n,zJq n xs r
theorem zI8 : PSound Tryz.prog 4 zJt:=by
 have gok : ∀ f s,look? f [(6,zKT),(7,zOD),(8,zMy),(9,zK2),(12,zGX),(13,zIH),(14,zIb),(15,zK1)] = some s → PSound Tryz.prog f s:=zAu (by
  simp only [List.forall_mem_cons]
  exact ⟨zPu,zR2,zQB,zPE,zKo,zMg,zJ7,zPC,by simp⟩)
 refine zAJ tokW Tryz.call4 Tryz.func4 rfl (fun xs r h => by obtain ⟨n,_,_,_,_,rfl,_⟩:=h; show 2 ≤ 78; decide) 78 rfl ?_;rintro xs r w0 G0 ⟨n,⟨a1_kind,a1_text,a1_cols,a1_kids⟩,⟨a2_kind,a2_text,a2_cols,a2_kids⟩,y0,h,rfl,rfl⟩ _;rw [zCs] at h;refine zAa ?_;refine zAb [] [] rfl ?_;show Tri _ _ _ _;refine zAa ?_;refine zAa ?_;refine zAb [] [] rfl ?_;obtain ⟨y3,hy3,h⟩:=zAc h;refine ⟨_,⟨_,_,hy3,rfl,rfl⟩,?_⟩
 show Tri _ _ _ _;refine zAd rfl (fun hb => ?_) (fun hb => ?_)
 ·replace h:=zAm hb h;refine zAa ?_;refine zAb [] [] rfl ?_;show Tri _ _ _ _;refine zAh ?_;have hy:=Option.some.inj h;subst hy;unfold zAy;exact ⟨_,Le.refl _ _,rfl,rfl⟩
 ·replace h:=zAl hb h;refine zAg ?_;show Tri _ _ _ _;refine zAa ?_;refine zAa ?_;refine zAb [] [] rfl ?_;obtain ⟨y4,hy4,h⟩:=zAc h;refine ⟨_,⟨_,_,_,_,hy4,rfl,rfl⟩,?_⟩
  show Tri _ _ _ _;refine zAd rfl (fun hb => ?_) (fun hb => ?_)
  ·replace h:=zAm hb h;refine zAa ?_;refine zAb [] [] rfl ?_;show Tri _ _ _ _;refine zAh ?_;have hy:=Option.some.inj h;subst hy;unfold zAy;exact ⟨_,Le.refl _ _,rfl,rfl⟩
  ·replace h:=zAl hb h;refine zAg ?_;show Tri _ _ _ _;refine zAa ?_;refine zAb [] [] rfl ?_;obtain ⟨⟨y5,y6⟩,hy5,h⟩:=zAc h;refine ⟨_,⟨_,_,_,_,_,hy5,rfl,rfl⟩,?_⟩
   show Tri _ _ _ _;refine zAa ?_;refine zAa ?_;refine zAb [] [] rfl ?_;show Tri _ _ _ _;refine zAd rfl (fun hb => ?_) (fun hb => ?_)
   ·replace h:=zAm hb h;refine zAa ?_;obtain ⟨x7,hj,h⟩:=zAc h;refine zAp ⟨ofL [(4,.s (.bool x7))],fun _ => none,0⟩ ?_ (fun σ' hle => ?_)
    ·replace h:=hj;refine zAb [] [31] rfl ?_;obtain ⟨y8,hy8,h⟩:=zAc h;refine ⟨_,⟨_,_,_,hy8,rfl,rfl⟩,?_⟩
     intro b hb;cases b with
     | true =>
      replace h:=zAm hb.symm h;cases h;exact (Le.forget _ ⟨rfl,trivial⟩)
     | false =>
      replace h:=zAl hb.symm h;obtain ⟨y9,hy9,h⟩:=zAc h;refine ⟨_,⟨_,_,_,hy9,rfl,rfl⟩,?_⟩
      cases h;exact (Le.forget _ ⟨rfl,trivial⟩)
    ·show Tri _ _ _ _;refine zAk hle ?_;refine zAh ?_;have hy:=Option.some.inj h;subst hy;unfold zAy;exact ⟨_,Le.refl _ _,rfl,rfl⟩
   ·replace h:=zAl hb h;refine zAg ?_;show Tri _ _ _ _;refine zAa ?_;refine zAb [7] [] rfl ?_;obtain ⟨⟨⟨y10_kind,y10_text,y10_cols,y10_kids⟩,y11,y12⟩,hy10,h⟩:=zAc h;refine ⟨_,⟨_,_,_,_,_,_,hy10,rfl,rfl⟩,?_⟩
    show Tri _ _ _ _;refine zAk (Le.giveBox 0 [.int .i64 y10_kind,.str y10_text,.int .i64 y10_cols,.sl 4 (Nd.encs y10_kids)] rfl rfl) ?_;refine zAa ?_;refine zAb [] [] rfl ?_;obtain ⟨⟨y13,y14⟩,hy13,h⟩:=zAc h;refine ⟨_,⟨_,_,_,_,hy13,rfl,rfl⟩,?_⟩
    show Tri _ _ _ _;refine zAa ?_;refine zAb [] [] rfl ?_;obtain ⟨⟨y15,y16⟩,hy15,h⟩:=zAc h;refine ⟨_,⟨_,_,_,_,_,hy15,rfl,rfl⟩,?_⟩
    show Tri _ _ _ _;refine zAa ?_;obtain ⟨x17,hj,h⟩:=zAc h;refine zAp ⟨ofL [(4,.s (.bool x17))],fun _ => none,0⟩ ?_ (fun σ' hle => ?_)
    ·replace h:=hj;refine zAb [] [56,60,65,69,73] rfl ?_;intro b hb;cases b with
     | true =>
      replace h:=zAm hb.symm h;intro b hb;cases b with
      | true =>
       replace h:=zAm hb.symm h;obtain ⟨y18,hy18,h⟩:=zAc h;refine ⟨_,⟨_,_,_,_,hy18,rfl,rfl⟩,?_⟩
       intro b hb;cases b with
       | true =>
        replace h:=zAm hb.symm h;intro b hb;cases b with
        | true =>
         replace h:=zAm hb.symm h;intro b hb;cases b with
         | true =>
          replace h:=zAm hb.symm h;cases h;exact (Le.rename [] _ [] 0 ⟨rfl,trivial⟩ trivial rfl rfl rfl rfl rfl)
         | false =>
          replace h:=zAl hb.symm h;cases h;exact (Le.rename [] _ [] 0 ⟨rfl,trivial⟩ trivial rfl rfl rfl rfl rfl)
        | false =>
         replace h:=zAl hb.symm h;intro b hb;subst hb;cases h;exact (Le.rename [] _ [] 0 ⟨rfl,trivial⟩ trivial rfl rfl rfl rfl rfl)
       | false =>
        replace h:=zAl hb.symm h;intro b hb;subst hb;intro b hb;subst hb;cases h;exact (Le.rename [] _ [] 0 ⟨rfl,trivial⟩ trivial rfl rfl rfl rfl rfl)
      | false =>
       replace h:=zAl hb.symm h;intro b hb;subst hb;intro b hb;subst hb;intro b hb;subst hb;cases h;exact (Le.rename [] _ [] 0 ⟨rfl,trivial⟩ trivial rfl rfl rfl rfl rfl)
     | false =>
      replace h:=zAl hb.symm h;intro b hb;subst hb;intro b hb;subst hb;intro b hb;subst hb;intro b hb;subst hb;cases h;exact (Le.rename [] _ [] 0 ⟨rfl,trivial⟩ trivial rfl rfl rfl rfl rfl)
    ·show Tri _ _ _ _;refine zAk hle ?_;refine zAh ?_;have hy:=Option.some.inj h;subst hy;unfold zAy;exact ⟨_,Le.refl _ _,rfl,rfl⟩
end Go.Proofs.YtjdhkpdjecegnaaGreatDoor
namespace Go.Proofs.YtjdhkpdjecegnaaGreatDoor
open Go.Abs
theorem zRD {n : Nat} {ss : List S} (h : Typed T n 24 ss) : ∃ t : Nd,ss = t.enc ∧ t.rng :=
 zSf (T:=T) (e:=24) (s:=22) (ki:=3) (st:=9) rfl rfl rfl rfl rfl rfl rfl rfl rfl n h
end Go.Proofs.YtjdhkpdjecegnaaGreatDoor
namespace Go.Proofs.YtjdhkpdjecegnaaGreatDoor
open Go.Abs
theorem zBd {φ : Prop} [Decidable φ] (h : φ) : decide φ = true:=decide_eq_true h
theorem zBc {φ : Prop} [Decidable φ] (h : ¬ φ) : decide φ = false:=decide_eq_false h
theorem zH2 {F : Nd → Option Int} {ks : List Nd} (hF : ∀ v ∈ ks,F v = some (v.cnt : Int)) :
  ∀ (k i : Nat) (o : Nat),ks.length - i < k → i ≤ ks.length → o + Nd.cnts (ks.drop i) ≤ 1073741824 → ks.length ≤ 1073741824 → zCh F ks k (o : Int) (i : Int) = some ((o + Nd.cnts (ks.drop i) : Nat) : Int)
 | 0,_,_,h,_,_,_ => by omega
 | k + 1,i,o,hk,hi,ho,hl => by
  unfold zCh
  by_cases h : i < ks.length
  ·rw [zBd (Int.ofNat_lt.2 h),cond_true,zBt h]
   have hd:=Nd.cnts_drop h;have hf:=hF _ (List.getElem_mem h)
   rcases e : ks[i] with ⟨a,b,c,d⟩
   rw [e] at hd hf;simp only [Option.bind_some,hf]
   rw [wrap64_in (by omega) (by omega),zAS (by omega),← Int.natCast_add,zH2 hF k (i + 1) _ (by omega) (by omega) (by omega) hl,hd]
   congr 2; omega
  ·rw [zBc (by omega),cond_false]
   obtain rfl : i = ks.length:=by omega
   simp [Nd.cnts]
theorem zKb : ∀ (n : Nat) (t : Nd),t.cnt < n → t.cnt ≤ 67108864 → zCE n t = some (t.cnt : Int)
 | 0,_,h,_ => by omega
 | n + 1,.mk a b c ks,h,hb => by
  simp only [Nd.cnt] at h hb;have hl:=Nd.cnts_len ks;unfold zCE;have:=zH2 (F:=zCE n) (ks:=ks) (fun v hv => zKb n v (by have:=Nd.cnts_mem hv; omega) (by have:=Nd.cnts_mem hv; omega)) n 0 1 (by omega) (by omega) (by simp; omega) (by omega)
  rw [show ((0 : Nat) : Int) = 0 from rfl,show ((1 : Nat) : Int) = 1 from rfl] at this;rw [this]
  simp only [Option.bind_some,List.drop_zero,Nd.cnt]
  congr 2; omega
def scnt : List (Nd × Int) → Nat
 | [] => 0
 | p :: l => p.1.cnt + scnt l
theorem zIu : ∀ a b : List (Nd × Int),scnt (a ++ b) = scnt a + scnt b
 | [],b => by simp [scnt]
 | v :: a,b => by simp only [List.cons_append,scnt,zIu a b]; omega
theorem zN9 : ∀ a : List (Nd × Int),a.length ≤ scnt a
 | [] => Nat.le_refl _
 | v :: a => by have:=zN9 a; have:=v.1.cnt_pos; simp only [scnt,List.length_cons]; omega
theorem zMN {ks : List Nd} {d : Int} : ∀ (k i : Nat) (l : List (Nd × Int)),ks.length - i < k → i ≤ ks.length → scnt l + Nd.cnts (ks.drop i) ≤ 1073741824 → ks.length ≤ 1073741824 →
  ∃ l',zCg ks d k (i : Int) l = some l' ∧ scnt l' = scnt l + Nd.cnts (ks.drop i)
 | 0,_,_,h,_,_,_ => by omega
 | k + 1,i,l,hk,hi,ho,hl => by
  unfold zCg
  by_cases h : i < ks.length
  ·rw [zBd (Int.ofNat_lt.2 h),cond_true,zBt h]
   have hd:=Nd.cnts_drop h;rcases e : ks[i] with ⟨a,b,c,e4⟩
   rw [e] at hd;have hp:=(Nd.mk a b c e4).cnt_pos;have hll:=zN9 l;simp only [Option.bind_some]
   rw [zC4 (by simp only [List.length_singleton]; omega),zAS (by omega)]
   have hs : scnt (l ++ [(Nd.mk a b c e4,IntKind.i64.wrap (d + 1))]) = scnt l + (Nd.mk a b c e4).cnt:=by rw [zIu]; simp [scnt]
   obtain ⟨l',h1,h2⟩:=zMN (ks:=ks) (d:=d) k (i + 1) (l ++ [(Nd.mk a b c e4,IntKind.i64.wrap (d + 1))]) (by omega) (by omega) (by omega) hl;exact ⟨l',h1,by omega⟩
  ·rw [zBc (by omega),cond_false]
   obtain rfl : i = ks.length:=by omega
   exact ⟨l,rfl,by simp [Nd.cnts]⟩
theorem zMM (n : Nat) : ∀ (k : Nat) (x : Nat) (l : List (Nd × Int)),scnt l < k → scnt l < n → x + scnt l ≤ 67108864 → zCf n k (x : Int) l = some ((x + scnt l : Nat) : Int)
 | 0,_,_,h,_,_ => by omega
 | k + 1,x,l,hk,hn,hx => by
  unfold zCf;rcases List.eq_nil_or_concat l with rfl | ⟨l,p,rfl⟩
  ·simp [scnt]
  ·rw [List.concat_eq_append] at *;obtain ⟨⟨a,b,c,ks⟩,d⟩:=p;have hs : scnt (l ++ [(Nd.mk a b c ks,d)]) = scnt l + (Nd.cnts ks + 1):=by rw [zIu]; simp [scnt,Nd.cnt]
   have hll:=zN9 l;have hlk:=Nd.cnts_len ks;have hlen : ((l ++ [(Nd.mk a b c ks,d)]).length : Int) = (l.length : Int) + 1:=by simp
   have hw : IntKind.i64.wrap (((l ++ [(Nd.mk a b c ks,d)]).length : Int) - 1) = (l.length : Int):=by rw [hlen,wrap64_in (by omega) (by omega)]; omega
   rw [zBd (by omega),cond_true,hw,zBt (by simp)]
   simp only [List.getElem_concat_length,Option.bind_some]
   rw [zC4 (by omega)]
   simp only [zEv,Option.bind_some,Int.toNat_natCast,List.take_left]
   obtain ⟨l',h1,h2⟩:=zMN (ks:=ks) (d:=d) n 0 l (by omega) (by omega) (by simp; omega) (by omega)
   rw [List.drop_zero] at h2;rw [show ((0 : Nat) : Int) = 0 from rfl] at h1;rw [h1,Option.bind_some,zAS (by omega),zMM n k (x + 1) l' (by omega) (by omega) (by omega)]
   congr 2; omega
theorem zI2 (n : Nat) (t : Nd) (h : t.cnt < n) (hb : t.cnt ≤ 67108864) : zDX n t = some (t.cnt : Int):=by
 obtain ⟨a,b,c,ks⟩:=t;have:=zMM n n 0 [(.mk a b c ks,1)] (by simpa [scnt] using h) (by simpa [scnt] using h) (by simp only [scnt]; omega)
 rw [show ((0 : Nat) : Int) = 0 from rfl] at this;simp only [zDX,zGC,this,Option.bind_some,scnt]
 congr 2; omega
theorem zPj {F : Nd → Int → Option Int} {ks : List Nd} {b : Nat} (hF : ∀ (v : Nd) (m : Nat),m ≤ b → ∃ r,F v (m : Int) = some r ∧ -1 ≤ r ∧ r < m ∧ (0 ≤ r → r + v.cnt = m)) :
  ∀ (k i : Nat) (m : Int),m + 1 < k → -1 ≤ m → m ≤ b → i ≤ ks.length → (i : Int) + m < 4611686018427387904 → ∃ r,zCc F ks k m (i : Int) = some r ∧ -1 ≤ r ∧ r ≤ m ∧ (0 ≤ r → r + Nd.cnts (ks.drop i) = m)
 | 0,_,_,h,_,_,_,_ => by omega
 | k + 1,i,m,hk,hm,hb,hi,hx => by
  unfold zCc
  by_cases h : i < ks.length
  ·rw [zBd (Int.ofNat_lt.2 h),cond_true]
   simp only [Option.bind_some]
   by_cases h0 : 0 ≤ m
   ·rw [zBd h0,cond_true,zBt h]
    have hd:=Nd.cnts_drop h;rcases e : ks[i] with ⟨e1,e2,e3,e4⟩
    rw [e] at hd;simp only [Option.bind_some]
    obtain ⟨m',rfl⟩:=Int.eq_ofNat_of_zero_le h0;obtain ⟨r,h1,h2,h3,h4⟩:=hF (.mk e1 e2 e3 e4) m' (by omega)
    rw [h1,Option.bind_some,zAS (by omega)]
    obtain ⟨r',g1,g2,g3,g4⟩:=zPj (ks:=ks) hF k (i + 1) r (by omega) h2 (by omega) (by omega) (by omega)
    exact ⟨r',g1,g2,by omega,fun g => by have:=g4 g; have:=h4 (by omega); omega⟩
   ·rw [zBc h0,cond_false]
    exact ⟨m,rfl,hm,Int.le_refl _,fun g => by omega⟩
  ·rw [zBc (by omega),cond_false]
   simp only [Option.bind_some,cond_false]
   obtain rfl : i = ks.length:=by omega
   exact ⟨m,rfl,hm,Int.le_refl _,fun _ => by simp [Nd.cnts]⟩
theorem left_eq : ∀ (n : Nat) (t : Nd) (m : Nat),m + 1 < n → m ≤ 67108864 → ∃ r,zDo n t (m : Int) = some r ∧ -1 ≤ r ∧ r < m ∧ (0 ≤ r → r + t.cnt = m)
 | 0,_,_,h,_ => by omega
 | n + 1,.mk a b c ks,m,h,hm => by
  unfold zDo;rw [wrap64_in (by omega) (by omega)]
  cases m with
  | zero =>
   cases n with
   | zero => omega
   | succ n =>
    refine ⟨-1,?_,by omega,by omega,fun h => by omega⟩
    unfold zCc;cases decide (((0 : Nat) : Int) < (ks.length : Int)) <;> simp <;> rfl
  | succ m =>
   obtain ⟨r,h1,h2,h3,h4⟩:=zPj (F:=zDo n) (ks:=ks) (b:=m) (fun v q hq => left_eq n v q (by omega) (by omega)) n 0 (m : Int) (by omega) (by omega) (by omega) (by omega) (by omega)
   rw [show ((0 : Nat) : Int) = 0 from rfl] at h1;rw [show ((m + 1 : Nat) : Int) - 1 = (m : Int) by omega,h1]
   exact ⟨r,rfl,h2,by omega,fun g => by have:=h4 g; rw [List.drop_zero] at this; simp only [Nd.cnt]; omega⟩
theorem zUP (n : Nat) (t : Nd) (m : Nat) (h : m + 1 < n) (hm : m ≤ 67108864) : ∃ b,zGf n t (m : Int) = some b ∧ (b = true → t.cnt ≤ m):=by
 obtain ⟨a,b,c,ks⟩:=t;obtain ⟨r,h1,h2,h3,h4⟩:=left_eq n (.mk a b c ks) m h hm;refine ⟨decide (0 ≤ r),by simp [zGf,h1],fun g => by have g0:=of_decide_eq_true g; have:=h4 g0; omega⟩
end Go.Proofs.YtjdhkpdjecegnaaGreatDoor
namespace Go.Proofs.YtjdhkpdjecegnaaGreatDoor
open Go.Abs
def zNq {α : Type} (p : α → Bool) (l : List α) : Fl Bool Unit:=if l.all p then .go () else .ret false
theorem zTR {α : Type} {p : α → Bool} {l : List α} {i : Nat} (h : i < l.length) : (l.drop i).all p = (p l[i] && (l.drop (i + 1)).all p):=by
 rw [List.drop_eq_getElem_cons h]; rfl
theorem zTS {α : Type} {p : α → Bool} {l : List α} {i : Nat} (h : i < l.length) : (l.drop i).any p = (p l[i] || (l.drop (i + 1)).any p):=by
 rw [List.drop_eq_getElem_cons h]; rfl
theorem zHC {α : Type} {p : α → Bool} {l : List α} (L : Nat → Int → Option (Fl Bool Unit)) (hb : l.length ≤ 1073741824)
  (h1 : ∀ (k i : Nat) (h : i < l.length),L (k + 1) (i : Int) = if p l[i] then L k (((i + 1 : Nat)) : Int) else some (.ret false)) (h2 : ∀ k,L (k + 1) (l.length : Int) = some (.go ())) :
  ∀ (k i : Nat),l.length - i < k → i ≤ l.length → L k (i : Int) = some (zNq p (l.drop i))
 | 0,_,h,_ => by omega
 | k + 1,i,hk,hi => by
  by_cases h : i < l.length
  ·rw [h1 k i h,zHC L hb h1 h2 k (i + 1) (by omega) (by omega)]
   unfold zNq;rw [zTR h]
   cases p l[i] <;> simp
  ·obtain rfl : i = l.length:=by omega
   rw [h2]; simp [zNq]
theorem zNF {α : Type} {p : α → Bool} {l : List α} (L : Nat → Int → Option (Fl Bool Unit)) (hb : l.length ≤ 1073741824)
  (h1 : ∀ (k i : Nat) (h : i < l.length),L (k + 1) (i : Int) = if p l[i] then some (.ret true) else L k (((i + 1 : Nat)) : Int)) (h2 : ∀ k,L (k + 1) (l.length : Int) = some (.go ())) :
  ∀ (k i : Nat),l.length - i < k → i ≤ l.length → L k (i : Int) = some (if (l.drop i).any p then .ret true else .go ())
 | 0,_,h,_ => by omega
 | k + 1,i,hk,hi => by
  by_cases h : i < l.length
  ·rw [h1 k i h,zNF L hb h1 h2 k (i + 1) (by omega) (by omega),zTS h]
   cases p l[i] <;> simp
  ·obtain rfl : i = l.length:=by omega
   rw [h2]; simp
theorem zKh {P : UInt8 → Bool} (h : (List.range 256).all (fun n => P n.toUInt8) = true) (b : UInt8) : P b = true:=by
 have : P (UInt8.ofNat b.toNat) = true:=List.all_eq_true.1 h b.toNat (List.mem_range.2 b.toNat_lt)
 rwa [UInt8.ofNat_toNat] at this
def zC7 (b : UInt8) : Bool:=(decide (97 ≤ b.toNat) && decide (b.toNat ≤ 122)) || (decide (65 ≤ b.toNat) && decide (b.toNat ≤ 90))
def zDt (b : UInt8) : Bool:=decide (48 ≤ b.toNat) && decide (b.toNat ≤ 57)
def zGm (b : UInt8) : Bool:=decide (32 ≤ b.toNat) && decide (b.toNat ≤ 126)
theorem zOM (b : UInt8) : (bif decide ((zLa .or .u8 (b.toNat : Int) 32) < 97) then some true else some (decide (122 < (zLa .or .u8 (b.toNat : Int) 32)))) = some (!zC7 b) :=
 of_decide_eq_true (zKh (P:=fun b => decide ((bif decide ((zLa .or .u8 (b.toNat : Int) 32) < 97) then some true else some (decide (122 < (zLa .or .u8 (b.toNat : Int) 32)))) = some (!zC7 b))) (by decide +kernel) b)
theorem zJ2 (b : UInt8) : zDZ (b.toNat : Int) = some (zC7 b) :=
 of_decide_eq_true (zKh (P:=fun b => decide (zDZ (b.toNat : Int) = some (zC7 b))) (by decide +kernel) b)
theorem zQm (b : UInt8) : zFo (b.toNat : Int) = some (zDt b) :=
 of_decide_eq_true (zKh (P:=fun b => decide (zFo (b.toNat : Int) = some (zDt b))) (by decide +kernel) b)
theorem zLu (n : Nat) (s : List UInt8) (h : s.length < n) (hb : s.length ≤ 1073741824) : zCU n s = some (s.all zC7):=by
 have:=zHC (p:=zC7) (l:=s) (zBr s) hb (fun k i h => by
  rw [zBr,zBd (Int.ofNat_lt.2 h),cond_true,zBt h]
  simp only [Option.bind_some,zOM]
  rw [zAS (by omega)]
  cases zC7 s[i] <;> rfl) (fun k => by rw [zBr,zBc (by omega)]; rfl) n 0 (by omega) (by omega)
 rw [show ((0 : Nat) : Int) = 0 from rfl,List.drop_zero] at this;rw [zCU,this]
 unfold zNq;cases s.all zC7 <;> rfl
theorem zMo (n : Nat) (s : List UInt8) (h : s.length < n) (hb : s.length ≤ 1073741824) : zBz s n 0 = some (zNq zC7 s):=by
 have:=zHC (p:=zC7) (l:=s) (zBz s) hb (fun k i h => by
  rw [zBz,zBd (Int.ofNat_lt.2 h),cond_true,zBt h]
  simp only [Option.bind_some,zJ2]
  rw [zAS (by omega)]
  cases zC7 s[i] <;> rfl) (fun k => by rw [zBz,zBc (by omega)]; rfl) n 0 (by omega) (by omega)
 rwa [show ((0 : Nat) : Int) = 0 from rfl,List.drop_zero] at this
theorem zM4 (n : Nat) (s : List UInt8) (c : Int) (h : s.length < n) (hb : s.length ≤ 1073741824) : zDc n s c = some (s.any fun b => (b.toNat : Int) == c):=by
 have:=zNF (p:=fun b => (b.toNat : Int) == c) (l:=s) (zCz s c) hb (fun k i h => by
  rw [zCz,zBd (Int.ofNat_lt.2 h),cond_true,zBt h]
  simp only [Option.bind_some]
  rw [zAS (by omega)]
  cases ((s[i].toNat : Int) == c) <;> rfl) (fun k => by rw [zCz,zBc (by omega)]; rfl) n 0 (by omega) (by omega)
 rw [show ((0 : Nat) : Int) = 0 from rfl,List.drop_zero] at this;rw [zDc,this]
 cases s.any fun b => (b.toNat : Int) == c <;> rfl
theorem zLH (n : Nat) (l : List (List UInt8)) (s : List UInt8) (h : l.length < n) (hb : l.length ≤ 1073741824) : zEw n l s = some (l.any fun e => e == s):=by
 have:=zNF (p:=fun e => e == s) (l:=l) (zDa l s) hb (fun k i h => by
  rw [zDa,zBd (Int.ofNat_lt.2 h),cond_true,zBt h]
  simp only [Option.bind_some]
  rw [zAS (by omega)]
  cases (l[i] == s) <;> rfl) (fun k => by rw [zDa,zBc (by omega)]; rfl) n 0 (by omega) (by omega)
 rw [show ((0 : Nat) : Int) = 0 from rfl,List.drop_zero] at this;rw [zEw,this]
 cases l.any fun e => e == s <;> rfl
theorem zFU (n : Nat) (s : List UInt8) (h : s.length < n) (hb : s.length ≤ 1073741824) : zDl n s = some (s.all zDt && !(s == [])):=by
 have:=zHC (p:=zDt) (l:=s) (zBA s) hb (fun k i h => by
  rw [zBA,zBd (Int.ofNat_lt.2 h),cond_true,zBt h]
  simp only [Option.bind_some]
  rw [zAS (by omega)]
  unfold zDt
  by_cases a : 48 ≤ s[i].toNat
  ·by_cases b : s[i].toNat ≤ 57
   ·simp [a,b,show ¬ ((s[i].toNat : Int) < 48) by omega,show ¬ (57 < (s[i].toNat : Int)) by omega]
   ·simp [a,b,show ¬ ((s[i].toNat : Int) < 48) by omega,show (57 < (s[i].toNat : Int)) by omega]
  ·simp [a,show ((s[i].toNat : Int) < 48) by omega]) (fun k => by rw [zBA,zBc (by omega)]; rfl) n 0 (by omega) (by omega)
 rw [show ((0 : Nat) : Int) = 0 from rfl,List.drop_zero] at this;rw [zDl,this]
 unfold zNq;cases s.all zDt <;> rfl
theorem zPM (b : UInt8) : (bif decide ((b.toNat : Int) < 32) then some true else some (decide (126 < (b.toNat : Int))) : Option Bool) = some (!zGm b):=by
 unfold zGm
 by_cases a : 32 ≤ b.toNat
 ·by_cases c : b.toNat ≤ 126
  ·simp [a,c,show ¬ ((b.toNat : Int) < 32) by omega,show ¬ (126 < (b.toNat : Int)) by omega]
  ·simp [a,c,show ¬ ((b.toNat : Int) < 32) by omega,show (126 < (b.toNat : Int)) by omega]
 ·simp [a,show ((b.toNat : Int) < 32) by omega]
theorem zNK (n : Nat) (s : List UInt8) (h : s.length < n) (hb : s.length ≤ 1073741824) : zEF n s = some (s.all zGm && decide ((s.length : Int) ≤ 200)):=by
 have:=zHC (p:=zGm) (l:=s) (zBF s) hb (fun k i h => by
  rw [zBF,zBd (Int.ofNat_lt.2 h),cond_true,zBt h]
  simp only [Option.bind_some,zPM]
  rw [zAS (by omega)]
  cases zGm s[i] <;> rfl) (fun k => by rw [zBF,zBc (by omega)]; rfl) n 0 (by omega) (by omega)
 rw [show ((0 : Nat) : Int) = 0 from rfl,List.drop_zero] at this;rw [zEF,this]
 unfold zNq;cases s.all zGm <;> rfl
theorem zKr (n : Nat) (s : List UInt8) (h : s.length < n) (hb : s.length ≤ 1073741824) : zDb n s = some (s.all zGm):=by
 have:=zHC (p:=zGm) (l:=s) (zBm s) hb (fun k i h => by
  rw [zBm,zBd (Int.ofNat_lt.2 h),cond_true,zBt h]
  simp only [Option.bind_some,zPM]
  rw [zAS (by omega)]
  cases zGm s[i] <;> rfl) (fun k => by rw [zBm,zBc (by omega)]; rfl) n 0 (by omega) (by omega)
 rw [show ((0 : Nat) : Int) = 0 from rfl,List.drop_zero] at this;rw [zDb,this]
 unfold zNq;cases s.all zGm <;> rfl
end Go.Proofs.YtjdhkpdjecegnaaGreatDoor
namespace Go.Proofs.YtjdhkpdjecegnaaGreatDoor
open Go.Abs
def spL : List UInt8:=[43,45,42,47,61,60,62,44,59,58,33,124,39,63,126,64]
def fsL : List UInt8:=[40,41,91,93,123,125,60,62,47,124,46]
def kwL : List (List UInt8):=[[102,114,97,99],[114,111,111,116],[109,97,116,114,105,120],[102,101,110,99,101]]
def acL : List (List UInt8):=[[104,97,116],[98,97,114],[118,101,99],[100,111,116],[116,105,108,100,101],[99,104,101,99,107]]
def spB (c : UInt8) : Bool:=decide (0 ≤ Lib.indexByte spL c)
def fsB (c : UInt8) : Bool:=decide (0 ≤ Lib.indexByte fsL c)
theorem zVb (c : UInt8) : (spL.any fun b => (b.toNat : Int) == (c.toNat : Int)) = spB c :=
 of_decide_eq_true (zKh (P:=fun c => decide ((spL.any fun b => (b.toNat : Int) == (c.toNat : Int)) = spB c)) (by decide +kernel) c)
theorem zVa (c : UInt8) : (([40,41,91,93,123,125,124,60,62,47,46] : List UInt8).any fun b => (b.toNat : Int) == (c.toNat : Int)) = fsB c :=
 of_decide_eq_true (zKh (P:=fun c => decide ((([40,41,91,93,123,125,124,60,62,47,46] : List UInt8).any fun b => (b.toNat : Int) == (c.toNat : Int)) = fsB c)) (by decide +kernel) c)
theorem zTW (c : UInt8) : Lib.indexByte fsL ((c.toNat : Int).toNat.toUInt8) = Lib.indexByte fsL c:=by
 rw [Int.toNat_natCast]; congr 1; exact UInt8.ofNat_toNat
theorem zK9 (e s : List UInt8) : (e == s) = (s == e):=by
 rw [Bool.eq_iff_iff]; simp only [beq_iff_eq]; exact eq_comm
theorem zLt (s : List UInt8) : zDD s = some (kwL.any fun e => e == s):=by
 simp only [zDD,kwL,List.any_cons,List.any_nil,zK9 [102,114,97,99] s,zK9 [114,111,111,116] s,zK9 [109,97,116,114,105,120] s,zK9 [102,101,110,99,101] s]
 generalize (s == [102,114,97,99]) = b1;generalize (s == [114,111,111,116]) = b2;generalize (s == [109,97,116,114,105,120]) = b3;generalize (s == [102,101,110,99,101]) = b4;cases b1 <;> cases b2 <;> cases b3 <;> cases b4 <;> rfl
theorem zHZ (s : List UInt8) : zDk s = some (acL.any fun e => e == s):=by
 simp only [zDk,acL,List.any_cons,List.any_nil,zK9 [104,97,116] s,zK9 [98,97,114] s,zK9 [118,101,99] s,zK9 [100,111,116] s,zK9 [116,105,108,100,101] s,zK9 [99,104,101,99,107] s]
 generalize (s == [104,97,116]) = b1;generalize (s == [98,97,114]) = b2;generalize (s == [118,101,99]) = b3;generalize (s == [100,111,116]) = b4;generalize (s == [116,105,108,100,101]) = b5;generalize (s == [99,104,101,99,107]) = b6;cases b1 <;> cases b2 <;> cases b3 <;> cases b4 <;> cases b5 <;> cases b6 <;> rfl
def symB (s : List UInt8) : Bool :=
 if s.length = 1 then s.all zC7 || s.all spB
 else s.all zC7 && (decide (2 ≤ s.length) && (decide (s.length ≤ 16) && (!(kwL.any fun e => e == s) && !(acL.any fun e => e == s))))
theorem len1 (s : List UInt8) : ((s.length : Int) == 1) = decide (s.length = 1):=by
 by_cases h : s.length = 1
 ·simp [h]
 ·rw [zBc h]
  cases e : ((s.length : Int) == 1) with
  | false => rfl
  | true => have:=eq_of_beq e; omega
theorem zFk (a b : Nat) : decide ((a : Int) ≤ (b : Int)) = decide (a ≤ b):=by
 by_cases h : a ≤ b
 ·rw [zBd h,zBd (by omega)]
 ·rw [zBc h,zBc (by omega)]
theorem zSw (a b : Nat) : decide ((a : Int) < (b : Int)) = decide (a < b):=by
 by_cases h : a < b
 ·rw [zBd h,zBd (by omega)]
 ·rw [zBc h,zBc (by omega)]
theorem zMe (n : Nat) (s : List UInt8) (h : s.length + 40 < n) (hb : s.length ≤ 1073741824) : zD8 n s = some (symB s):=by
 rw [zD8,len1,zLu n s (by omega) hb]
 unfold symB
 by_cases h1 : s.length = 1
 ·rw [zBd h1,if_pos h1]
  obtain ⟨c,rfl⟩:=List.length_eq_one_iff.1 h1;have : zEa [43,45,42,47,61,60,62,44,59,58,33,124,39,63,126,64] [c] = some (spB c):=rfl;simp only [cond_true,Option.bind_some,this,List.all_cons,List.all_nil,Bool.and_true]
  cases zC7 c <;> rfl
 ·rw [zBc h1,if_neg h1]
  have e2:=zFk 2 s.length;have e16:=zFk s.length 16;rw [show ((2 : Nat) : Int) = 2 from rfl] at e2;rw [show ((16 : Nat) : Int) = 16 from rfl] at e16;simp only [cond_false,Option.bind_some,zLt,zHZ,e2,e16]
  cases s.all zC7 <;> cases decide (2 ≤ s.length) <;> cases decide (s.length ≤ 16) <;> cases (kwL.any fun e => e == s) <;> rfl
theorem zN3 (n : Nat) (s : List UInt8) (h : s.length + 40 < n) (hb : s.length ≤ 1073741824) : zEH n s = some (symB s):=by
 rw [zEH,len1,zMo n s (by omega) hb]
 unfold symB
 by_cases h1 : s.length = 1
 ·rw [zBd h1,if_pos h1]
  obtain ⟨c,rfl⟩:=List.length_eq_one_iff.1 h1;have e1 : at? [c] (0 : Int) = some c:=rfl;have e2 : zDc n [43,45,42,47,61,60,62,44,59,58,33,124,39,63,126,64] (c.toNat : Int) = some (spB c):=by
   rw [zM4 n _ _ (by simp only [List.length_cons,List.length_nil]; omega) (by simp only [List.length_cons,List.length_nil]; omega)]
   exact congrArg some (zVb c)
  simp only [cond_true,Option.bind_some,e1,zD9,zJ2,e2,List.all_cons,List.all_nil,Bool.and_true]
  cases zC7 c <;> rfl
 ·rw [zBc h1,if_neg h1]
  have e2:=zFk 2 s.length;have e16:=zFk s.length 16;rw [show ((2 : Nat) : Int) = 2 from rfl] at e2;rw [show ((16 : Nat) : Int) = 16 from rfl] at e16;have ek : zEw n kwL s = some (kwL.any fun e => e == s):=zLH n kwL s (by simp only [kwL,List.length_cons,List.length_nil]; omega) (by simp [kwL])
  have ea : zEw n acL s = some (acL.any fun e => e == s):=zLH n acL s (by simp only [acL,List.length_cons,List.length_nil]; omega) (by simp [acL])
  have k1 : zEx = some kwL:=rfl;have a1 : zDm = some acL:=rfl;unfold zNq;simp only [cond_false,Option.bind_some,k1,a1,ek,ea,e2,e16]
  cases s.all zC7 <;> cases decide (2 ≤ s.length) <;> cases decide (s.length ≤ 16) <;> cases (kwL.any fun e => e == s) <;> rfl
def fenB (s : List UInt8) : Bool:=decide (s.length = 2) && s.all fsB
theorem len2 (s : List UInt8) : ((s.length : Int) == 2) = decide (s.length = 2):=by
 by_cases h : s.length = 2
 ·simp [h]
 ·rw [zBc h]
  cases e : ((s.length : Int) == 2) with
  | false => rfl
  | true => have:=eq_of_beq e; omega
theorem zNJ (s : List UInt8) : zEE s = some (fenB s):=by
 rw [zEE,len2]
 unfold fenB
 by_cases h1 : s.length = 2
 ·rw [zBd h1]
  match s,h1 with
  | [c,d],_ =>
   have e0 : at? [c,d] (0 : Int) = some c:=rfl;have e1 : at? [c,d] (1 : Int) = some d:=rfl;have f : ∀ c : UInt8,zCH [40,41,91,93,123,125,60,62,47,124,46] (c.toNat : Int) = some (Lib.indexByte fsL c):=fun c => congrArg some (zTW c)
   have g : ∀ c : UInt8,decide (0 ≤ Lib.indexByte fsL c) = fsB c:=fun c => rfl
   simp only [cond_true,e0,e1,f,Option.bind_some,g,List.all_cons,List.all_nil,Bool.and_true,Bool.true_and]
   cases fsB c <;> rfl
 ·rw [zBc h1]; rfl
theorem zPN (n : Nat) (s : List UInt8) (h : 40 < n) : (bif ((s.length : Int) == 2) then (
        (at? s 0).bind fun c9 =>
        (zDc n [40,41,91,93,123,125,124,60,62,47,46] (c9.toNat : Int)).bind fun y11 =>
        bif y11 then (
         (at? s 1).bind fun c12 =>
         (zDc n [40,41,91,93,123,125,124,60,62,47,46] (c12.toNat : Int)).bind fun y14 =>
         some y14
        ) else (
         some false
        )
       ) else (
        some false
       )) = some (fenB s):=by
 rw [len2]
 unfold fenB
 by_cases h1 : s.length = 2
 ·rw [zBd h1]
  match s,h1 with
  | [c,d],_ =>
   have e0 : at? [c,d] (0 : Int) = some c:=rfl;have e1 : at? [c,d] (1 : Int) = some d:=rfl;have f : ∀ c : UInt8,zDc n [40,41,91,93,123,125,124,60,62,47,46] (c.toNat : Int) = some (fsB c):=fun c => by
    rw [zM4 n _ _ (by simp only [List.length_cons,List.length_nil]; omega) (by simp only [List.length_cons,List.length_nil]; omega)]
    exact congrArg some (zVa c)
   simp only [cond_true,e0,e1,f,Option.bind_some,List.all_cons,List.all_nil,Bool.and_true,Bool.true_and]
   cases fsB c <;> rfl
 ·rw [zBc h1]; rfl
def okL (L : Nat) : Nat → List UInt8 → Bool
 | _,[] => true
 | i,c :: r => ((c == 46 && (decide (0 < i) && decide (i + 1 < L))) || zDt c) && okL L (i + 1) r
def numB (s : List UInt8) : Bool:=okL s.length 0 s && (decide (0 < s.length) && (decide (s.length ≤ 20) && decide (s.count 46 ≤ 1)))
theorem zVM (c : UInt8) : ((c.toNat : Int) == 46) = (c == 46) :=
 of_decide_eq_true (zKh (P:=fun c => decide (((c.toNat : Int) == 46) = (c == 46))) (by decide +kernel) c)
theorem zVe : zDt 46 = false:=by decide
theorem zNL (s : List UInt8) (hb : s.length ≤ 1073741824) : ∀ (k i p : Nat),s.length - i < k → i ≤ s.length → p ≤ i →
  zB4 s k (p : Int) (i : Int) = some (if okL s.length i (s.drop i) then .go ((p + (s.drop i).count 46 : Nat) : Int) else .ret false)
 | 0,_,_,h,_,_ => by omega
 | k + 1,i,p,hk,hi,hp => by
  unfold zB4
  by_cases h : i < s.length
  ·rw [zBd (Int.ofNat_lt.2 h),cond_true,zBt h,List.drop_eq_getElem_cons h]
   generalize s[i] = c;simp only [Option.bind_some,zVM,zQm,okL,List.count_cons]
   rw [zAS (by omega),zAS (by omega),wrap64_in (by omega) (by omega)]
   have d1 : decide ((0 : Int) < (i : Int)) = decide (0 < i):=zSw 0 i;have d2 : decide ((i : Int) < (s.length : Int) - 1) = decide (i + 1 < s.length):=by
    by_cases h : i + 1 < s.length
    ·rw [zBd h,zBd (by omega)]
    ·rw [zBc h,zBc (by omega)]
   rw [d1,d2]
   cases e : c == 46 with
   | true =>
    obtain rfl : c = 46:=eq_of_beq e;simp only [cond_true,zVe,Bool.true_and,Bool.or_false]
    cases decide (0 < i) with
    | false => rfl
    | true =>
     simp only [cond_true,Option.bind_some,Bool.true_and]
     cases decide (i + 1 < s.length) with
     | false => rfl
     | true =>
      simp only [cond_true,Option.bind_some,Bool.true_and]
      rw [zNL s hb k (i + 1) (p + 1) (by omega) (by omega) (by omega)]
      simp only [if_true]
      rw [show p + 1 + (s.drop (i + 1)).count 46 = p + ((s.drop (i + 1)).count 46 + 1) by omega]
   | false =>
    simp only [cond_false,Option.bind_some,Bool.false_and,Bool.false_or]
    cases zDt c with
    | false => rfl
    | true =>
     simp only [Bool.not_true,cond_false,Option.bind_some,Bool.true_and]
     rw [zNL s hb k (i + 1) p (by omega) (by omega) (by omega)]
     simp
  ·rw [zBc (by omega),cond_false]
   obtain rfl : i = s.length:=by omega
   simp [okL]
theorem zN2 (n : Nat) (s : List UInt8) (h : s.length < n) (hb : s.length ≤ 1073741824) : zEG n s = some (numB s):=by
 have:=zNL s hb n 0 0 (by omega) (by omega) (by omega)
 rw [show ((0 : Nat) : Int) = 0 from rfl,List.drop_zero] at this;rw [zEG,this]
 unfold numB;have e0:=zSw 0 s.length;have e20:=zFk s.length 20;have e1:=zFk (s.count 46) 1;rw [show ((0 : Nat) : Int) = 0 from rfl] at e0;rw [show ((20 : Nat) : Int) = 20 from rfl] at e20;rw [show ((1 : Nat) : Int) = 1 from rfl] at e1;cases okL s.length 0 s with
 | false => rfl
 | true =>
  simp only [if_true,Option.bind_some,e0,e20,Nat.zero_add,e1]
  cases decide (0 < s.length) <;> cases decide (s.length ≤ 20) <;> rfl
theorem zOQ : ∀ s : List UInt8,(s.count 46 = 0 ∧ Lib.indexByte s 46 = -1) ∨ ∃ a b,s = a ++ 46 :: b ∧ a.count 46 = 0 ∧ Lib.indexByte s 46 = (a.length : Int)
 | [] => .inl ⟨rfl,rfl⟩
 | c :: s => by
  by_cases h : c = 46
  ·subst h;exact .inr ⟨[],s,rfl,rfl,by simp [Lib.indexByte]⟩
  ·have hc : (c == 46) = false:=by simpa using h
   rcases zOQ s with ⟨h1,h2⟩ | ⟨a,b,rfl,h1,h2⟩
   ·exact .inl ⟨by rw [List.count_cons,h1,hc]; rfl,by simp [Lib.indexByte,hc,h2]⟩
   ·refine .inr ⟨c :: a,b,rfl,by rw [List.count_cons,h1,hc]; rfl,?_⟩
    have h3 : ((a.length : Int) == -1) = false:=by
     cases e : ((a.length : Int) == -1) with
     | false => rfl
     | true => have:=eq_of_beq e; omega
    simp [Lib.indexByte,hc,h2,h3]
theorem zHd (L : Nat) : ∀ (i : Nat) (a : List UInt8),a.count 46 = 0 → okL L i a = a.all zDt
 | _,[],_ => rfl
 | i,c :: a,h => by
  have hc : (c == 46) = false:=by
   cases e : c == 46 with
   | false => rfl
   | true => rw [List.count_cons,e] at h; simp at h
  rw [List.count_cons,hc] at h;rw [okL,hc,zHd L (i + 1) a (by simpa using h)]
  simp
theorem zMY (L : Nat) : ∀ (i : Nat) (a b : List UInt8),okL L i (a ++ b) = (okL L i a && okL L (i + a.length) b)
 | _,[],b => by simp [okL]
 | i,c :: a,b => by
  simp only [List.cons_append,okL,zMY L (i + 1) a b,List.length_cons,Bool.and_assoc,show i + 1 + a.length = i + (a.length + 1) by omega]
theorem zNx : ∀ a : List UInt8,a.all zDt = true → a.count 46 = 0
 | [],_ => rfl
 | c :: a,h => by
  simp only [List.all_cons,Bool.and_eq_true] at h;have hc : (c == 46) = false:=by
   cases e : c == 46 with
   | false => rfl
   | true => obtain rfl : c = 46:=eq_of_beq e; simp [zVe] at h
  rw [List.count_cons,hc,zNx a h.2]; rfl
theorem zVq (a b : List UInt8) (ha : a.count 46 = 0) : numB (a ++ 46 :: b) = (decide ((a ++ 46 :: b).length ≤ 20) && ((a.all zDt && !(a == [])) && (b.all zDt && !(b == [])))):=by
 unfold numB;have hl : (a ++ 46 :: b).length = a.length + (b.length + 1):=by simp
 rw [zMY,zHd _ _ a ha,hl]
 simp only [okL,zVe,Bool.or_false,List.count_append,List.count_cons,ha,beq_self_eq_true,Bool.true_and,if_true,Nat.zero_add]
 have e1 : decide (0 < a.length) = !(a == []):=by cases a <;> rfl
 have e2 : decide (a.length + 1 < a.length + (b.length + 1)) = !(b == []):=by
  cases b with
  | nil => simp
  | cons c b => simp
 have e3 : decide (0 < a.length + (b.length + 1)) = true:=zBd (by omega)
 rw [e1,e2,e3]
 cases hb : b.all zDt with
 | true =>
  rw [zHd _ _ b (zNx b hb),hb,zNx b hb]
  cases a.all zDt <;> cases a == [] <;> cases b == [] <;> cases decide (a.length + (b.length + 1) ≤ 20) <;> rfl
 | false =>
  cases hc : decide (b.count 46 + 1 ≤ 1) with
  | true =>
   have : b.count 46 = 0:=by have:=of_decide_eq_true hc; omega
   rw [zHd _ _ b this,hb]
   cases a.all zDt <;> cases a == [] <;> cases b == [] <;> cases decide (a.length + (b.length + 1) ≤ 20) <;> rfl
  | false =>
   generalize okL _ _ b = z;cases z <;> cases a.all zDt <;> cases a == [] <;> cases b == [] <;> cases decide (a.length + (b.length + 1) ≤ 20) <;> rfl
theorem zS8 (s : List UInt8) (h : s.count 46 = 0) : numB s = (decide (s.length ≤ 20) && (s.all zDt && !(s == []))):=by
 unfold numB;rw [zHd _ _ s h,h]
 have e1 : decide (0 < s.length) = !(s == []):=by cases s <;> rfl
 rw [e1]
 cases s.all zDt <;> cases s == [] <;> cases decide (s.length ≤ 20) <;> rfl
theorem zMd (n : Nat) (s : List UInt8) (h : s.length < n) (hb : s.length ≤ 1073741824) : zDj n s = some (numB s):=by
 have e20:=zFk s.length 20;rw [show ((20 : Nat) : Int) = 20 from rfl] at e20;have hi : zDK s [46] = some (Lib.indexByte s 46):=rfl;rcases zOQ s with ⟨h1,h2⟩ | ⟨a,b,rfl,h1,h2⟩
 ·rw [zS8 s h1]
  simp only [zDj,zEb,zCv,hi,h2,Option.bind_some,show decide ((0 : Int) ≤ -1) = false from rfl,cond_false,e20,zFU n s h hb]
  cases decide (s.length ≤ 20) <;> cases (s.all zDt && !(s == [])) <;> rfl
 ·have hl : (a ++ 46 :: b).length = a.length + (b.length + 1):=by simp
  rw [zVq a b h1]
  have w1 : IntKind.i64.wrap ((a.length : Int) + (([46] : List UInt8).length : Int)) = ((a.length + 1 : Nat) : Int):=zAS (by omega)
  have t1 : ((a ++ 46 :: b).take ((a.length : Int)).toNat).drop (0 : Int).toNat = a:=by simp
  have t2 : ((a ++ 46 :: b).take (((a ++ 46 :: b).length : Int)).toNat).drop (((a.length + 1 : Nat) : Int)).toNat = b:=by
   rw [Int.toNat_natCast,Int.toNat_natCast,List.take_length,List.drop_append]
   simp
  simp only [zDj,zEb,zCv,hi,h2,Option.bind_some,w1]
  rw [zBd (by omega),cond_true,zC4 (by omega),zC4 (by omega),t1,t2]
  simp only [Option.bind_some,e20,zFU n a (by omega) (by omega),zFU n b (by omega) (by omega)]
  cases decide ((a ++ 46 :: b).length ≤ 20) <;> cases (a.all zDt && !(a == [])) <;> cases (b.all zDt && !(b == [])) <;> rfl
end Go.Proofs.YtjdhkpdjecegnaaGreatDoor
namespace Go.Proofs.YtjdhkpdjecegnaaGreatDoor
open Go.Abs
def Nd.kind : Nd → Int | .mk k _ _ _ => k
def zIx (k : Int) (t : List UInt8) : Bool :=
 if k = 2 then symB t else if k = 3 then numB t else if k = 4 then (decide (t.length ≤ 200) && t.all zGm) else if k = 10 then acL.any (fun e => e == t) else if k = 11 then fenB t else t == []
def zET (k c : Int) (m : Int) : Bool :=
 if k = 12 then decide (1 ≤ c) && (decide (c ≤ 16) && (decide (1 ≤ m) && (decide (m ≤ 256) && (m.tmod c == 0))))
 else (c == 0) && (if k = 1 then decide (m ≤ 200) else if k = 2 then m == 0 else if k = 3 then m == 0 else if k = 4 then m == 0 else if k = 5 then m == 2 else if k = 6 then m == 2 else if k = 7 then m == 2 else if k = 8 then m == 2
  else if k = 9 then m == 3 else if k = 10 then m == 1 else if k = 11 then m == 1 else false)
mutual
def zCa : Nd → Bool
 | .mk k t c ks => (zIx k t && zET k c (ks.length : Int)) && zBf k ks
def zBf : Int → List Nd → Bool
 | _,[] => true
 | k,v :: vs => (!((v.kind == 1) == (k == 1)) && zCa v) && zBf k vs
end
mutual
def Nd.dep : Nd → Nat
 | .mk _ _ _ ks => Nd.deps ks + 1
def Nd.deps : List Nd → Nat
 | [] => 0
 | v :: vs => Nat.max v.dep (Nd.deps vs)
end
theorem zMQ {k : Int} {a : List Nd} {i : Nat} (h : i < a.length) : zBf k (a.drop i) = ((!((a[i].kind == 1) == (k == 1)) && zCa a[i]) && zBf k (a.drop (i + 1))):=by
 rw [List.drop_eq_getElem_cons h]; rfl
theorem zOU {a : List Nd} {i : Nat} (h : i < a.length) : Nd.deps (a.drop i) = Nat.max (a[i]).dep (Nd.deps (a.drop (i + 1))):=by
 rw [List.drop_eq_getElem_cons h]; rfl
theorem Nd.dep_pos : ∀ v : Nd,1 ≤ v.dep
 | .mk _ _ _ ks => by simp only [Nd.dep]; omega
mutual
theorem Nd.dep_cnt : ∀ v : Nd,v.dep ≤ v.cnt
 | .mk _ _ _ ks => by have:=Nd.deps_cnts ks; simp only [Nd.dep,Nd.cnt]; omega
theorem Nd.deps_cnts : ∀ vs : List Nd,Nd.deps vs ≤ Nd.cnts vs
 | [] => Nat.le_refl _
 | v :: vs => by
  have:=Nd.dep_cnt v; have:=Nd.deps_cnts vs
  simp only [Nd.deps,Nd.cnts]
  exact Nat.max_le.2 ⟨by omega,by omega⟩
end
mutual
theorem Nd.cnt_w : ∀ v : Nd,v.cnt ≤ v.w
 | .mk _ t _ ks => by have:=Nd.cnts_ws ks; simp only [Nd.cnt,Nd.w]; omega
theorem Nd.cnts_ws : ∀ vs : List Nd,Nd.cnts vs ≤ Nd.ws vs
 | [] => Nat.le_refl _
 | v :: vs => by have:=Nd.cnt_w v; have:=Nd.cnts_ws vs; simp only [Nd.cnts,Nd.ws]; omega
end
theorem zC2 {a b : Int} (h : a ≠ b) : (a == b) = false:=by
 cases e : (a == b) with
 | false => rfl
 | true => exact absurd (eq_of_beq e) h
theorem zQM (n : Nat) (k : Int) (t : List UInt8) (c : Int) (ks : List Nd) (h : t.length + 40 < n) (hb : t.length ≤ 1073741824) : zGh n (.mk k t c ks) = some (zIx k t):=by
 have e200:=zFk t.length 200;rw [show ((200 : Nat) : Int) = 200 from rfl] at e200;have ea : zEw n acL t = some (acL.any fun e => e == t):=zLH n acL t (by simp only [acL,List.length_cons,List.length_nil]; omega) (by simp [acL])
 have a1 : zDm = some acL:=rfl;unfold zGh zIx;dsimp only
 by_cases h2 : k = 2
 ·subst h2; simp only [beq_self_eq_true,cond_true,zN3 n t h hb,Option.bind_some,if_true]
 rw [zC2 h2,if_neg h2,cond_false]
 by_cases h3 : k = 3
 ·subst h3; simp only [beq_self_eq_true,cond_true,zN2 n t (by omega) hb,Option.bind_some,if_true]
 rw [zC2 h3,if_neg h3,cond_false]
 by_cases h4 : k = 4
 ·subst h4; simp only [beq_self_eq_true,cond_true,zKr n t (by omega) hb,Option.bind_some,if_true,e200]
  cases decide (t.length ≤ 200) <;> rfl
 rw [zC2 h4,if_neg h4,cond_false]
 by_cases h10 : k = 10
 ·subst h10; simp only [beq_self_eq_true,cond_true,a1,ea,Option.bind_some,if_true]
 rw [zC2 h10,if_neg h10,cond_false]
 by_cases h11 : k = 11
 ·subst h11; rw [if_pos rfl,beq_self_eq_true,cond_true,zPN n t (by omega)]; rfl
 rw [zC2 h11,if_neg h11,cond_false]
theorem kinds (k : Int) : k = 1 ∨ k = 2 ∨ k = 3 ∨ k = 4 ∨ k = 5 ∨ k = 6 ∨ k = 7 ∨ k = 8 ∨ k = 9 ∨ k = 10 ∨ k = 11 ∨ k = 12 ∨ (k < 1 ∨ 12 < k):=by omega
theorem zQL (k : Int) (t : List UInt8) (c : Int) (ks : List Nd) : zGg (.mk k t c ks) = some (zET k c (ks.length : Int)):=by
 unfold zGg;dsimp only;generalize (ks.length : Int) = m;rcases kinds k with rfl | rfl | rfl | rfl | rfl | rfl | rfl | rfl | rfl | rfl | rfl | rfl | h
 ·simp only [bne,zET]; generalize (c == 0) = z; generalize decide (m ≤ 200) = y; cases z <;> rfl
 ·simp only [bne,zET]; generalize (c == 0) = z; generalize (m == 0) = y; cases z <;> rfl
 ·simp only [bne,zET]; generalize (c == 0) = z; generalize (m == 0) = y; cases z <;> rfl
 ·simp only [bne,zET]; generalize (c == 0) = z; generalize (m == 0) = y; cases z <;> rfl
 ·simp only [bne,zET]; generalize (c == 0) = z; generalize (m == 2) = y; cases z <;> rfl
 ·simp only [bne,zET]; generalize (c == 0) = z; generalize (m == 2) = y; cases z <;> rfl
 ·simp only [bne,zET]; generalize (c == 0) = z; generalize (m == 2) = y; cases z <;> rfl
 ·simp only [bne,zET]; generalize (c == 0) = z; generalize (m == 2) = y; cases z <;> rfl
 ·simp only [bne,zET]; generalize (c == 0) = z; generalize (m == 3) = y; cases z <;> rfl
 ·simp only [bne,zET]; generalize (c == 0) = z; generalize (m == 1) = y; cases z <;> rfl
 ·simp only [bne,zET]; generalize (c == 0) = z; generalize (m == 1) = y; cases z <;> rfl
 ·unfold zET;rw [if_pos rfl,beq_self_eq_true,cond_true]
  by_cases h1 : 1 ≤ c
  ·rw [zBd h1,zC4 (by omega)]
   generalize (m.tmod c == 0) = y;cases decide (c ≤ 16) <;> cases decide (1 ≤ m) <;> cases decide (m ≤ 256) <;> rfl
  ·rw [zBc h1]; rfl
 ·have e : ∀ i : Int,1 ≤ i → i ≤ 12 → (k == i) = false:=fun i h1 h2 => zC2 (by omega)
  have f : ∀ i : Int,1 ≤ i → i ≤ 12 → k ≠ i:=fun i h1 h2 => by omega
  unfold zET;rw [if_neg (f 12 (by decide) (by decide)),if_neg (f 1 (by decide) (by decide)),if_neg (f 2 (by decide) (by decide)),if_neg (f 3 (by decide) (by decide)),if_neg (f 4 (by decide) (by decide)),if_neg (f 5 (by decide) (by decide)),
   if_neg (f 6 (by decide) (by decide)),if_neg (f 7 (by decide) (by decide)),if_neg (f 8 (by decide) (by decide)),if_neg (f 9 (by decide) (by decide)),if_neg (f 10 (by decide) (by decide)),if_neg (f 11 (by decide) (by decide))]
  rw [e 12 (by decide) (by decide),e 1 (by decide) (by decide),e 2 (by decide) (by decide),e 3 (by decide) (by decide),e 4 (by decide) (by decide),e 5 (by decide) (by decide),
   e 6 (by decide) (by decide),e 7 (by decide) (by decide),e 8 (by decide) (by decide),e 9 (by decide) (by decide),e 10 (by decide) (by decide),e 11 (by decide) (by decide)]
  cases (c == 0) <;> cases (c != 0) <;> rfl
theorem zVW (n : Nat) (x : Int) (k : Int) (t : List UInt8) (c : Int) (ks : List Nd) (h : t.length + 40 < n) (hb : t.length ≤ 1073741824) :
  zCb n ((),x) (.mk k t c ks) = some (zIx k t && zET k c (ks.length : Int),((),x)):=by
 have e200:=zFk t.length 200;rw [show ((200 : Nat) : Int) = 200 from rfl] at e200;unfold zCb;dsimp only;generalize (ks.length : Int) = m;have em : zBV t = some (t == []):=rfl;rcases kinds k with rfl | rfl | rfl | rfl | rfl | rfl | rfl | rfl | rfl | rfl | rfl | rfl | h
 ·simp only [em]
  show _ = some ((t == []) && ((c == 0) && decide (m ≤ 200)),((),x))
  cases t == [] <;> cases c == 0 <;> rfl
 ·simp only [zMe n t h hb]
  show _ = some (symB t && ((c == 0) && (m == 0)),((),x))
  cases symB t <;> cases c == 0 <;> rfl
 ·simp only [zMd n t (by omega) hb]
  show _ = some (numB t && ((c == 0) && (m == 0)),((),x))
  cases numB t <;> cases c == 0 <;> rfl
 ·simp only [zNK n t (by omega) hb,e200]
  show _ = some ((decide (t.length ≤ 200) && t.all zGm) && ((c == 0) && (m == 0)),((),x))
  cases decide (t.length ≤ 200) <;> cases t.all zGm <;> cases c == 0 <;> rfl
 ·simp only [em]
  show _ = some ((t == []) && ((c == 0) && (m == 2)),((),x))
  cases t == [] <;> cases c == 0 <;> rfl
 ·simp only [em]
  show _ = some ((t == []) && ((c == 0) && (m == 2)),((),x))
  cases t == [] <;> cases c == 0 <;> rfl
 ·simp only [em]
  show _ = some ((t == []) && ((c == 0) && (m == 2)),((),x))
  cases t == [] <;> cases c == 0 <;> rfl
 ·simp only [em]
  show _ = some ((t == []) && ((c == 0) && (m == 2)),((),x))
  cases t == [] <;> cases c == 0 <;> rfl
 ·simp only [em]
  show _ = some ((t == []) && ((c == 0) && (m == 3)),((),x))
  cases t == [] <;> cases c == 0 <;> rfl
 ·simp only [zHZ]
  show _ = some ((acL.any fun e => e == t) && ((c == 0) && (m == 1)),((),x))
  cases (acL.any fun e => e == t) <;> cases c == 0 <;> rfl
 ·simp only [zNJ]
  show _ = some (fenB t && ((c == 0) && (m == 1)),((),x))
  cases fenB t <;> cases c == 0 <;> rfl
 ·simp only [em]
  show _ = some ((t == []) && (decide (1 ≤ c) && (decide (c ≤ 16) && (decide (1 ≤ m) && (decide (m ≤ 256) && (m.tmod c == 0))))),((),x))
  by_cases h1 : 1 ≤ c
  ·rw [zBd h1,zC4 (by omega)]
   generalize (m.tmod c == 0) = y;cases t == [] <;> cases decide (c ≤ 16) <;> cases decide (1 ≤ m) <;> cases decide (m ≤ 256) <;> rfl
  ·rw [zBc h1]
   cases t == [] <;> rfl
 ·have f : ∀ i : Int,1 ≤ i → i ≤ 12 → k ≠ i:=fun i h1 h2 => by omega
  have hk : zET k c m = false:=by
   unfold zET;rw [if_neg (f 12 (by decide) (by decide)),if_neg (f 1 (by decide) (by decide)),if_neg (f 2 (by decide) (by decide)),if_neg (f 3 (by decide) (by decide)),if_neg (f 4 (by decide) (by decide)),if_neg (f 5 (by decide) (by decide)),
    if_neg (f 6 (by decide) (by decide)),if_neg (f 7 (by decide) (by decide)),if_neg (f 8 (by decide) (by decide)),if_neg (f 9 (by decide) (by decide)),if_neg (f 10 (by decide) (by decide)),if_neg (f 11 (by decide) (by decide))]
   exact Bool.and_false _
  rw [hk,Bool.and_false]
  by_cases h1 : k < 1
  ·rw [zBd h1]; rfl
  ·rw [zBc h1,zBd (show 12 < k by omega)]; rfl
theorem zJg {F : Nd → Option Bool} {k : Int} {ks : List Nd} (hF : ∀ v ∈ ks,F v = some (zCa v)) (hl : ks.length ≤ 1073741824) :
  ∀ (q i : Nat),ks.length - i < q → i ≤ ks.length → zCG F k ks q (i : Int) = some (if zBf k (ks.drop i) then .go () else .ret false)
 | 0,_,h,_ => by omega
 | q + 1,i,hq,hi => by
  unfold zCG
  by_cases h : i < ks.length
  ·rw [zBd (Int.ofNat_lt.2 h),cond_true,zBt h]
   have hf:=hF _ (List.getElem_mem h)
   have g1:=zMQ (k:=k) h;rcases e : ks[i] with ⟨a,b,c,d⟩
   rw [e] at hf g1;simp only [Nd.kind] at g1;generalize zBf k (ks.drop i) = g at g1 ⊢;subst g1;simp only [Option.bind_some,hf]
   rw [zAS (by omega),zJg hF hl q (i + 1) (by omega) (by omega)]
   cases ((a == 1) == (k == 1)) <;> cases zCa (Nd.mk a b c d) <;> simp
  ·rw [zBc (by omega),cond_false]
   obtain rfl : i = ks.length:=by omega
   simp [zBf]
theorem zLI : ∀ (n : Nat) (t : Nd),t.w + 45 < n → t.w ≤ 1073741824 → zDn n t = some (zCa t)
 | 0,_,h,_ => by omega
 | n + 1,.mk k t c ks,h,hb => by
  simp only [Nd.w] at h hb;have hl:=Nd.ws_len ks;unfold zDn;rw [zQM n k t c ks (by omega) (by omega),zQL]
  have:=zJg (F:=zDn n) (k:=k) (ks:=ks) (fun v hv => zLI n v (by have:=Nd.w_mem hv; omega) (by have:=Nd.w_mem hv; omega)) (by omega) n 0 (by omega) (by omega)
  rw [show ((0 : Nat) : Int) = 0 from rfl,List.drop_zero] at this;simp only [Option.bind_some,this,zCa]
  cases zIx k t <;> cases zET k c (ks.length : Int) <;> cases zBf k ks <;> rfl
theorem zH3 {F : Nd → Option Int} {ks : List Nd} (hF : ∀ v ∈ ks,F v = some (v.dep : Int)) (hl : ks.length ≤ 1073741824) :
  ∀ (q i o : Nat),ks.length - i < q → i ≤ ks.length → zCi F ks q (o : Int) (i : Int) = some ((Nat.max o (Nd.deps (ks.drop i)) : Nat) : Int)
 | 0,_,_,h,_ => by omega
 | q + 1,i,o,hq,hi => by
  unfold zCi
  by_cases h : i < ks.length
  ·rw [zBd (Int.ofNat_lt.2 h),cond_true,zBt h,zOU h]
   have hf:=hF _ (List.getElem_mem h)
   rcases e : ks[i] with ⟨a,b,c,d⟩
   rw [e] at hf;simp only [Option.bind_some,hf]
   have hm : (if (o : Int) < ((Nd.mk a b c d).dep : Int) then ((Nd.mk a b c d).dep : Int) else (o : Int)) = ((Nat.max o (Nd.mk a b c d).dep : Nat) : Int):=by
    by_cases g : (o : Int) < ((Nd.mk a b c d).dep : Int)
    ·rw [if_pos g]; congr 1; exact (Nat.max_eq_right (by omega)).symm
    ·rw [if_neg g]; congr 1; exact (Nat.max_eq_left (by omega)).symm
   rw [zAS (by omega),hm,zH3 hF hl q (i + 1) _ (by omega) (by omega)]
   congr 2
   exact Nat.max_assoc _ _ _
  ·rw [zBc (by omega),cond_false]
   obtain rfl : i = ks.length:=by omega
   rw [List.drop_length]
   congr 2
   exact (Nat.max_eq_left (Nat.zero_le _)).symm
theorem zKc : ∀ (n : Nat) (t : Nd),t.cnt < n → t.cnt ≤ 67108864 → zCF n t = some (t.dep : Int)
 | 0,_,h,_ => by omega
 | n + 1,.mk k t c ks,h,hb => by
  simp only [Nd.cnt] at h hb;have hl:=Nd.cnts_len ks;have hd:=Nd.deps_cnts ks;unfold zCF;have:=zH3 (F:=zCF n) (ks:=ks) (fun v hv => zKc n v (by have:=Nd.cnts_mem hv; omega) (by have:=Nd.cnts_mem hv; omega)) (by omega) n 0 0 (by omega) (by omega)
  rw [show ((0 : Nat) : Int) = 0 from rfl,List.drop_zero] at this;rw [this,Option.bind_some,show Nat.max 0 (Nd.deps ks) = Nd.deps ks from Nat.max_eq_right (Nat.zero_le _),zAS (by omega)]
  rfl
def zAL (t : Nd) : Bool:=(t.kind == 1) && (zCa t && (decide (t.cnt ≤ 1000) && decide (t.dep ≤ 24)))
theorem zKd (n : Nat) (t : Nd) (h : t.w + 45 < n) (hb : t.w ≤ 67108864) : zEp n t = some (zAL t):=by
 have hc:=Nd.cnt_w t;have e1:=zLI n t h (by omega)
 have e2:=zKb n t (by omega) (by omega)
 have e3:=zKc n t (by omega) (by omega)
 have e4:=zFk t.cnt 1000;rw [show ((1000 : Nat) : Int) = 1000 from rfl] at e4;have e5:=zFk t.dep 24;rw [show ((24 : Nat) : Int) = 24 from rfl] at e5;obtain ⟨k,s,c,ks⟩:=t;unfold zEp zAL;simp only [e1,e2,e3,Option.bind_some,e4,e5,Nd.kind]
 cases k == 1 <;> cases zCa (.mk k s c ks) <;> cases decide ((Nd.mk k s c ks).cnt ≤ 1000) <;> rfl
abbrev okN (t : Nd) (x d : Nat) : Prop:=zCa t = true ∧ x + t.cnt ≤ 1000 ∧ d + t.dep ≤ 25
abbrev okNs (k : Int) (vs : List Nd) (x d : Nat) : Prop:=zBf k vs = true ∧ x + Nd.cnts vs ≤ 1000 ∧ d + Nd.deps vs ≤ 24
theorem zMJ {F : (Unit × Int) → Nd → Int → Option (Bool × (Unit × Int))} {k : Int} {ks : List Nd} {d : Nat} (hd : d ≤ 24)
  (hF : ∀ v ∈ ks,∀ x : Nat,x ≤ 1000 → ∃ y,F ((),(x : Int)) v ((d + 1 : Nat) : Int) = some (decide (okN v x (d + 1)),((),y)) ∧ (okN v x (d + 1) → y = ((x + v.cnt : Nat) : Int))) (hl : ks.length ≤ 1073741824) :
  ∀ (q i x : Nat),ks.length - i < q → i ≤ ks.length → x ≤ 1000 →
   (okNs k (ks.drop i) x d ∧ zAY F k ks (d : Int) q (x : Int) (i : Int) = some (.go ((x + Nd.cnts (ks.drop i) : Nat) : Int))) ∨
   (¬ okNs k (ks.drop i) x d ∧ ∃ z,zAY F k ks (d : Int) q (x : Int) (i : Int) = some (.ret (false,((),z))))
 | 0,_,_,h,_,_ => by omega
 | q + 1,i,x,hq,hi,hx => by
  unfold zAY
  by_cases h : i < ks.length
  ·rw [zBd (Int.ofNat_lt.2 h),cond_true,zBt h]
   obtain ⟨y,hf,hy⟩:=hF _ (List.getElem_mem h) x hx;have g1:=zMQ (k:=k) h;have g2:=Nd.cnts_drop h;have g3:=zOU h;rcases e : ks[i] with ⟨a,b,c,ds⟩
   rw [e] at hf hy g1 g2 g3;simp only [Option.bind_some]
   rw [zAS (by omega),zAS (by omega),hf]
   simp only [Option.bind_some]
   have g4 : Nd.deps (ks.drop i) = Nat.max (Nd.mk a b c ds).dep (Nd.deps (ks.drop (i + 1))):=g3;have g5 : (Nd.mk a b c ds).dep ≤ Nd.deps (ks.drop i):=by rw [g4]; exact Nat.le_max_left _ _
   have g6 : Nd.deps (ks.drop (i + 1)) ≤ Nd.deps (ks.drop i):=by rw [g4]; exact Nat.le_max_right _ _
   rw [show ((k == 1) == (a == 1)) = ((a == 1) == (k == 1)) by cases k == 1 <;> cases a == 1 <;> rfl]
   cases hkk : ((a == 1) == (k == 1)) with
   | true =>
    simp only [cond_true,Option.bind_some]
    refine .inr ⟨fun ⟨h1,_⟩ => ?_,_,rfl⟩
    rw [g1] at h1;simp [Nd.kind,hkk] at h1
   | false =>
    simp only [cond_false,Option.bind_some]
    by_cases hok : okN (Nd.mk a b c ds) x (d + 1)
    ·rw [zBd hok]
     simp only [Bool.not_true,cond_false]
     rw [hy hok]
     have hp:=(Nd.mk a b c ds).cnt_pos;rcases zMJ hd hF hl q (i + 1) (x + (Nd.mk a b c ds).cnt) (by omega) (by omega) hok.2.1 with ⟨hr,hr2⟩ | ⟨hr,z,hr2⟩
     ·refine .inl ⟨⟨?_,?_,?_⟩,?_⟩
      ·rw [g1,hr.1,hok.1]; simp [Nd.kind,hkk]
      ·have:=hr.2.1; omega
      ·have:=hr.2.2;have:=hok.2.2;have : Nd.deps (ks.drop i) ≤ 24 - d:=by rw [g4]; exact Nat.max_le.2 ⟨by omega,by omega⟩
       omega
      ·rw [hr2,g2]; congr 3; omega
     ·refine .inr ⟨fun ⟨h1,h2,h3⟩ => hr ⟨?_,by omega,by omega⟩,z,hr2⟩
      rw [g1] at h1;simp only [Bool.and_eq_true] at h1;exact h1.2
    ·rw [zBc hok]
     simp only [Bool.not_false,cond_true]
     refine .inr ⟨fun ⟨h1,h2,h3⟩ => hok ⟨?_,by omega,by omega⟩,y,rfl⟩
     rw [g1] at h1;simp only [Bool.and_eq_true] at h1;exact h1.1.2
  ·rw [zBc (by omega),cond_false]
   obtain rfl : i = ks.length:=by omega
   rw [List.drop_length]
   exact .inl ⟨⟨rfl,hx,hd⟩,rfl⟩
theorem zQ3 : ∀ (n : Nat) (t : Nd) (x d : Nat),t.w + 45 < n → t.w ≤ 67108864 → x ≤ 1000 → d ≤ 25 →
  ∃ y,zA9 n ((),(x : Int)) t (d : Int) = some (decide (okN t x d),((),y)) ∧ (okN t x d → y = ((x + t.cnt : Nat) : Int))
 | 0,_,_,_,h,_,_,_ => by omega
 | n + 1,.mk k t c ks,x,d,h,hb,hx,hd => by
  simp only [Nd.w] at h hb;have hl:=Nd.ws_len ks;unfold zA9;rw [zAS (by omega)]
  by_cases h1 : 1000 < ((x + 1 : Nat) : Int)
  ·rw [zBd h1]
   simp only [cond_true,Option.bind_some]
   have hn : ¬ okN (.mk k t c ks) x d:=fun ⟨_,h2,_⟩ => by simp only [Nd.cnt] at h2; omega
   exact ⟨_,by rw [zBc hn],fun h => absurd h hn⟩
  ·rw [zBc h1,cond_false]
   by_cases h2 : 24 < (d : Int)
   ·rw [zBd h2]
    simp only [cond_true,Option.bind_some]
    have hn : ¬ okN (.mk k t c ks) x d:=fun ⟨_,_,h2⟩ => by simp only [Nd.dep] at h2; omega
    exact ⟨_,by rw [zBc hn],fun h => absurd h hn⟩
   ·rw [zBc h2,cond_false,zVW n _ k t c ks (by omega) (by omega)]
    simp only [Option.bind_some]
    cases ho : (zIx k t && zET k c (ks.length : Int)) with
    | false =>
     simp only [Bool.not_false,cond_true]
     have hn : ¬ okN (.mk k t c ks) x d:=fun ⟨h1,_⟩ => by rw [zCa,ho] at h1; cases h1
     exact ⟨_,by rw [zBc hn],fun h => absurd h hn⟩
    | true =>
     simp only [Bool.not_true,cond_false]
     have:=zMJ (F:=zA9 n) (k:=k) (ks:=ks) (d:=d) (by omega) (fun v hv z hz => zQ3 n v z (d + 1) (by have:=Nd.w_mem hv; omega) (by have:=Nd.w_mem hv; omega) hz (by omega)) (by omega) n 0 (x + 1) (by omega) (by omega) (by omega)
     rw [show ((0 : Nat) : Int) = 0 from rfl,List.drop_zero] at this;rcases this with ⟨hr,hr2⟩ | ⟨hr,z,hr2⟩
     ·have hy : okN (.mk k t c ks) x d:=⟨by rw [zCa,ho,hr.1]; rfl,by have:=hr.2.1; simp only [Nd.cnt]; omega,by have:=hr.2.2; simp only [Nd.dep]; omega⟩
      rw [hr2]
      exact ⟨_,by rw [zBd hy]; rfl,fun _ => by simp only [Nd.cnt]; omega⟩
     ·have hn : ¬ okN (.mk k t c ks) x d:=fun ⟨g1,g2,g3⟩ => hr ⟨by rw [zCa,ho] at g1; exact g1,by simp only [Nd.cnt] at g2; omega,by simp only [Nd.dep] at g3; omega⟩
      rw [hr2]
      exact ⟨_,by rw [zBc hn]; rfl,fun h => absurd h hn⟩
theorem zCI (n : Nat) (t : Nd) (h : t.w + 45 < n) (hb : t.w ≤ 67108864) : zA8 n t = some (zAL t):=by
 obtain ⟨y,h1,_⟩:=zQ3 n t 0 1 h hb (by omega) (by omega)
 rw [show ((0 : Nat) : Int) = 0 from rfl,show ((1 : Nat) : Int) = 1 from rfl] at h1;obtain ⟨k,s,c,ks⟩:=t;unfold zA8 zAL;have hk : zDY = some ():=rfl;simp only [hk,h1,Option.bind_some,Nd.kind]
 cases k == 1 with
 | false => rfl
 | true =>
  simp only [cond_true,Option.bind_some,Bool.true_and,Option.some.injEq,okN]
  cases zCa (.mk k s c ks) with
  | false => simp
  | true =>
   by_cases g1 : (Nd.mk k s c ks).cnt ≤ 1000
   ·by_cases g2 : (Nd.mk k s c ks).dep ≤ 24
    ·rw [zBd g1,zBd g2,zBd ⟨rfl,by omega,by omega⟩]; rfl
    ·rw [zBd g1,zBc g2,zBc (fun h => g2 (by omega))]; rfl
   ·rw [zBc g1,zBc (fun h => g1 (by omega))]; rfl
end Go.Proofs.YtjdhkpdjecegnaaGreatDoor
namespace Go.Proofs.YtjdhkpdjecegnaaGreatDoor
open Go.Abs
def Nd.text : Nd → List UInt8 | .mk _ t _ _ => t
def Nd.cols : Nd → Int | .mk _ _ c _ => c
theorem Nd.cnt_kids : ∀ x : Nd,x.cnt = Nd.cnts x.kids + 1
 | .mk _ _ _ _ => rfl
def zBS (x y : Nd) : Bool:=(x.kind == y.kind) && (((x.kids.length : Int) == (y.kids.length : Int)) && (x.cols == y.cols))
def rowD (P : Nd → Nd → Nat) (x : Nd) (f : List Nd → Nat) : List Nd → Nat
 | [] => x.cnt + f []
 | y :: ys => if zBS x y then min (min (x.cnt + f (y :: ys)) (y.cnt + rowD P x f ys)) (P x y + f ys) else min (x.cnt + f (y :: ys)) (y.cnt + rowD P x f ys)
def TD (P : Nd → Nd → Nat) : List Nd → List Nd → Nat
 | [] => Nd.cnts
 | x :: xs => rowD P x (TD P xs)
def sumD (f : List Nd → List Nd → Nat) : List Nd → List Nd → Nat
 | u :: us,v :: vs => f u.kids v.kids + sumD f us vs
 | _,_ => 0
def txt (x y : Nd) : Nat:=bif x.text == y.text then 0 else 1
def PD : Nat → Nd → Nd → Nat
 | 0,_,_ => 0
 | n + 1,x,y => txt x y + sumD (TD (PD n)) x.kids y.kids
def D (x y : Nd) : Nat:=PD x.cnt x y
def DL (a b : List Nd) : Nat:=TD D a b
theorem zM8 {P P' : Nd → Nd → Nat} {x : Nd} {f : List Nd → Nat} (h : ∀ y,P x y = P' x y) : ∀ b,rowD P x f b = rowD P' x f b
 | [] => rfl
 | y :: ys => by simp only [rowD,zM8 h ys,h]
theorem zNp {P P' : Nd → Nd → Nat} : ∀ {a : List Nd},(∀ x ∈ a,∀ y,P x y = P' x y) → TD P a = TD P' a
 | [],_ => rfl
 | x :: xs,h => by
  rw [TD,TD,zNp fun x hx => h x (List.mem_cons_of_mem _ hx)]
  exact funext (zM8 (h x List.mem_cons_self))
theorem zJN {f g : List Nd → List Nd → Nat} : ∀ {us : List Nd} (vs : List Nd),(∀ u ∈ us,f u.kids = g u.kids) → sumD f us vs = sumD g us vs
 | [],vs,_ => by cases vs <;> rfl
 | u :: us,[],_ => rfl
 | u :: us,v :: vs,h => by
  rw [sumD,sumD,h u List.mem_cons_self,zJN vs fun u hu => h u (List.mem_cons_of_mem _ hu)]
theorem zOi : ∀ (n m : Nat) (x y : Nd),x.cnt ≤ n → x.cnt ≤ m → PD n x y = PD m x y
 | 0,_,x,_,h,_ => by have:=x.cnt_pos; omega
 | _ + 1,0,x,_,_,h => by have:=x.cnt_pos; omega
 | n + 1,m + 1,x,y,h1,h2 => by
  rw [PD,PD]
  congr 1
  refine zJN _ fun u hu => zNp fun x' hx' y' => ?_
  have e1:=x.cnt_kids;have e2:=u.cnt_kids;have e3:=Nd.cnts_mem hu;have e4:=Nd.cnts_mem hx';exact zOi n m x' y' (by omega) (by omega)
theorem D_eq (x y : Nd) : D x y = txt x y + sumD DL x.kids y.kids:=by
 unfold D DL;have e1:=x.cnt_kids;rw [e1,PD]
 congr 1
 refine zJN _ fun u hu => zNp fun x' hx' y' => ?_
 have e2:=u.cnt_kids;have e3:=Nd.cnts_mem hu;have e4:=Nd.cnts_mem hx';exact zOi _ _ x' y' (by omega) (Nat.le_refl _)
theorem zTu {P : Nd → Nd → Nat} {x : Nd} {f : List Nd → Nat} {c : Nat} (h : ∀ b,f b ≤ c + Nd.cnts b) : ∀ b,rowD P x f b ≤ x.cnt + c + Nd.cnts b
 | [] => by have:=h []; simp only [rowD]; omega
 | y :: ys => by
  have h1:=h (y :: ys)
  have : rowD P x f (y :: ys) ≤ x.cnt + f (y :: ys):=by
   simp only [rowD]
   split
   ·exact Nat.le_trans (Nat.min_le_left _ _) (Nat.min_le_left _ _)
   ·exact Nat.min_le_left _ _
  omega
theorem zOF {P : Nd → Nd → Nat} : ∀ a b : List Nd,TD P a b ≤ Nd.cnts a + Nd.cnts b
 | [],b => by simp [TD,Nd.cnts]
 | x :: xs,b => by
  have:=zTu (P:=P) (x:=x) (zOF (P:=P) xs) b;simp only [TD,Nd.cnts]; omega
theorem zQW : ∀ us vs : List Nd,sumD DL us vs ≤ Nd.cnts us + Nd.cnts vs
 | [],vs => by cases vs <;> simp [sumD]
 | u :: us,[] => by simp [sumD]
 | u :: us,v :: vs => by
  have h1:=zQW us vs;have h2 : DL u.kids v.kids ≤ _:=zOF u.kids v.kids;have e1:=u.cnt_kids;have e2:=v.cnt_kids;simp only [sumD,Nd.cnts]; omega
theorem zU1 (x y : Nd) : txt x y ≤ 1:=by
 unfold txt;cases x.text == y.text
 ·exact Nat.le_refl _
 ·exact Nat.zero_le _
theorem D_le (x y : Nd) : D x y ≤ x.cnt + y.cnt:=by
 have h1:=zQW x.kids y.kids;have h2:=zU1 x y;have e1:=x.cnt_kids;have e2:=y.cnt_kids;rw [D_eq]; omega
def sufs (f : List Nd → Nat) : List Nd → List Int
 | [] => [(f [] : Int)]
 | y :: ys => (f (y :: ys) : Int) :: sufs f ys
theorem zLU (f : List Nd → Nat) : ∀ b,∃ r,sufs f b = (f b : Int) :: r
 | [] => ⟨_,rfl⟩
 | y :: ys => ⟨_,rfl⟩
theorem zNd (f : List Nd → Nat) (b : List Nd) : (sufs f b).headD 0 = (f b : Int):=by
 obtain ⟨r,h⟩:=zLU f b; rw [h]; rfl
def tabD (P : Nd → Nd → Nat) : List Nd → List Nd → List (List Int)
 | [],b => [sufs (TD P []) b]
 | x :: xs,b => sufs (TD P (x :: xs)) b :: tabD P xs b
theorem zPY (P : Nd → Nd → Nat) : ∀ a b,∃ r,tabD P a b = sufs (TD P a) b :: r
 | [],b => ⟨_,rfl⟩
 | x :: xs,b => ⟨_,rfl⟩
theorem zV4 (P : Nd → Nd → Nat) (a b : List Nd) : ∃ r,at? (tabD P a b) 0 = some r ∧ at? r 0 = some (TD P a b : Int):=by
 obtain ⟨r,h⟩:=zPY P a b;obtain ⟨r',h'⟩:=zLU (TD P a) b;exact ⟨sufs (TD P a) b,by rw [h]; rfl,by rw [h']; rfl⟩
theorem zRj (a b : Nat) : (if (a : Int) < (b : Int) then (a : Int) else (b : Int)) = ((min a b : Nat) : Int):=by
 by_cases h : (a : Int) < (b : Int)
 ·rw [if_pos h,Nat.min_eq_left (by omega)]
 ·rw [if_neg h,Nat.min_eq_right (by omega)]
theorem zUG {f : List Nd → List Nd → Nat} {a b : List Nd} {i : Nat} (h : i < a.length) (h' : i < b.length) : sumD f (a.drop i) (b.drop i) = f a[i].kids b[i].kids + sumD f (a.drop (i + 1)) (b.drop (i + 1)):=by
 rw [List.drop_eq_getElem_cons h,List.drop_eq_getElem_cons h']; rfl
theorem zK5 {x y : Nd} (h : zBS x y = true) : x.kids.length = y.kids.length:=by
 unfold zBS at h;simp only [Bool.and_eq_true] at h;have:=eq_of_beq h.2.1
 omega
end Go.Proofs.YtjdhkpdjecegnaaGreatDoor
namespace Go.Proofs.YtjdhkpdjecegnaaGreatDoor
open Go.Abs
def zQz : List (List UInt8):=[[114,111,119],[115,121,109],[110,117,109],[116,101,120,116],[102,114,97,99],[114,111,111,116],[115,117,98],[115,117,112],
 [98,111,116,104],[97,99,99,101,110,116],[102,101,110,99,101],[109,97,116,114,105,120]]
def kindName (k : Int) : List UInt8:=if 1 ≤ k ∧ k ≤ 12 then zQz.getD (k.toNat - 1) [] else [110,111,100,101] ++ Lib.itoa k
def escL : List UInt8 → List UInt8
 | [] => []
 | c :: r => if c = 34 ∨ c = 92 then 92 :: c :: escL r else c :: escL r
def zPZ (t : List UInt8) : List UInt8:=if t = [] then [] else 58 :: 34 :: (escL t ++ [34])
def zTZ (c : Int) : List UInt8:=if c = 0 then [] else 42 :: Lib.itoa c
def zNA (k : Int) (t : List UInt8) (c : Int) : List UInt8:=kindName k ++ (zPZ t ++ zTZ c)
def zSY : List UInt8 → List UInt8
 | [] => []
 | _ :: r => 40 :: (r ++ [41])
mutual
def zDH : Nd → List UInt8
 | .mk k t c ks => zNA k t c ++ zSY (zHY ks)
def zHY : List Nd → List UInt8
 | [] => []
 | v :: vs => 32 :: (zDH v ++ zHY vs)
end
theorem zRW : ∀ i < 12,zQz.getD i [] ≠ []:=by decide
theorem zQv (k : Int) : kindName k ≠ []:=by
 unfold kindName;split
 ·exact zRW _ (by omega)
 ·simp
def hd (l : List UInt8) (s : List UInt8) : Prop:=∀ b r,l = b :: r → b ∈ s
theorem zKy : ∀ t : List UInt8,(escL t).length ≤ 2 * t.length
 | [] => Nat.le_refl _
 | c :: r => by
  have:=zKy r;simp only [escL]
  split <;> simp only [List.length_cons] <;> omega
theorem zJ4 {k : Int} (h : zO9 k) : (kindName k).length ≤ 25:=by
 unfold kindName;split
 ·have : ∀ i < 12,(zQz.getD i []).length ≤ 25:=by decide
  exact this _ (by omega)
 ·have:=Lib.itoa_length_le k h.1 h.2
  simp; omega
theorem zST {k : Int} {t : List UInt8} {c : Int} (hk : zO9 k) (hc : zO9 c) : (zNA k t c).length ≤ 55 + 2 * t.length:=by
 have h1:=zJ4 hk;have h2:=zKy t;have h3:=Lib.itoa_length_le c hc.1 hc.2;have h4 : (zPZ t).length ≤ 3 + 2 * t.length:=by unfold zPZ; split <;> simp; omega
 have h5 : (zTZ c).length ≤ 22:=by unfold zTZ; split <;> simp; omega
 simp only [zNA,List.length_append]; omega
theorem zSZ (l : List UInt8) : (zSY l).length ≤ l.length + 1:=by cases l <;> simp [zSY]
mutual
theorem zOW : ∀ v : Nd,v.rng → (zDH v).length ≤ 60 * v.w
 | .mk k t c ks,h => by
  have h1:=zST (t:=t) h.1 h.2.1
  have h2:=zML ks h.2.2
  have h3:=zSZ (zHY ks)
  simp only [zDH,List.length_append,Nd.w]; omega
theorem zML : ∀ vs : List Nd,Nd.rngs vs → (zHY vs).length ≤ 60 * Nd.ws vs
 | [],_ => by simp [zHY]
 | v :: vs,h => by
  have h1:=zOW v h.1
  have h2:=zML vs h.2
  simp only [zHY,List.length_cons,List.length_append,Nd.ws]; omega
end
theorem zP3 (c : UInt8) (l : List UInt8) (h : l.length < 4294967296) : zAE c l = some ((),l ++ [c]):=by
 unfold zAE zA5;simp only [Option.bind_some]
 rw [zC4 (by simp; omega)]
theorem zVB (s l : List UInt8) (h : l.length + s.length ≤ 4294967296) : zAj s l = some ((s.length : Int),(),l ++ s):=by
 unfold zAj zA5;simp only [Option.bind_some]
 rw [zC4 h]
theorem zUU {n : Int} (h : zO9 n) : zDE n = some (Lib.itoa n):=by
 unfold zDE;exact zC4 (show -9223372036854775808 ≤ n ∧ n ≤ 9223372036854775807 from h)
theorem zUS (c : UInt8) : ((c.toNat : Int) == 34) = (c == 34) ∧ ((c.toNat : Int) == 92) = (c == 92) :=
 ⟨of_decide_eq_true (zKh (P:=fun c => decide (((c.toNat : Int) == 34) = (c == 34))) (by decide +kernel) c),of_decide_eq_true (zKh (P:=fun c => decide (((c.toNat : Int) == 92) = (c == 92))) (by decide +kernel) c)⟩
theorem zSQ {t : List UInt8} {i : Nat} (h : i < t.length) : escL (t.drop i) = if t[i] = 34 ∨ t[i] = 92 then 92 :: t[i] :: escL (t.drop (i + 1)) else t[i] :: escL (t.drop (i + 1)):=by
 rw [List.drop_eq_getElem_cons h]; rfl
theorem zIZ (t : List UInt8) (ht : t.length ≤ 1073741824) : ∀ (k i : Nat) (l : List UInt8),t.length - i < k → i ≤ t.length → l.length + 2 * (t.length - i) < 4294967296 →
  zAQ t k (i : Int) l = some (l ++ escL (t.drop i))
 | 0,_,_,h,_,_ => by omega
 | k + 1,i,l,hk,hi,hl => by
  unfold zAQ
  by_cases h : i < t.length
  ·rw [zBd (Int.ofNat_lt.2 h),cond_true,zBt h,zSQ h]
   simp only [Option.bind_some,(zUS t[i]).1,(zUS t[i]).2]
   rw [zAS (by omega)]
   have e92 : b8of 92 = 92:=rfl
   by_cases h1 : t[i] = 34
   ·rw [if_pos (.inl h1),show (t[i] == 34) = true from beq_iff_eq.2 h1,cond_true]
    simp only [Option.bind_some,cond_true]
    rw [e92,zP3 _ _ (by omega)]
    simp only [Option.bind_some]
    rw [zP3 _ _ (by simp; omega)]
    simp only [Option.bind_some]
    rw [zIZ t ht k (i + 1) _ (by omega) (by omega) (by simp; omega)]
    simp
   ·rw [show (t[i] == 34) = false from beq_eq_false_iff_ne.2 h1,cond_false]
    simp only [Option.bind_some]
    by_cases h2 : t[i] = 92
    ·rw [if_pos (.inr h2),show (t[i] == 92) = true from beq_iff_eq.2 h2,cond_true]
     try simp only [Option.bind_some,cond_true]
     rw [e92,zP3 _ _ (by omega)]
     simp only [Option.bind_some]
     rw [zP3 _ _ (by simp; omega)]
     simp only [Option.bind_some]
     rw [zIZ t ht k (i + 1) _ (by omega) (by omega) (by simp; omega)]
     simp [h2]
    ·rw [if_neg (by intro h; exact h.elim h1 h2),show (t[i] == 92) = false from beq_eq_false_iff_ne.2 h2,cond_false]
     simp only [Option.bind_some]
     rw [zP3 _ _ (by omega)]
     simp only [Option.bind_some]
     rw [zIZ t ht k (i + 1) _ (by omega) (by omega) (by simp; omega)]
     simp
  ·rw [zBc (by omega),cond_false]
   obtain rfl : i = t.length:=by omega
   simp [escL]
theorem zPf (k : Int) : kindName k = if k = 1 then [114,111,119] else if k = 2 then [115,121,109] else if k = 3 then [110,117,109] else if k = 4 then [116,101,120,116]
 else if k = 5 then [102,114,97,99] else if k = 6 then [114,111,111,116] else if k = 7 then [115,117,98] else if k = 8 then [115,117,112]
 else if k = 9 then [98,111,116,104] else if k = 10 then [97,99,99,101,110,116] else if k = 11 then [102,101,110,99,101]
 else if k = 12 then [109,97,116,114,105,120] else [110,111,100,101] ++ Lib.itoa k:=by
 rcases kinds k with rfl | rfl | rfl | rfl | rfl | rfl | rfl | rfl | rfl | rfl | rfl | rfl | hk
 all_goals first | rfl | skip
 unfold kindName;rw [if_neg (by omega),if_neg (by omega),if_neg (by omega),if_neg (by omega),if_neg (by omega),if_neg (by omega),if_neg (by omega),if_neg (by omega),if_neg (by omega),if_neg (by omega),if_neg (by omega),if_neg (by omega),if_neg (by omega)]
theorem zVm (k : Int) : (bif decide (1 ≤ k) then some (decide (k ≤ 12)) else some false : Option Bool) = some (decide (1 ≤ k ∧ k ≤ 12)):=by
 by_cases h : 1 ≤ k
 ·rw [zBd h,cond_true]; congr 1; by_cases h2 : k ≤ 12 <;> simp [h,h2]
 ·rw [zBc h,cond_false]; congr 1; simp [h]
theorem head_eq (n : Nat) (k : Int) (t : List UInt8) (c : Int) (ks : List Nd) (l : List UInt8) (hn : t.length < n) (ht : t.length ≤ 1073741824) (hk : zO9 k) (hc : zO9 c) (hl : l.length + 2 * t.length + 60 < 4294967296) :
  zBl n (.mk k t c ks) l = some (l ++ zNA k t c):=by
 unfold zBl;have hki:=Lib.itoa_length_le k hk.1 hk.2;have hci:=Lib.itoa_length_le c hc.1 hc.2;have h1 : ∀ X : Option (List UInt8),X = some (l ++ kindName k) → ∀ K : List UInt8 → Option (List UInt8),X.bind K = K (l ++ kindName k):=fun X h K => by rw [h]; rfl
 simp only [zVm,Option.bind_some]
 have hlen:=zJ4 hk;rw [h1 _ ?_]
 ·have h2 : ∀ X : Option (List UInt8),X = some ((l ++ kindName k) ++ zPZ t) → ∀ K : List UInt8 → Option (List UInt8),X.bind K = K ((l ++ kindName k) ++ zPZ t):=fun X h K => by rw [h]; rfl
  rw [h2 _ ?_]
  ·unfold zNA zTZ;have htx : (zPZ t).length ≤ 3 + 2 * t.length:=by have:=zKy t; unfold zPZ; split <;> simp; omega
   by_cases h0 : c = 0
   ·subst h0;rw [if_pos rfl,show ((0 : Int) != 0) = false from rfl,cond_false]
    simp
   ·rw [if_neg h0,show (c != 0) = true from bne_iff_ne.2 h0,cond_true,zUU hc]
    simp only [Option.bind_some]
    rw [zC4 (by simp; omega),zVB _ _ (by simp; omega)]
    simp
  ·unfold zPZ
   by_cases h0 : t = []
   ·subst h0;simp
   ·rw [if_neg h0,show (!(t == [])) = true from by simp [h0],cond_true,zVB _ _ (by simp; omega)]
    simp only [Option.bind_some]
    have:=zIZ t ht n 0 ((l ++ kindName k) ++ [58,34]) (by omega) (by omega) (by simp; omega)
    rw [show ((0 : Nat) : Int) = 0 from rfl] at this;rw [this]
    have he:=zKy t;simp only [Option.bind_some,List.drop_zero]
    rw [show b8of 34 = 34 from rfl,zP3 _ _ (by simp; omega)]
    simp
 ·rw [zPf]
  have go : ∀ s : List UInt8,s.length ≤ 25 → ((zAj s l).bind fun x => match x with | (_,_,b) => some b) = some (l ++ s):=fun s hs => by
   rw [zVB _ _ (by omega)]; rfl
  rcases kinds k with rfl | rfl | rfl | rfl | rfl | rfl | rfl | rfl | rfl | rfl | rfl | rfl | hk'
  all_goals first | exact go _ (by decide) | skip
  rw [show decide (1 ≤ k ∧ k ≤ 12) = false from decide_eq_false (by omega),cond_false,zUU hk]
  simp only [Option.bind_some]
  rw [zC4 (by simp; omega),if_neg (by omega),if_neg (by omega),if_neg (by omega),if_neg (by omega),if_neg (by omega),if_neg (by omega),if_neg (by omega),if_neg (by omega),if_neg (by omega),if_neg (by omega),if_neg (by omega),if_neg (by omega)]
  exact go _ (by simp; omega)
def remK (ks : List Nd) (i : Nat) : List UInt8:=if i = 0 then zSY (zHY ks) else zHY (ks.drop i) ++ [41]
def outS : List (Nd × Nat) → List UInt8
 | [] => []
 | p :: r => outS r ++ remK p.1.kids p.2
def itS : List (Nd × Nat) → Nat
 | [] => 0
 | p :: r => itS r + (1 + 2 * Nd.cnts (p.1.kids.drop p.2))
theorem zGk (p : Nd × Nat) : ∀ L,outS (L ++ [p]) = remK p.1.kids p.2 ++ outS L
 | [] => by simp [outS]
 | q :: r => by simp only [List.cons_append,outS,zGk p r,List.append_assoc]
theorem zHA (p : Nd × Nat) : ∀ L,itS (L ++ [p]) = itS L + (1 + 2 * Nd.cnts (p.1.kids.drop p.2))
 | [] => by simp [itS]
 | q :: r => by simp only [List.cons_append,itS,zHA p r]; omega
theorem zQu : ∀ L,L.length ≤ itS L
 | [] => Nat.le_refl _
 | q :: r => by have:=zQu r; simp only [itS,List.length_cons]; omega
theorem zTq {ks : List Nd} {i : Nat} (h : i < ks.length) : remK ks i = (if i = 0 then 40 else 32) :: (zDH ks[i] ++ remK ks (i + 1)):=by
 unfold remK;rw [if_neg (by omega : ¬ i + 1 = 0)]
 by_cases h0 : i = 0
 ·subst h0;rw [if_pos rfl,if_pos rfl]
  match ks,h with
  | v :: vs,_ => simp [zHY,zSY]
 ·rw [if_neg h0,if_neg h0,List.drop_eq_getElem_cons h]
  simp [zHY]
theorem zUv (ks : List Nd) : remK ks ks.length = if ks.length = 0 then [] else [41]:=by
 unfold remK
 by_cases h : ks.length = 0
 ·rw [if_pos h,if_pos h,List.length_eq_zero_iff.1 h]; rfl
 ·rw [if_neg h,if_neg h,List.drop_length]; rfl
theorem zIX (k : Int) (t : List UInt8) (c : Int) (ks : List Nd) : zDH (.mk k t c ks) = zNA k t c ++ remK ks 0:=by
 simp [zDH,remK]
theorem zQY (k : Int) (t : List UInt8) (c : Int) (ks : List Nd) : (Nd.mk k t c ks).w = t.length + Nd.ws ks + 1:=rfl
def entI (p : Nd × Nat) : Nd × Int:=(p.1,(p.2 : Int))
theorem zKL (n : Nat) : ∀ (k : Nat) (L : List (Nd × Nat)) (b : List UInt8),itS L < k → itS L ≤ 1000000000 → (∀ p ∈ L,p.2 ≤ p.1.kids.length ∧ p.1.rng ∧ p.1.w ≤ 16777216 ∧ p.1.w < n) → b.length + (outS L).length ≤ 4000000000 →
  zBT n k b (L.map entI) = some (b ++ outS L)
 | 0,_,_,h,_,_,_ => by omega
 | k + 1,L,b,hk,hit,hL,hb => by
  unfold zBT;rcases List.eq_nil_or_concat L with rfl | ⟨L,⟨v,i⟩,rfl⟩
  ·simp [outS]
  ·rw [List.concat_eq_append] at *;obtain ⟨hi,hr,hw,hwn⟩:=hL (v,i) (by simp)
   obtain ⟨k0,t,c,ks⟩:=v;replace hr : (Nd.mk k0 t c ks).rng:=hr;replace hw : (Nd.mk k0 t c ks).w ≤ 16777216:=hw;replace hwn : (Nd.mk k0 t c ks).w < n:=hwn;have hlen : ((List.map entI (L ++ [(Nd.mk k0 t c ks,i)])).length : Int) = (L.length : Int) + 1:=by simp
   have hll:=zQu (L ++ [(Nd.mk k0 t c ks,i)])
   rw [List.length_append,List.length_singleton] at hll;have hwr : IntKind.i64.wrap (((List.map entI (L ++ [(Nd.mk k0 t c ks,i)])).length : Int) - 1) = (L.length : Int):=by rw [hlen,wrap64_in (by omega) (by omega)]; omega
   have hat : at? (List.map entI (L ++ [(Nd.mk k0 t c ks,i)])) (L.length : Int) = some (Nd.mk k0 t c ks,(i : Int)):=by
    rw [zBt (by simp)]; simp [entI]
   rw [zBd (by omega),cond_true,hwr,hat]
   simp only [Option.bind_some,Nd.kids] at hi ⊢;rw [zGk] at hb ⊢;rw [zHA] at hk hit;simp only [Nd.kids] at hb hk hit ⊢
   by_cases he : i = ks.length
   ·subst he;rw [show ((ks.length : Int) == (ks.length : Int)) = true from beq_self_eq_true _,cond_true]
    have hre:=zUv ks;have hx : (bif decide (0 < (ks.length : Int)) then (zAE (b8of 41) b).bind (fun x => match x with | (_,b14) => some b14) else some b) = some (b ++ remK ks ks.length):=by
     rw [hre]
     by_cases h0 : ks.length = 0
     ·rw [zBc (by omega),cond_false,if_pos h0]; simp
     ·rw [zBd (by omega),cond_true,if_neg h0,zP3 _ _ (by omega)]; rfl
    have hx' : ∀ X : Option (List UInt8),X = some (b ++ remK ks ks.length) → ∀ K : List UInt8 → Option (List UInt8),X.bind K = K (b ++ remK ks ks.length):=fun X h K => by rw [h]; rfl
    rw [hx' _ hx,zC4 (by omega),Int.toNat_natCast]
    have ht : List.take L.length (List.map entI (L ++ [(Nd.mk k0 t c ks,ks.length)])) = L.map entI:=by simp
    rw [ht,zKL n k L _ (by omega) (by omega) (fun p hp => hL p (by simp [hp])) (by simp only [List.length_append] at hb ⊢; omega)]
    simp
   ·have h : i < ks.length:=by omega
    rw [zC2 (by omega : (i : Int) ≠ (ks.length : Int)),cond_false,zBt h]
    have hd:=Nd.cnts_drop h;have hrs:=zTq h;rw [hrs] at hb ⊢;have hkr : (ks[i]).rng:=Nd.rng_mem hr.2.2 (List.getElem_mem h)
    have hkw : (ks[i]).w < Nd.ws ks:=Nd.w_mem (List.getElem_mem h)
    have hwt:=zQY k0 t c ks;rcases e : ks[i] with ⟨e1,e2,e3,e4⟩
    rw [e] at hd hkr hkw hb;have hwt2:=zQY e1 e2 e3 e4;have hct:=Nd.cnt_kids (.mk e1 e2 e3 e4)
    simp only [Nd.kids] at hct;rw [zIX] at hb;simp only [Option.bind_some]
    have hsep : at? ([40,32] : List UInt8) (if 1 < (i : Int) then 1 else (i : Int)) = some (if i = 0 then 40 else 32):=by
     by_cases h0 : i = 0
     ·subst h0; rfl
     ·rw [if_neg h0]
      by_cases h1 : i = 1
      ·subst h1; rfl
      ·rw [if_pos (by omega)]; rfl
    rw [hsep]
    simp only [Option.bind_some]
    simp only [List.length_append,List.length_cons] at hb;rw [zP3 _ _ (by omega)]
    simp only [Option.bind_some]
    rw [head_eq n e1 e2 e3 e4 _ (by omega) (by omega) hkr.1 hkr.2.1 (by simp; omega)]
    simp only [Option.bind_some]
    have hset : (List.map entI (L ++ [(Nd.mk k0 t c ks,i)])).set (L.length : Int).toNat (Nd.mk k0 t c ks,IntKind.i64.wrap ((i : Int) + 1)) ++ [(Nd.mk e1 e2 e3 e4,0)] = (L ++ [(Nd.mk k0 t c ks,i + 1)] ++ [(Nd.mk e1 e2 e3 e4,0)]).map entI:=by
     have hlk:=Nd.ws_len ks;rw [wrap64_in (by omega) (by omega)]
     simp [entI]
    have hll2:=zQu L;rw [zC4 (by simp; omega),hset]
    rw [zKL n k _ _ (by rw [zHA,zHA]; simp only [Nd.kids,List.drop_zero]; omega) (by rw [zHA,zHA]; simp only [Nd.kids,List.drop_zero]; omega) ?_ ?_]
    ·rw [zGk,zGk,zIX]
     simp [Nd.kids]
    ·intro p hp;rcases List.mem_append.1 hp with hp | hp
     ·rcases List.mem_append.1 hp with hp | hp
      ·exact hL p (by simp [hp])
      ·simp only [List.mem_singleton] at hp; subst hp
       exact ⟨h,hr,hw,hwn⟩
     ·simp only [List.mem_singleton] at hp; subst hp
      exact ⟨Nat.zero_le _,hkr,(show (Nd.mk e1 e2 e3 e4).w ≤ 16777216 by omega),(show (Nd.mk e1 e2 e3 e4).w < n by omega)⟩
    ·rw [zGk,zGk]
     simp only [Nd.kids,List.length_append,List.length_cons,List.length_nil]
     omega
theorem zT3 (t : Nd) : zDH t ≠ []:=by
 obtain ⟨k,t,c,ks⟩:=t;rw [zIX]
 unfold zNA;have:=zQv k;simp [this]
theorem zJ6 (n : Nat) (t : Nd) (h : 2 * t.w < n) (hw : t.w ≤ 16777216) (hr : t.rng) : zEn n t = some (zDH t):=by
 have hlen:=zOW t hr;have hne:=zT3 t;have hcw:=Nd.cnt_w t;have hck:=Nd.cnt_kids t;obtain ⟨k,tx,c,ks⟩:=t;have hwt:=zQY k tx c ks;simp only [Nd.kids] at hck;unfold zEn zDY;simp only [Option.bind_some]
 rw [head_eq n k tx c ks [] (by omega) (by omega) hr.1 hr.2.1 (by simp; omega)]
 simp only [Option.bind_some,List.nil_append]
 have hl:=zKL n n [(.mk k tx c ks,0)] (zNA k tx c) (by simp [itS,Nd.kids]; omega) (by simp [itS,Nd.kids]; omega) (fun p hp => by simp only [List.mem_singleton] at hp; subst hp; exact ⟨Nat.zero_le _,hr,hw,(show (Nd.mk k tx c ks).w < n by omega)⟩) (by
  rw [zIX] at hlen;simp only [outS,Nd.kids,List.length_append,List.nil_append] at hlen ⊢; omega)
 have e : List.map entI [(Nd.mk k tx c ks,0)] = [(Nd.mk k tx c ks,0)]:=rfl;rw [e] at hl;rw [hl,Option.bind_some]
 have e2 : zNA k tx c ++ outS [(Nd.mk k tx c ks,0)] = zDH (.mk k tx c ks):=by rw [zIX]; simp [outS,Nd.kids]
 rw [e2]
 unfold zCu;rw [zC4 ⟨hne,by omega⟩,Option.bind_some]
end Go.Proofs.YtjdhkpdjecegnaaGreatDoor
namespace Go.Proofs.YtjdhkpdjecegnaaGreatDoor
open Go.Abs
def cntI (x : Nd) : Int:=(x.cnt : Int)
theorem zNb (n : Nat) {l : List Nd} (hn : ∀ v ∈ l,v.cnt < n) (hb : Nd.cnts l ≤ 1048576) : ∀ (q i : Nat),l.length - i < q → i ≤ l.length →
  zB2 n l q (i : Int) ((l.take i).map cntI ++ List.replicate (l.length - i) 0) = some (l.map cntI)
 | 0,_,h,_ => by omega
 | q + 1,i,hq,hi => by
  have l1:=Nd.cnts_len l;unfold zB2
  by_cases h : i < l.length
  ·rw [zBd (Int.ofNat_lt.2 h),cond_true,zBt h]
   have hm:=List.getElem_mem h;have hc:=zI2 n _ (hn _ hm) (by have:=Nd.cnts_mem hm; omega)
   have ht : l.take (i + 1) = l.take i ++ [l[i]]:=List.take_append_getElem h ▸ rfl;rcases e : l[i] with ⟨a,b,c,d⟩
   rw [e] at hc ht;simp only [Option.bind_some,hc]
   have hlen : ((l.take i).map cntI).length = i:=by simp; omega
   obtain ⟨m,hm⟩ : ∃ m,l.length - i = m + 1:=⟨l.length - i - 1,by omega⟩
   have hg : at? ((l.take i).map cntI ++ List.replicate (l.length - i) (0 : Int)) (i : Int) = some 0:=by
    unfold at?
    rw [if_pos (by omega),Int.toNat_natCast,List.getElem?_append_right (by omega),hlen,hm]
    simp
   rw [hg,Option.bind_some,zAS (by omega),Int.toNat_natCast]
   have hs : ((l.take i).map cntI ++ List.replicate (l.length - i) (0 : Int)).set i ((Nd.mk a b c d).cnt : Int) = (l.take (i + 1)).map cntI ++ List.replicate (l.length - (i + 1)) 0:=by
    rw [List.set_append_right _ _ (by omega),hlen,Nat.sub_self,hm,ht,show l.length - (i + 1) = m by omega,List.replicate_succ,List.set_cons_zero,List.map_append]
    simp [cntI]
   rw [hs]
   exact zNb n hn hb q (i + 1) (by omega) (by omega)
  ·rw [zBc (by omega),cond_false]
   obtain rfl : i = l.length:=by omega
   simp
theorem zRy (n : Nat) (l : List Nd) (hn : Nd.cnts l + 1 < n) (hb : Nd.cnts l ≤ 1048576) : zDV n l = some (l.map cntI):=by
 have l1:=Nd.cnts_len l;have:=zNb n (l:=l) (fun v hv => by have:=Nd.cnts_mem hv; omega) hb n 0 (by omega) (by omega)
 rw [show ((0 : Nat) : Int) = 0 from rfl] at this;simp only [List.take_zero,List.map_nil,List.nil_append,Nat.sub_zero] at this;rw [zDV,zC4 ⟨by omega,by omega⟩,Int.toNat_natCast,this]; rfl
theorem zRd : ∀ b : List Nd,Nd.cnts b ≤ 1048576 → zAZ (b.map cntI) = sufs (TD D []) b
 | [],_ => rfl
 | y :: ys,hb => by
  simp only [Nd.cnts] at hb;have hf : TD D [] ys = Nd.cnts ys:=rfl;rw [List.map_cons,zAZ,zRd ys (by omega),zNd,hf,cntI,wrap64_in (by omega) (by omega),sufs,show TD D [] (y :: ys) = y.cnt + Nd.cnts ys from rfl]
  congr 1; omega
def prI (x y : Nd) : Int:=bif zBS x y then (D x y : Int) else -1
theorem zSS {F : Nd → Nd → Option Int} {x : Nd} {f : List Nd → Nat} {c : Nat} (hx : x.cnt ≤ 1048576) (hc : c ≤ 1048576) (hf : ∀ b,f b ≤ c + Nd.cnts b) :
  ∀ (b : List Nd),(∀ y ∈ b,F x y = some (prI x y)) → Nd.cnts b ≤ 1048576 → zAA F x (x.cnt : Int) b (b.map cntI) (sufs f b) = some (sufs (rowD D x f) b,b.map (prI x))
 | [],_,_ => by
  have:=hf []
  simp only [Nd.cnts] at this;simp only [sufs,List.map_nil,zAA,rowD]
  rw [wrap64_in (by omega) (by omega),Nat.add_comm]; rfl
 | y :: ys,h1,hb => by
  simp only [Nd.cnts] at hb;have g1:=hf (y :: ys)
  simp only [Nd.cnts] at g1;have g2:=hf ys;have g3:=zTu (P:=D) (x:=x) hf ys;have g4:=D_le x y;have ih:=zSS (F:=F) hx hc hf ys (fun y hy => h1 y (List.mem_cons_of_mem _ hy)) (by omega)
  obtain ⟨r,hr⟩:=zLU f ys;rw [sufs,hr,List.map_cons,zAA,← hr,ih,Option.bind_some,h1 y List.mem_cons_self,Option.bind_some]
  dsimp only;rw [zNd,cntI,wrap64_in (n:=(f (y :: ys) : Int) + (x.cnt : Int)) (by omega) (by omega),wrap64_in (n:=(rowD D x f ys : Int) + _) (by omega) (by omega),← Int.natCast_add,← Int.natCast_add,zRj,Nat.add_comm (f (y :: ys)),Nat.add_comm (rowD D x f ys)]
  unfold prI;cases ha : zBS x y with
  | false =>
   simp only [cond_false,sufs,rowD,ha,List.map_cons]
   rw [if_neg (by omega)]
   simp [prI,ha]
  | true =>
   simp only [cond_true]
   rw [if_pos (by omega),wrap64_in (by omega) (by omega),← Int.natCast_add,zRj,Nat.min_comm,Nat.add_comm (f ys)]
   simp [sufs,rowD,ha,prI]
theorem zRe {F : Nd → Nd → Option Int} {b : List Nd} (hb : Nd.cnts b ≤ 1048576) :
  ∀ (a : List Nd),(∀ x ∈ a,∀ y ∈ b,F x y = some (prI x y)) → Nd.cnts a ≤ 1048576 → zAM F b (b.map cntI) a (a.map cntI) = some (tabD D a b,a.map fun x => b.map (prI x))
 | [],_,_ => by rw [List.map_nil,zAM,zRd b hb]; rfl
 | x :: xs,h1,ha => by
  simp only [Nd.cnts] at ha;rw [List.map_cons,zAM,zRe hb xs (fun y hy => h1 y (List.mem_cons_of_mem _ hy)) (by omega),Option.bind_some]
  obtain ⟨r,hr⟩:=zPY D xs b;rw [hr]
  dsimp only;rw [cntI,zSS (c:=Nd.cnts xs) (by omega) (by omega) (zOF xs) b (h1 x List.mem_cons_self) hb,Option.bind_some,← hr]
  rfl
theorem zJ9 {F : List Nd → List Nd → Option (List (List Int) × List (List Int) × List Int × List Int)} {a b : List Nd} (hF : ∀ u ∈ a,∀ v ∈ b,∃ p,F u.kids v.kids = some (tabD D u.kids v.kids,p)) (hl : a.length = b.length) (ha : Nd.cnts a ≤ 1048576) :
  ∀ (q i o : Nat),a.length - i < q → i ≤ a.length → o + sumD DL (a.drop i) (b.drop i) ≤ 4000000 → zBB F a b q (o : Int) (i : Int) = some ((o + sumD DL (a.drop i) (b.drop i) : Nat) : Int)
 | 0,_,_,h,_,_ => by omega
 | q + 1,i,o,hq,hi,ho => by
  have l1:=Nd.cnts_len a;unfold zBB
  by_cases h : i < a.length
  ·have h' : i < b.length:=by omega
   rw [zBd (Int.ofNat_lt.2 h),cond_true,zBt h,zBt h']
   obtain ⟨p,hf⟩:=hF _ (List.getElem_mem h) _ (List.getElem_mem h')
   have hs:=zUG (f:=DL) h h';rcases e : a[i] with ⟨x1,x2,x3,x4⟩
   rcases e' : b[i] with ⟨y1,y2,y3,y4⟩
   rw [e,e'] at hf hs;simp only [Nd.kids] at hf hs;obtain ⟨r,r1,r2⟩:=zV4 D x4 y4;have hd : TD D x4 y4 = DL x4 y4:=rfl;rw [hd] at r2;obtain ⟨p1,p2,p3⟩:=p;simp only [Option.bind_some,hf,r1,r2]
   rw [zAS (by omega),wrap64_in (by omega) (by omega),← Int.natCast_add,zJ9 hF hl ha q (i + 1) _ (by omega) (by omega) (by omega)]
   congr 2; omega
  ·rw [zBc (by omega),cond_false]
   obtain rfl : i = a.length:=by omega
   rw [List.drop_length]
   cases List.drop a.length b <;> rfl
theorem zQr : ∀ N : Nat,(∀ x y : Nd,2 * x.cnt + 2 * y.cnt < N → x.cnt ≤ 1048576 → y.cnt ≤ 1048576 → zBD N x y = some (prI x y)) ∧
  (∀ a b : List Nd,2 * Nd.cnts a + 2 * Nd.cnts b + 2 < N → Nd.cnts a ≤ 1048576 → Nd.cnts b ≤ 1048576 → zB1 N a b = some (tabD D a b,(a.map fun x => b.map (prI x)),a.map cntI,b.map cntI))
 | 0 => ⟨fun _ _ h _ _ => by omega,fun _ _ h _ _ => by omega⟩
 | n + 1 => by
  obtain ⟨ih1,ih2⟩:=zQr n;refine ⟨fun x y h hx hy => ?_,fun a b h ha hb => ?_⟩
  ·have e1:=x.cnt_kids;have e2:=y.cnt_kids;have hle:=zQW x.kids y.kids;have hD:=D_eq x y;have l1:=Nd.cnts_len x.kids;have hF : ∀ u ∈ x.kids,∀ v ∈ y.kids,∃ p,zB1 n u.kids v.kids = some (tabD D u.kids v.kids,p):=fun u hu v hv => by
    have:=Nd.cnts_mem hu;have:=Nd.cnts_mem hv;have:=u.cnt_kids;have:=v.cnt_kids;exact ⟨_,ih2 _ _ (by omega) (by omega) (by omega)⟩
   have ht:=zU1 x y;have hal : zBS x y = true → x.kids.length = y.kids.length:=zK5;have hlp : x.kids.length = y.kids.length → _:=fun hl => zJ9 hF hl (by omega) n 0 (txt x y) (by omega) (by omega) (by simp only [List.drop_zero]; omega)
   rw [show ((0 : Nat) : Int) = 0 from rfl,List.drop_zero,List.drop_zero,← hD] at hlp;obtain ⟨a,b,c,d⟩:=x;obtain ⟨a',b',c',d'⟩:=y;unfold zBD;have e : (bif (!(b == b')) then some 1 else some 0 : Option Int) = some (txt (.mk a b c d) (.mk a' b' c' d') : Int):=by
    unfold txt;simp only [Nd.text]
    cases b == b' <;> rfl
   have e3 : (bif (a != a') then some true else bif (c != c') then some true else some ((d.length : Int) != (d'.length : Int)) : Option Bool) = some (!zBS (.mk a b c d) (.mk a' b' c' d')):=by
    unfold zBS bne;simp only [Nd.kind,Nd.kids,Nd.cols]
    cases a == a' <;> cases c == c' <;> cases ((d.length : Int) == (d'.length : Int)) <;> rfl
   rw [e,e3]
   unfold prI;cases hab : zBS (.mk a b c d) (.mk a' b' c' d') with
   | false => rfl
   | true =>
    simp only [Nd.kids] at hlp hal;simp only [Option.bind_some,Bool.not_true,cond_false,cond_true]
    rw [hlp (hal hab)]; rfl
  ·have l1:=Nd.cnts_len a;have l2:=Nd.cnts_len b;rw [zB1,zRy n a (by omega) ha,zRy n b (by omega) hb,Option.bind_some,Option.bind_some,zC4 ⟨by omega,by omega,by simp⟩]
   rw [zRe hb a (fun x hx y hy => ?_) ha]
   ·rfl
   ·have:=Nd.cnts_mem hy;have:=Nd.cnts_mem hx;exact ih1 x y (by omega) (by omega) (by omega)
theorem zIW (n : Nat) (a b : Nd) (ha : a.w + 45 < n) (ha' : a.w ≤ 67108864) (hb : b.w + 45 < n) (hb' : b.w ≤ 67108864) : zDW n a b = some (zAL a && zAL b):=by
 have e1:=zCI n a ha ha';have e2:=zCI n b hb hb';obtain ⟨a1,a2,a3,a4⟩:=a;obtain ⟨b1,b2,b3,b4⟩:=b;unfold zDW;simp only [e1,e2,Option.bind_some]
 cases zAL (.mk a1 a2 a3 a4) <;> rfl
theorem zU3 (n : Nat) (a b : Nd) (h : 2 * a.w + 2 * b.w + 50 < n) (ha : a.w ≤ 67108864) (hb : b.w ≤ 67108864) (ha2 : a.cnt ≤ 1048576) (hb2 : b.cnt ≤ 1048576) : zEl n a b = some (bif zAL a && zAL b then ((DL a.kids b.kids : Int),0) else (0,1)):=by
 have e1:=zIW n a b (by omega) ha (by omega) hb;have c1:=Nd.cnt_w a;have c2:=Nd.cnt_w b;have k1:=a.cnt_kids;have k2:=b.cnt_kids;have e2:=(zQr n).2 a.kids b.kids (by omega) (by omega) (by omega)
 obtain ⟨r,r1,r2⟩:=zV4 D a.kids b.kids;have hd : TD D a.kids b.kids = DL a.kids b.kids:=rfl;rw [hd] at r2;obtain ⟨a1,a2,a3,a4⟩:=a;obtain ⟨b1,b2,b3,b4⟩:=b;simp only [Nd.kids] at e2 r1 r2;unfold zEl;simp only [e1,Option.bind_some]
 cases zAL (.mk a1 a2 a3 a4) && zAL (.mk b1 b2 b3 b4) with
 | false => rfl
 | true => simp only [Bool.not_true,cond_false,e2,Option.bind_some,r1,r2,cond_true,Nd.kids]
end Go.Proofs.YtjdhkpdjecegnaaGreatDoor
namespace Go.Proofs.YtjdhkpdjecegnaaGreatDoor
open Go.Abs
theorem zTV (k : Nat) : zGB (k + 60) = some true:=by
 with_unfolding_all rfl
end Go.Proofs.YtjdhkpdjecegnaaGreatDoor
namespace Go.Proofs.YtjdhkpdjecegnaaGreatDoor
open Go.Abs
theorem zVQ (n : Nat) (a b : Nd) (h : 130 < n) : ∃ y,zHb n a b = some y ∧ (y = true → a.cnt ≤ 120 ∧ b.cnt ≤ 120):=by
 obtain ⟨y1,h1,h2⟩:=zUP n a 120 (by omega) (by omega)
 obtain ⟨y2,g1,g2⟩:=zUP n b 120 (by omega) (by omega)
 rw [show ((120 : Nat) : Int) = 120 from rfl] at h1 g1;obtain ⟨a1,a2,a3,a4⟩:=a;obtain ⟨b1,b2,b3,b4⟩:=b;unfold zHb;simp only [h1,g1,Option.bind_some]
 cases y1 with
 | false => exact ⟨false,rfl,fun h => by cases h⟩
 | true => exact ⟨y2,rfl,fun h => ⟨h2 rfl,g2 h⟩⟩
end Go.Proofs.YtjdhkpdjecegnaaGreatDoor
namespace Go.Proofs.YtjdhkpdjecegnaaGreatDoor
open Go.Abs
inductive Al : List Nd → List Nd → Nat → Prop
 | nil : Al [] [] 0
 | del {x xs b k} : Al xs b k → Al (x :: xs) b (x.cnt + k)
 | ins {y a ys k} : Al a ys k → Al a (y :: ys) (y.cnt + k)
 | mat {x y xs ys k} : zBS x y = true → Al xs ys k → Al (x :: xs) (y :: ys) (D x y + k)
theorem zVY {P : Nd → Nd → Nat} {x y : Nd} {f : List Nd → Nat} {ys : List Nd} : rowD P x f (y :: ys) ≤ x.cnt + f (y :: ys):=by
 simp only [rowD]; split
 ·exact Nat.le_trans (Nat.min_le_left _ _) (Nat.min_le_left _ _)
 ·exact Nat.min_le_left _ _
theorem zVZ {P : Nd → Nd → Nat} {x y : Nd} {f : List Nd → Nat} {ys : List Nd} : rowD P x f (y :: ys) ≤ y.cnt + rowD P x f ys:=by
 rw [rowD]; split
 ·exact Nat.le_trans (Nat.min_le_left _ _) (Nat.min_le_right _ _)
 ·exact Nat.min_le_right _ _
theorem zV0 {P : Nd → Nd → Nat} {x y : Nd} {f : List Nd → Nat} {ys : List Nd} (h : zBS x y = true) : rowD P x f (y :: ys) ≤ P x y + f ys:=by
 rw [rowD,if_pos h]; exact Nat.min_le_right _ _
theorem zSh {a b : List Nd} {k : Nat} (h : Al a b k) : DL a b ≤ k:=by
 induction h with
 | nil => exact Nat.le_refl _
 | @del x xs b k _ ih =>
  cases b with
  | nil => exact Nat.add_le_add_left ih _
  | cons y ys => exact Nat.le_trans zVY (Nat.add_le_add_left ih _)
 | @ins y a ys k _ ih =>
  cases a with
  | nil => exact Nat.add_le_add_left ih _
  | cons x xs => exact Nat.le_trans zVZ (Nat.add_le_add_left ih _)
 | @mat x y xs ys k hal _ ih => exact Nat.le_trans (zV0 hal) (Nat.add_le_add_left ih _)
theorem zMw : ∀ b : List Nd,Al [] b (Nd.cnts b)
 | [] => .nil
 | y :: ys => .ins (zMw ys)
theorem zUN {x : Nd} {xs : List Nd} (h : ∀ b,Al xs b (DL xs b)) : ∀ b,Al (x :: xs) b (rowD D x (DL xs) b)
 | [] => .del (h [])
 | y :: ys => by
  have ih:=zUN (x:=x) h ys;have h1 : Al (x :: xs) (y :: ys) (min (x.cnt + DL xs (y :: ys)) (y.cnt + rowD D x (DL xs) ys)):=by
   rcases Nat.le_total (x.cnt + DL xs (y :: ys)) (y.cnt + rowD D x (DL xs) ys) with g | g
   ·rw [Nat.min_eq_left g]; exact .del (h _)
   ·rw [Nat.min_eq_right g]; exact .ins ih
  rw [rowD]
  split
  ·rename_i hal
   rcases Nat.le_total (min (x.cnt + DL xs (y :: ys)) (y.cnt + rowD D x (DL xs) ys)) (D x y + DL xs ys) with g | g
   ·rw [Nat.min_eq_left g]; exact h1
   ·rw [Nat.min_eq_right g]; exact .mat hal (h _)
  ·exact h1
theorem zSg : ∀ a b : List Nd,Al a b (DL a b)
 | [],b => zMw b
 | x :: xs,b => zUN (zSg xs) b
theorem zIP {x y : Nd} : zBS x y = true ↔ x.kind = y.kind ∧ x.kids.length = y.kids.length ∧ x.cols = y.cols:=by
 unfold zBS;simp only [Bool.and_eq_true,beq_iff_eq]
 omega
theorem zRL {x y : Nd} (h : zBS x y = true) : zBS y x = true:=by
 obtain ⟨h1,h2,h3⟩:=zIP.1 h; exact zIP.2 ⟨h1.symm,h2.symm,h3.symm⟩
theorem zUJ (x y : Nd) : txt x y = txt y x:=by
 unfold txt; rw [zK9]
theorem zRA : ∀ (us vs : List Nd),(∀ u ∈ us,∀ v,DL u.kids v = DL v u.kids) → sumD DL us vs = sumD DL vs us
 | [],vs,_ => by cases vs <;> rfl
 | u :: us,[],_ => rfl
 | u :: us,v :: vs,h => by
  rw [sumD,sumD,h u List.mem_cons_self,zRA us vs fun u hu => h u (List.mem_cons_of_mem _ hu)]
theorem zSi {a b : List Nd} {k : Nat} (h : Al a b k) : (∀ x ∈ a,∀ y ∈ b,D x y = D y x) → Al b a k:=by
 induction h with
 | nil => exact fun _ => .nil
 | del _ ih => exact fun hd => .ins (ih fun x hx => hd x (List.mem_cons_of_mem _ hx))
 | ins _ ih => exact fun hd => .del (ih fun x hx y hy => hd x hx y (List.mem_cons_of_mem _ hy))
 | mat hal _ ih => exact fun hd => by rw [hd _ List.mem_cons_self _ List.mem_cons_self]; exact .mat (zRL hal) (ih fun x hx y hy => hd x (List.mem_cons_of_mem _ hx) y (List.mem_cons_of_mem _ hy))
theorem zMx {a b : List Nd} (h : ∀ x ∈ a,∀ y ∈ b,D x y = D y x) : DL a b = DL b a :=
 Nat.le_antisymm (zSh (zSi (zSg b a) fun x hx y hy => (h y hy x hx).symm)) (zSh (zSi (zSg a b) h))
theorem zUO : ∀ (N : Nat) (x y : Nd),x.cnt ≤ N → D x y = D y x
 | 0,x,_,h => by have:=x.cnt_pos; omega
 | N + 1,x,y,h => by
  rw [D_eq,D_eq,zUJ,zRA]
  intro u hu v;have e1:=x.cnt_kids;have e2:=u.cnt_kids;have e3:=Nd.cnts_mem hu;exact zMx fun x' hx' y' _ => zUO N x' y' (by have:=Nd.cnts_mem hx'; omega)
theorem zU5 (a b : List Nd) : DL a b = DL b a:=zMx fun x _ y _ => zUO _ x y (Nat.le_refl _)
theorem zVE {a b : List Nd} {k : Nat} (h : Al a b k) : (∀ x ∈ a,∀ y ∈ b,zBS x y = true → y.cnt ≤ x.cnt + D x y) → Nd.cnts b ≤ Nd.cnts a + k:=by
 induction h with
 | nil => exact fun _ => Nat.le_refl _
 | del _ ih => exact fun hd => by have:=ih fun x hx => hd x (List.mem_cons_of_mem _ hx); simp only [Nd.cnts]; omega
 | ins _ ih => exact fun hd => by have:=ih fun x hx y hy => hd x hx y (List.mem_cons_of_mem _ hy); simp only [Nd.cnts]; omega
 | mat hal _ ih =>
   intro hd;have h1:=hd _ List.mem_cons_self _ List.mem_cons_self hal;have:=ih fun x hx y hy => hd x (List.mem_cons_of_mem _ hx) y (List.mem_cons_of_mem _ hy)
   simp only [Nd.cnts]; omega
theorem zCN {k : Int} : ∀ {a : List Nd} {v : Nd},zBf k a = true → v ∈ a → zCa v = true ∧ ((v.kind == 1) == (k == 1)) = false
 | u :: a,v,h,hm => by
  simp only [zBf,Bool.and_eq_true,Bool.not_eq_true'] at h;rcases List.mem_cons.1 hm with rfl | hm
  ·exact ⟨h.1.2,h.1.1⟩
  ·exact zCN h.2 hm
theorem zGw {u : Nd} (h : zCa u = true) (hk : u.kind = 1) : u = .mk 1 [] 0 u.kids ∧ zBf 1 u.kids = true:=by
 obtain ⟨k,t,c,ks⟩:=u;simp only [Nd.kind] at hk;subst hk;simp only [zCa,Bool.and_eq_true] at h;obtain ⟨⟨h1,h2⟩,h3⟩:=h;have h1' : (t == []) = true:=h1;have h2' : ((c == 0) && decide ((ks.length : Int) ≤ 200)) = true:=h2;simp only [Bool.and_eq_true] at h2';rw [eq_of_beq h1',eq_of_beq h2'.1]
 exact ⟨rfl,h3⟩
theorem zPU {F : Nd → Nd → Option Bool} {a b : List Nd} (hF : ∀ u ∈ a,∀ v ∈ b,∃ y,F u v = some y ∧ (y = true ↔ u = v)) (hl : a.length = b.length) (hb : a.length ≤ 1073741824) :
  ∀ (q i : Nat),a.length - i < q → i ≤ a.length → ∃ y,zBy F a b q (i : Int) = some (if y then .go () else .ret false) ∧ (y = true ↔ a.drop i = b.drop i)
 | 0,_,h,_ => by omega
 | q + 1,i,hq,hi => by
  unfold zBy
  by_cases h : i < a.length
  ·have h' : i < b.length:=by omega
   rw [zBd (Int.ofNat_lt.2 h),cond_true,zBt h,zBt h']
   obtain ⟨y,f1,f2⟩:=hF _ (List.getElem_mem h) _ (List.getElem_mem h')
   have d1:=List.drop_eq_getElem_cons h;have d2:=List.drop_eq_getElem_cons h';rcases e : a[i] with ⟨x1,x2,x3,x4⟩
   rcases e' : b[i] with ⟨y1,y2,y3,y4⟩
   rw [e,e'] at f1 f2;rw [e] at d1;rw [e'] at d2;simp only [Option.bind_some,f1]
   cases y with
   | false =>
    refine ⟨false,rfl,⟨(fun h => by cases h),fun h => ?_⟩⟩
    rw [d1,d2] at h;exact f2.2 (List.cons.inj h).1
   | true =>
    simp only [Bool.not_true,cond_false]
    rw [zAS (by omega)]
    obtain ⟨z,g1,g2⟩:=zPU hF hl hb q (i + 1) (by omega) (by omega)
    refine ⟨z,g1,?_⟩
    rw [d1,d2,g2,f2.1 rfl]
    simp
  ·rw [zBc (by omega),cond_false]
   obtain rfl : i = a.length:=by omega
   refine ⟨true,rfl,?_⟩
   rw [List.drop_length,hl,List.drop_length]
   simp
theorem zQ0 : ∀ N : Nat,(∀ x y : Nd,2 * x.cnt < N → x.cnt ≤ 67108864 → ∃ r,zCj N x y = some r ∧ (r = true ↔ x = y)) ∧
  (∀ a b : List Nd,2 * Nd.cnts a + 1 < N → Nd.cnts a ≤ 67108864 → ∃ r,zCt N a b = some r ∧ (r = true ↔ a = b))
 | 0 => ⟨fun _ _ h _ => by omega,fun _ _ h _ => by omega⟩
 | n + 1 => by
  obtain ⟨ih1,ih2⟩:=zQ0 n;refine ⟨fun x y h hx => ?_,fun a b h ha => ?_⟩
  ·obtain ⟨a,b,c,d⟩:=x;obtain ⟨a',b',c',d'⟩:=y;simp only [Nd.cnt] at h hx;obtain ⟨r,h1,h2⟩:=ih2 d d' (by omega) (by omega)
   unfold zCj;simp only [h1,Option.bind_some]
   cases e1 : a == a' with
   | false => exact ⟨false,rfl,⟨(fun h => by cases h),fun h => by cases h; simp at e1⟩⟩
   | true =>
    cases e2 : b == b' with
    | false => exact ⟨false,rfl,⟨(fun h => by cases h),fun h => by cases h; simp at e2⟩⟩
    | true =>
     cases e3 : c == c' with
     | false => exact ⟨false,rfl,⟨(fun h => by cases h),fun h => by cases h; simp at e3⟩⟩
     | true =>
      refine ⟨r,rfl,h2.trans ⟨fun h => ?_,fun h => by cases h; rfl⟩⟩
      rw [eq_of_beq e1,eq_of_beq e2,eq_of_beq e3,h]
  ·unfold zCt;have l1:=Nd.cnts_len a
   by_cases hl : a.length = b.length
   ·obtain ⟨y,g1,g2⟩:=zPU (F:=zCj n) (a:=a) (b:=b) (fun u hu v _ => ih1 u v (by have:=Nd.cnts_mem hu; omega) (by have:=Nd.cnts_mem hu; omega)) hl (by omega) n 0 (by omega) (by omega)
    rw [show ((0 : Nat) : Int) = 0 from rfl] at g1;rw [hl,bne_self_eq_false,cond_false,g1]
    refine ⟨y,by cases y <;> rfl,g2⟩
   ·have : ((a.length : Int) != (b.length : Int)) = true:=by
     unfold bne;rw [zC2 (by omega)]; rfl
    rw [this]
    exact ⟨false,rfl,⟨(fun h => by cases h),fun h => absurd (congrArg List.length h) hl⟩⟩
theorem zGp {x : Nd} (h : zAL x = true) : x = .mk 1 [] 0 x.kids ∧ zBf 1 x.kids = true:=by
 unfold zAL at h;simp only [Bool.and_eq_true] at h;exact zGw h.2.1 (eq_of_beq h.1)
end Go.Proofs.YtjdhkpdjecegnaaGreatDoor
namespace Go.Proofs.YtjdhkpdjecegnaaGreatDoor
open Go.Abs
theorem zMX {F : Nd → Nd → Option Bool} {a b : List Nd} (hF : ∀ u ∈ a,∀ v ∈ b,∃ y,F u v = some y ∧ (y = true ↔ u = v)) (hl : a.length = b.length) (hb : a.length ≤ 1073741824) :
  ∀ (q i : Nat),a.length - i < q → i ≤ a.length → ∃ y,zAR F a b q (i : Int) = some (if y then .go () else .ret false) ∧ (y = true ↔ a.drop i = b.drop i)
 | 0,_,h,_ => by omega
 | q + 1,i,hq,hi => by
  unfold zAR
  by_cases h : i < a.length
  ·have h' : i < b.length:=by omega
   rw [zBd (Int.ofNat_lt.2 h),cond_true,zBt h,zBt h']
   obtain ⟨y,f1,f2⟩:=hF _ (List.getElem_mem h) _ (List.getElem_mem h')
   have d1:=List.drop_eq_getElem_cons h;have d2:=List.drop_eq_getElem_cons h';rcases e : a[i] with ⟨x1,x2,x3,x4⟩
   rcases e' : b[i] with ⟨y1,y2,y3,y4⟩
   rw [e,e'] at f1 f2;rw [e] at d1;rw [e'] at d2;simp only [Option.bind_some,f1]
   cases y with
   | false =>
    refine ⟨false,rfl,⟨(fun h => by cases h),fun h => ?_⟩⟩
    rw [d1,d2] at h;exact f2.2 (List.cons.inj h).1
   | true =>
    simp only [Bool.not_true,cond_false]
    rw [zAS (by omega)]
    obtain ⟨z,g1,g2⟩:=zMX hF hl hb q (i + 1) (by omega) (by omega)
    refine ⟨z,g1,?_⟩
    rw [d1,d2,g2,f2.1 rfl]
    simp
  ·rw [zBc (by omega),cond_false]
   obtain rfl : i = a.length:=by omega
   refine ⟨true,rfl,?_⟩
   rw [List.drop_length,hl,List.drop_length]
   simp
theorem zGD : ∀ N : Nat,(∀ x y : Nd,2 * x.cnt < N → x.cnt ≤ 67108864 → ∃ r,zBU N x y = some r ∧ (r = true ↔ x = y)) ∧
  (∀ a b : List Nd,2 * Nd.cnts a + 1 < N → Nd.cnts a ≤ 67108864 → ∃ r,zA4 N a b = some r ∧ (r = true ↔ a = b))
 | 0 => ⟨fun _ _ h _ => by omega,fun _ _ h _ => by omega⟩
 | n + 1 => by
  obtain ⟨ih1,ih2⟩:=zGD n;refine ⟨fun x y h hx => ?_,fun a b h ha => ?_⟩
  ·obtain ⟨a,b,c,d⟩:=x;obtain ⟨a',b',c',d'⟩:=y;simp only [Nd.cnt] at h hx;obtain ⟨r,h1,h2⟩:=ih2 d d' (by omega) (by omega)
   unfold zBU;simp only [h1,Option.bind_some]
   cases e1 : a == a' with
   | false => exact ⟨false,rfl,⟨(fun h => by cases h),fun h => by cases h; simp at e1⟩⟩
   | true =>
    cases e2 : b == b' with
    | false => exact ⟨false,rfl,⟨(fun h => by cases h),fun h => by cases h; simp at e2⟩⟩
    | true =>
     cases e3 : c == c' with
     | false => exact ⟨false,rfl,⟨(fun h => by cases h),fun h => by cases h; simp at e3⟩⟩
     | true =>
      refine ⟨r,rfl,h2.trans ⟨fun h => ?_,fun h => by cases h; rfl⟩⟩
      rw [eq_of_beq e1,eq_of_beq e2,eq_of_beq e3,h]
  ·unfold zA4;have l1:=Nd.cnts_len a
   by_cases hl : a.length = b.length
   ·obtain ⟨y,g1,g2⟩:=zMX (F:=zBU n) (a:=a) (b:=b) (fun u hu v _ => ih1 u v (by have:=Nd.cnts_mem hu; omega) (by have:=Nd.cnts_mem hu; omega)) hl (by omega) n 0 (by omega) (by omega)
    rw [show ((0 : Nat) : Int) = 0 from rfl] at g1;rw [hl,bne_self_eq_false,cond_false,g1]
    refine ⟨y,by cases y <;> rfl,g2⟩
   ·have : ((a.length : Int) != (b.length : Int)) = true:=by
     unfold bne;rw [zC2 (by omega)]; rfl
    rw [this]
    exact ⟨false,rfl,⟨(fun h => by cases h),fun h => absurd (congrArg List.length h) hl⟩⟩
theorem zUh (a b : Nat) : Nat.max a b = if a ≤ b then b else a:=rfl
theorem zNw : ∀ {ks : List Nd} {v : Nd},v ∈ ks → v.dep ≤ Nd.deps ks
 | u :: ks,v,h => by
  simp only [Nd.deps,zUh]
  rcases List.mem_cons.1 h with rfl | h
  ·split <;> omega
  ·have:=zNw h; split <;> omega
end Go.Proofs.YtjdhkpdjecegnaaGreatDoor
namespace Go.Proofs.YtjdhkpdjecegnaaGreatDoor
open Go.Abs
def rowS (t : Nd) (p : List Int) : Nd × Int:=if zAL t = true then (match zCe t p with | some r => (r,0) | none => (zDe,8)) else (zDe,1)
theorem zO2 : ∀ (N : Nat) (p : List Int) (t r : Nd),p.length < N → zCe t p = some r → r.w ≤ t.w ∧ r.cnt ≤ t.cnt
 | 0,p,_,_,h,_ => by omega
 | N + 1,[],t,r,_,h => by
  rw [zCe] at h;cases h;exact ⟨Nat.le_refl _,Nat.le_refl _⟩
 | N + 1,[_],t,r,_,h => by
  rw [zCe] at h;cases h
 | N + 1,i :: s :: p,.mk k tx c ks,r,hN,h => by
  rw [zCe] at h;split at h
  ·rename_i hi
   replace hi : 0 ≤ i ∧ i < ks.length:=hi;have hi0 : i.toNat < ks.length:=by omega
   have hx : ks[i.toNat]? = some ks[i.toNat]:=List.getElem?_eq_getElem hi0;generalize ks[i.toNat] = x at hx;obtain ⟨k2,tx2,c2,ks2⟩:=x;simp only [Nd.kids,List.getD_eq_getElem?_getD,hx,Option.getD_some] at h;split at h
   ·rename_i hs
    have hs0 : s.toNat < ks2.length:=by omega
    have hz : ks2[s.toNat]? = some ks2[s.toNat]:=List.getElem?_eq_getElem hs0;generalize ks2[s.toNat] = z at hz;rw [hz,Option.getD_some] at h;obtain ⟨q1,q2⟩:=zO2 N p z r (by simp only [List.length_cons] at hN; omega) h;have m1:=Nd.w_mem (List.mem_of_getElem? hx)
    have m2:=Nd.w_mem (List.mem_of_getElem? hz)
    have n1:=Nd.cnts_mem (List.mem_of_getElem? hx)
    have n2:=Nd.cnts_mem (List.mem_of_getElem? hz)
    simp only [Nd.w,Nd.cnt] at m1 m2 n1 n2 ⊢
    omega
   ·cases h
  ·cases h
theorem zJw {t : Nd} (h : t.cnt ≤ 1000000000) : zBL t = some t:=zC4 h
theorem zQA (n : Nat) (t : Nd) (p : List Int) (hv : zA8 n t = some (zAL t)) (hc : t.cnt ≤ 1000000000) : zGe n t p = some (rowS t p):=by
 unfold zGe rowS;rw [hv]
 simp only [Option.bind_some]
 split
 ·cases hf : zCe t p with
  | none => rfl
  | some r =>
   have:=(zO2 _ p t r (Nat.lt_succ_self _) hf).2;simp only [zJw (Nat.le_trans this hc),Option.bind_some]
 ·rfl
end Go.Proofs.YtjdhkpdjecegnaaGreatDoor
namespace Go.Proofs.YtjdhkpdjecegnaaGreatDoor
open Go.Abs
inductive Fd : Nd → List Int → Nd → Prop
 | nil (t : Nd) : Fd t [] t
 | step {k : Int} {tx : List UInt8} {c : Int} {ks : List Nd} {i : Nat} {k2 : Int} {tx2 : List UInt8} {c2 : Int} {ks2 : List Nd} {s : Nat} {z r : Nd} {p : List Int}
   (hi : ks[i]? = some (.mk k2 tx2 c2 ks2)) (hs : ks2[s]? = some z) (h : Fd z p r) : Fd (.mk k tx c ks) ((i : Int) :: (s : Int) :: p) r
theorem Fd.find {t r : Nd} {p : List Int} (h : Fd t p r) : zCe t p = some r:=by
 induction h with
 | nil t => rw [zCe]
 | @step k tx c ks i k2 tx2 c2 ks2 s z r p hi hs _ ih =>
  have hl:=(List.getElem?_eq_some_iff.1 hi).1;have hl2:=(List.getElem?_eq_some_iff.1 hs).1;rw [zCe,if_pos ⟨by omega,show (i : Int) < (ks.length : Int) by omega⟩]
  simp only [Nd.kids,List.getD_eq_getElem?_getD,Int.toNat_natCast,hi,hs,Option.getD_some]
  rw [if_pos ⟨by omega,show (s : Int) < (ks2.length : Int) by omega⟩]
  exact ih
theorem Fd.of : ∀ (N : Nat) (p : List Int) (t r : Nd),p.length < N → zCe t p = some r → Fd t p r
 | 0,p,_,_,h,_ => by omega
 | N + 1,[],t,r,_,h => by
  rw [zCe] at h;cases h;exact .nil t
 | N + 1,[_],t,r,_,h => by
  rw [zCe] at h;cases h
 | N + 1,i :: s :: p,.mk k tx c ks,r,hN,h => by
  rw [zCe] at h;split at h
  ·rename_i hi
   replace hi : 0 ≤ i ∧ i < ks.length:=hi;obtain ⟨i,rfl⟩:=Int.eq_ofNat_of_zero_le hi.1;have hx : ks[i]? = some ks[i]:=List.getElem?_eq_getElem (by omega)
   generalize ks[i] = x at hx;obtain ⟨k2,tx2,c2,ks2⟩:=x;simp only [Nd.kids,List.getD_eq_getElem?_getD,Int.toNat_natCast,hx,Option.getD_some] at h;split at h
   ·rename_i hs
    obtain ⟨s,rfl⟩:=Int.eq_ofNat_of_zero_le hs.1;have hz : ks2[s]? = some ks2[s]:=List.getElem?_eq_getElem (by omega)
    generalize ks2[s] = z at hz;rw [Int.toNat_natCast,hz,Option.getD_some] at h;exact .step hx hz (Fd.of N p z r (by simp only [List.length_cons] at hN; omega) h)
   ·cases h
  ·cases h
theorem zVP {p : List Int} {t r : Nd} (h : zCe t p = some r) : Fd t p r:=Fd.of _ p t r (Nat.lt_succ_self _) h
theorem zDd {t r : Nd} : putL t [] r = r:=by cases t; rw [putL]; intros; contradiction
theorem zB8 {k : Int} {tx : List UInt8} {c : Int} {ks : List Nd} {i : Nat} {k2 : Int} {tx2 : List UInt8} {c2 : Int} {ks2 : List Nd} {s : Nat} {z r : Nd} {p : List Int} (hi : ks[i]? = some (.mk k2 tx2 c2 ks2)) (hs : ks2[s]? = some z) :
  putL (.mk k tx c ks) ((i : Int) :: (s : Int) :: p) r = .mk k tx c (ks.set i (.mk k2 tx2 c2 (ks2.set s (putL z p r)))):=by
 rw [putL,Int.toNat_natCast,hi]
 dsimp only;rw [Int.toNat_natCast,hs]
theorem zL0 : ∀ {ks : List Nd} {i : Nat} {x y : Nd},ks[i]? = some x → Nd.ws (ks.set i y) + x.w = Nd.ws ks + y.w
 | [],i,x,y,h => by simp at h
 | v :: ks,0,x,y,h => by
  obtain rfl : v = x:=by simpa using h
  simp only [List.set_cons_zero,Nd.ws]; omega
 | v :: ks,i + 1,x,y,h => by
  have:=zL0 (ks:=ks) (i:=i) (x:=x) (y:=y) (by simpa using h)
  simp only [List.set_cons_succ,Nd.ws]; omega
theorem zLf : ∀ {ks : List Nd} {i : Nat} {x y : Nd},ks[i]? = some x → Nd.cnts (ks.set i y) + x.cnt = Nd.cnts ks + y.cnt
 | [],i,x,y,h => by simp at h
 | v :: ks,0,x,y,h => by
  obtain rfl : v = x:=by simpa using h
  simp only [List.set_cons_zero,Nd.cnts]; omega
 | v :: ks,i + 1,x,y,h => by
  have:=zLf (ks:=ks) (i:=i) (x:=x) (y:=y) (by simpa using h)
  simp only [List.set_cons_succ,Nd.cnts]; omega
theorem Fd.w {t z : Nd} {p : List Int} (h : Fd t p z) (r : Nd) : (putL t p r).w + z.w = t.w + r.w:=by
 induction h with
 | nil t => rw [zDd]; omega
 | @step k tx c ks i k2 tx2 c2 ks2 s z r' p hi hs _ ih =>
  rw [zB8 hi hs]
  have h1:=zL0 (y:=.mk k2 tx2 c2 (ks2.set s (putL z p r))) hi;have h2:=zL0 (y:=putL z p r) hs;simp only [Nd.w] at *
  omega
theorem Fd.cnt {t z : Nd} {p : List Int} (h : Fd t p z) (r : Nd) : (putL t p r).cnt + z.cnt = t.cnt + r.cnt:=by
 induction h with
 | nil t => rw [zDd]; omega
 | @step k tx c ks i k2 tx2 c2 ks2 s z r' p hi hs _ ih =>
  rw [zB8 hi hs]
  have h1:=zLf (y:=.mk k2 tx2 c2 (ks2.set s (putL z p r))) hi;have h2:=zLf (y:=putL z p r) hs;simp only [Nd.cnt] at *
  omega
theorem zRw {α : Type} {l : List α} {i : Nat} {x y : α} (h : l[i]? = some x) : (l.set i y)[i]? = some y:=by
 rw [List.getElem?_set,if_pos rfl,if_pos (List.getElem?_eq_some_iff.1 h).1]
theorem zKG {α : Type} {l : List α} {i : Nat} {x y : α} (h : l[i]? = some x) : (l.set i y).set i x = l:=by
 refine List.ext_getElem? fun j => ?_
 rw [List.set_set,List.getElem?_set]
 split
 ·rename_i e
  subst e;rw [if_pos (List.getElem?_eq_some_iff.1 h).1,h]
 ·rfl
theorem Fd.put {t z : Nd} {p : List Int} (h : Fd t p z) (r : Nd) : Fd (putL t p r) p r:=by
 induction h with
 | nil t => rw [zDd]; exact .nil r
 | @step k tx c ks i k2 tx2 c2 ks2 s z r' p hi hs _ ih =>
  rw [zB8 hi hs]
  exact .step (zRw hi) (zRw hs) ih
theorem Fd.put_put {t z : Nd} {p : List Int} (h : Fd t p z) (r q : Nd) : putL (putL t p r) p q = putL t p q:=by
 induction h with
 | nil t => simp only [zDd]
 | @step k tx c ks i k2 tx2 c2 ks2 s z r' p hi hs _ ih =>
  rw [zB8 hi hs,zB8 hi hs,zB8 (zRw hi) (zRw hs),ih]
  simp only [List.set_set]
theorem Fd.put_self {t z : Nd} {p : List Int} (h : Fd t p z) : putL t p z = t:=by
 induction h with
 | nil t => rw [zDd]
 | @step k tx c ks i k2 tx2 c2 ks2 s z r' p hi hs _ ih =>
  rw [zB8 hi hs,ih]
  have e1 : ks2.set s z = ks2:=by
   have:=zKG (y:=z) hs
   rwa [List.set_set] at this
  have e2 : ks.set i (.mk k2 tx2 c2 ks2) = ks:=by
   have:=zKG (y:=.mk k2 tx2 c2 ks2) hi
   rwa [List.set_set] at this
  rw [e1,e2]
theorem zD3 : ∀ {ks : List Nd} {v : Nd},v ∈ ks → v.dep ≤ Nd.deps ks
 | u :: ks,v,h => by
  simp only [Nd.deps]
  rcases List.mem_cons.1 h with rfl | h
  ·exact Nat.le_max_left _ _
  ·exact Nat.le_trans (zD3 h) (Nat.le_max_right _ _)
theorem zFn {k : Int} {tx : List UInt8} {c : Int} {ks : List Nd} (h : zCa (.mk k tx c ks) = true) : zBf k ks = true:=by
 simp only [zCa,Bool.and_eq_true] at h;exact h.2
theorem Fd.form {t z : Nd} {p : List Int} (h : Fd t p z) (hf : zCa t = true) (hk : t.kind = 1) : zCa z = true ∧ z.kind = 1:=by
 induction h with
 | nil t => exact ⟨hf,hk⟩
 | @step k tx c ks i k2 tx2 c2 ks2 s z r' p hi hs _ ih =>
  obtain ⟨f1,f2⟩:=zCN (zFn hf) (List.mem_of_getElem? hi)
  obtain ⟨g1,g2⟩:=zCN (zFn f1) (List.mem_of_getElem? hs)
  have hk : k = 1:=hk;subst hk;have f3 : (k2 == 1) = false:=by simpa [Nd.kind] using f2
  rw [f3] at g2;refine ih g1 ?_;cases e : z.kind == 1 with
  | true => exact eq_of_beq e
  | false => rw [e] at g2; cases g2
theorem Fd.small {t z : Nd} {p : List Int} (h : Fd t p z) : z.cnt ≤ t.cnt ∧ z.dep ≤ t.dep ∧ z.w ≤ t.w:=by
 induction h with
 | nil t => exact ⟨Nat.le_refl _,Nat.le_refl _,Nat.le_refl _⟩
 | @step k tx c ks i k2 tx2 c2 ks2 s z r' p hi hs _ ih =>
  have m1:=Nd.w_mem (List.mem_of_getElem? hi)
  have m2:=Nd.w_mem (List.mem_of_getElem? hs)
  have n1:=Nd.cnts_mem (List.mem_of_getElem? hi)
  have n2:=Nd.cnts_mem (List.mem_of_getElem? hs)
  have d1:=zD3 (List.mem_of_getElem? hi)
  have d2:=zD3 (List.mem_of_getElem? hs)
  simp only [Nd.w,Nd.cnt,Nd.dep] at *
  omega
theorem Fd.valid {t z : Nd} {p : List Int} (h : Fd t p z) (hv : zAL t = true) : zAL z = true:=by
 unfold zAL at hv ⊢;simp only [Bool.and_eq_true,decide_eq_true_eq] at hv ⊢;obtain ⟨h1,h2,h3,h4⟩:=hv;obtain ⟨f1,f2⟩:=h.form h2 (eq_of_beq h1)
 obtain ⟨s1,s2,_⟩:=h.small;exact ⟨by rw [f2]; rfl,f1,by omega,by omega⟩
end Go.Proofs.YtjdhkpdjecegnaaGreatDoor
namespace Go.Proofs.YtjdhkpdjecegnaaGreatDoor
open Go.Abs
theorem zSt {α : Type} {l : List α} {i : Nat} {x : α} (h : l[i]? = some x) : at? l (i : Int) = some x:=by
 have hl:=(List.getElem?_eq_some_iff.1 h).1;rw [zBt hl,← List.getElem?_eq_getElem hl,h]
def zQZ (t : Nd) (p : List Int) (r : Nd) : Nd × Int:=if zAL t = true then (match zCe t p with
 | some _ => if zAL r = true then (if zAL (putL t p r) = true then (putL t p r,0) else (zDe,6)) else (zDe,4)
 | none => (zDe,8)) else (zDe,1)
theorem zPq (n : Nat) (t : Nd) (p : List Int) (r : Nd) (hv : zA8 n t = some (zAL t)) (hr : zA8 n r = some (zAL r)) (hp : ∀ z,Fd t p z → zA8 n (putL t p r) = some (zAL (putL t p r))) (hc : t.cnt ≤ 1000000000) (hcr : r.cnt ≤ 1000000000) :
  zEo n t p r = some (zQZ t p r):=by
 unfold zEo zQZ;rw [hv,zJw hc,hr,zJw hcr]
 simp only [Option.bind_some]
 split
 ·cases hf : zCe t p with
  | none => rfl
  | some z =>
   dsimp only;rw [hp z (zVP hf)]
   simp only [Option.bind_some]
   split
   ·split <;> rfl
   ·rfl
 ·rfl
theorem zUK {t z r : Nd} {p : List Int} (hv : zAL t = true) (h : zCe t p = some z) (hr : zAL r = true) (hp : zAL (putL t p r) = true) : zQZ t p r = (putL t p r,0):=by unfold zQZ; rw [if_pos hv,h]; dsimp only; rw [if_pos hr,if_pos hp]
end Go.Proofs.YtjdhkpdjecegnaaGreatDoor
namespace Go.Proofs.YtjdhkpdjecegnaaGreatDoor
open Go.Abs
abbrev Op8:=Int × List Int × Int × Int × List Nd × Int × List UInt8 × List UInt8
def Op8.nodes (o : Op8) : List Nd:=o.2.2.2.2.1
end Go.Proofs.YtjdhkpdjecegnaaGreatDoor
namespace Go.Proofs.YtjdhkpdjecegnaaGreatDoor
open Go.Abs
theorem take3 {α : Type} (l : List α) {p q : Nat} (h : p ≤ q) : (l.take p ++ (l.take q).drop p) ++ l.drop q = l:=by
 have : l.take p = (l.take q).take p:=by rw [List.take_take,Nat.min_eq_left h]
 rw [this,List.take_append_drop,List.take_append_drop]
theorem zP6 (l by' : List Nd) {p q : Nat} (h : p ≤ q) : Nd.ws ((l.take p ++ by') ++ l.drop q) + Nd.ws ((l.take q).drop p) = Nd.ws l + Nd.ws by':=by
 have:=congrArg Nd.ws (take3 l h)
 rw [Nd.ws_append,Nd.ws_append] at this ⊢
 omega
theorem zVL {α : Type} {l : List α} {i : Int} (h0 : 0 ≤ i) (h1 : i < (l.length : Int)) : ∃ p : Nat,i = (p : Int) ∧ ∃ h : p < l.length,at? l i = some l[p]:=by
 obtain ⟨p,rfl⟩:=Int.eq_ofNat_of_zero_le h0;exact ⟨p,rfl,by omega,zBt (by omega)⟩
theorem zH4 (t : Nd) : t.w = t.text.length + Nd.ws t.kids + 1:=by cases t; rfl
end Go.Proofs.YtjdhkpdjecegnaaGreatDoor
namespace Go.Proofs.YtjdhkpdjecegnaaGreatDoor
open Go.Abs
theorem zV1 (l : List Nd) {p q : Nat} (h : p ≤ q) : Nd.ws ((l.take q).drop p) ≤ Nd.ws l:=by
 have:=zP6 l [] h;simp only [Nd.ws] at this; omega
theorem zTD (l : List Nd) {p : Nat} (h : p < l.length) : (l.take (p + 1)).drop p = [l[p]]:=by
 rw [List.take_succ_eq_append_getElem h,List.drop_append_of_le_length (by simp; omega),List.drop_take]
 simp
end Go.Proofs.YtjdhkpdjecegnaaGreatDoor
namespace Go.Proofs.YtjdhkpdjecegnaaGreatDoor
open Go.Abs
def splS (l : List Nd) (p q : Nat) (b : List Nd) : List Nd:=(l.take p ++ b) ++ l.drop q
def segS (l : List Nd) (p q : Nat) : List Nd:=(l.take q).drop p
def rowN (l : List Nd) : Nd:=.mk 1 [] 0 l
def zLl (v : Nd) (s : Nat) (l : List Nd) : Nd:=.mk v.kind v.text v.cols (v.kids.set s (rowN l))
def zQw (k : Int) : Bool:=(k == 2) || ((k == 3) || ((k == 4) || ((k == 10) || (k == 11))))
def zEc (k m : Int) (nodes : List Nd) : Int:=if k = 1 then 0 else if k = 2 then nodes.length else if k = 3 then m else 1
def zUQ (nodes : List Nd) (slot : Int) : Prop:=∃ (v : Nd) (s : Nat) (z : Nd),nodes = [v] ∧ slot = (s : Int) ∧ zAL (rowN [v]) = true ∧ v.kids[s]? = some z ∧ z.kids = []
def zL3 : Op8 → Prop
 | (k,_,_,m,nodes,slot,old,text) =>
  ((k = 1 ∨ k = 2) ∧ nodes ≠ [] ∧ zAL (rowN nodes) = true ∧ m = 0 ∧ slot = 0 ∧ old = [] ∧ text = []) ∨
  ((k = 3 ∨ k = 4) ∧ 0 ≤ m ∧ zUQ nodes slot ∧ old = [] ∧ text = []) ∨
  (k = 5 ∧ old ≠ text ∧ nodes = [] ∧ m = 0 ∧ slot = 0)
inductive Chg (l : List Nd) : Op8 → List Nd → Int → Prop
 | range {k : Int} {row : List Int} {a m : Int} {nodes : List Nd} {slot : Int} {old text : List UInt8} (h : a < 0 ∨ (l.length : Int) < a ∨ (l.length : Int) - a < zEc k m nodes) : Chg l (k,row,a,m,nodes,slot,old,text) [] 2
 | ins {row : List Int} {p : Nat} {m : Int} {nodes : List Nd} {slot : Int} {old text : List UInt8} (h : p ≤ l.length) : Chg l (1,row,(p : Int),m,nodes,slot,old,text) (splS l p p nodes) 0
 | del {row : List Int} {p : Nat} {m : Int} {nodes : List Nd} {slot : Int} {old text : List UInt8} (h : p + nodes.length ≤ l.length) (he : segS l p (p + nodes.length) = nodes) : Chg l (2,row,(p : Int),m,nodes,slot,old,text) (splS l p (p + nodes.length) []) 0
 | del_no {row : List Int} {p : Nat} {m : Int} {nodes : List Nd} {slot : Int} {old text : List UInt8} (h : p + nodes.length ≤ l.length) (he : segS l p (p + nodes.length) ≠ nodes) : Chg l (2,row,(p : Int),m,nodes,slot,old,text) [] 7
 | wrap {row : List Int} {p m : Nat} {v : Nd} {s : Nat} {old text : List UInt8} (h : p + m ≤ l.length) : Chg l (3,row,(p : Int),(m : Int),[v],(s : Int),old,text) (splS l p (p + m) [zLl v s (segS l p (p + m))]) 0
 | unwrap {row : List Int} {p : Nat} {m : Int} {v it z : Nd} {s : Nat} {old text : List UInt8} (h : l[p]? = some it) (hz : it.kids[s]? = some z) (hm : (z.kids.length : Int) = m) (he : it = zLl v s z.kids) : Chg l (4,row,(p : Int),m,[v],(s : Int),old,text) (splS l p (p + 1) z.kids) 0
 | unwrap_no {row : List Int} {p : Nat} {m : Int} {v it : Nd} {s : Nat} {old text : List UInt8} (h : l[p]? = some it) (hz : ∀ z,it.kids[s]? = some z → (z.kids.length : Int) = m → it ≠ zLl v s z.kids) : Chg l (4,row,(p : Int),m,[v],(s : Int),old,text) [] 7
 | set {row : List Int} {p : Nat} {m : Int} {nodes : List Nd} {it : Nd} {slot : Int} {old text : List UInt8} (h : l[p]? = some it) (hl : zQw it.kind = true) (he : it.text = old) : Chg l (5,row,(p : Int),m,nodes,slot,old,text) (splS l p (p + 1) [.mk it.kind text it.cols it.kids]) 0
 | set_no {row : List Int} {p : Nat} {m : Int} {nodes : List Nd} {it : Nd} {slot : Int} {old text : List UInt8} (h : l[p]? = some it) (hl : ¬ (zQw it.kind = true ∧ it.text = old)) : Chg l (5,row,(p : Int),m,nodes,slot,old,text) [] 7
inductive App (t : Nd) : Op8 → Nd → Int → Prop
 | arg {o : Op8} (h : zAL t = false) : App t o zDe 1
 | form {o : Op8} (h : zAL t = true) (hf : ¬ zL3 o) : App t o zDe 4
 | none {o : Op8} (h : zAL t = true) (hf : zL3 o) (hn : zCe t o.2.1 = Option.none) : App t o zDe 8
 | chg {o : Op8} {r : Nd} {l : List Nd} {e : Int} (h : zAL t = true) (hf : zL3 o) (hr : Fd t o.2.1 r) (hc : Chg r.kids o l e) (he : e ≠ 0) : App t o zDe e
 | limit {o : Op8} {r : Nd} {l : List Nd} (h : zAL t = true) (hf : zL3 o) (hr : Fd t o.2.1 r) (hc : Chg r.kids o l 0) (hv : zAL (putL t o.2.1 (rowN l)) = false) : App t o zDe 6
 | ok {o : Op8} {r : Nd} {l : List Nd} (h : zAL t = true) (hf : zL3 o) (hr : Fd t o.2.1 r) (hc : Chg r.kids o l 0) (hv : zAL (putL t o.2.1 (rowN l)) = true) : App t o (putL t o.2.1 (rowN l)) 0
theorem Chg.w {l l' : List Nd} {k : Int} {row : List Int} {a m : Int} {nodes : List Nd} {slot : Int} {old text : List UInt8} {e : Int} (h : Chg l (k,row,a,m,nodes,slot,old,text) l' e) : Nd.ws l' ≤ Nd.ws l + Nd.ws nodes + text.length + 3 ∧ l'.length ≤ l.length + Nd.ws nodes + Nd.ws l + 1:=by
 have key : ∀ p q b,p ≤ q → Nd.ws (splS l p q b) + Nd.ws (segS l p q) = Nd.ws l + Nd.ws b:=fun p q b h => zP6 l b h
 have hlen : ∀ l' : List Nd,l'.length ≤ Nd.ws l':=Nd.ws_len
 have h1 : Nd.ws l' ≤ Nd.ws l + Nd.ws nodes + text.length + 3:=by
  cases h with
  | range => simp only [Nd.ws]; omega
  | @ins _ p _ _ _ _ _ h => have:=key p p nodes (Nat.le_refl _); omega
  | @del _ p _ _ _ _ _ h he => have:=key p (p + nodes.length) [] (Nat.le_add_right _ _); simp only [Nd.ws] at this; omega
  | del_no => simp only [Nd.ws]; omega
  | @wrap _ p m v s _ _ h =>
   have:=key p (p + m) [zLl v s (segS l p (p + m))] (Nat.le_add_right _ _)
   have hf : (zLl v s (segS l p (p + m))).w ≤ v.w + Nd.ws (segS l p (p + m)) + 1:=by
    rw [zH4 v]
    simp only [zLl,rowN,Nd.w]
    by_cases hs : s < v.kids.length
    ·have:=zL0 (ks:=v.kids) (i:=s) (y:=.mk 1 [] 0 (segS l p (p + m))) (List.getElem?_eq_getElem hs)
     simp only [Nd.w,List.length_nil] at this
     omega
    ·rw [List.set_eq_of_length_le (by omega)]; omega
   simp only [Nd.ws] at this ⊢
   omega
  | @unwrap _ p _ v it z s _ _ h hz hm he =>
   have:=key p (p + 1) z.kids (Nat.le_add_right _ _)
   have hsg : segS l p (p + 1) = [it]:=by
    have:=zTD l (List.getElem?_eq_some_iff.1 h).1;rw [segS,this,(List.getElem?_eq_some_iff.1 h).2]
   have w1:=Nd.w_mem (List.mem_of_getElem? hz)
   have w2:=zH4 z;have w3:=zH4 it;rw [hsg] at this;simp only [Nd.ws] at this
   omega
  | unwrap_no => simp only [Nd.ws]; omega
  | @set _ p _ _ it _ _ _ h hl he =>
   have:=key p (p + 1) [.mk it.kind text it.cols it.kids] (Nat.le_add_right _ _)
   have hsg : segS l p (p + 1) = [it]:=by
    have:=zTD l (List.getElem?_eq_some_iff.1 h).1;rw [segS,this,(List.getElem?_eq_some_iff.1 h).2]
   have w3:=zH4 it;rw [hsg] at this;simp only [Nd.ws,Nd.w] at this
   omega
  | set_no => simp only [Nd.ws]; omega
 refine ⟨h1,?_⟩
 cases h with
 | range => simp
 | @ins _ p _ _ _ _ _ h => have:=hlen nodes; simp only [splS,List.length_append,List.length_take,List.length_drop]; omega
 | @del _ p _ _ _ _ _ h he => simp only [splS,List.length_append,List.length_take,List.length_drop,List.length_nil]; omega
 | del_no => simp
 | @wrap _ p m v s _ _ h => simp only [splS,List.length_append,List.length_take,List.length_drop,List.length_cons,List.length_nil]; omega
 | @unwrap _ p _ v it z s _ _ h hz hm he =>
  have w1:=Nd.w_mem (List.mem_of_getElem? hz)
  have w4:=Nd.w_mem (List.mem_of_getElem? h)
  have w2:=zH4 z;have w3:=zH4 it;have:=hlen z.kids;simp only [splS,List.length_append,List.length_take,List.length_drop]; omega
 | unwrap_no => simp
 | @set _ p _ _ it _ _ _ h hl he => simp only [splS,List.length_append,List.length_take,List.length_drop,List.length_cons,List.length_nil]; omega
 | set_no => simp
theorem zUa (k : Int) : (bif (k == 2) then some (k == 2) else bif (k == 3) then some (k == 3) else bif (k == 4) then some (k == 4) else bif (k == 10) then some (k == 10) else some (k == 11) : Option Bool) = some (zQw k):=by
 unfold zQw;cases e1 : k == 2 <;> cases e2 : k == 3 <;> cases e3 : k == 4 <;> cases e4 : k == 10 <;> rfl
theorem zUf (k m : Int) (nodes : List Nd) : (bif (k == 1) then some 0 else bif (k == 2) then some (nodes.length : Int) else bif (k == 3) then some m else some 1 : Option Int) = some (zEc k m nodes):=by
 unfold zEc
 by_cases k1 : k = 1
 ·subst k1; rfl
 by_cases k2 : k = 2
 ·subst k2; rfl
 by_cases k3 : k = 3
 ·subst k3; rfl
 rw [zC2 k1,zC2 k2,zC2 k3,if_neg k1,if_neg k2,if_neg k3]; rfl
theorem zS7 {k : Int} {row : List Int} {a m : Int} {nodes : List Nd} {slot : Int} {old text : List UInt8} (hf : zL3 (k,row,a,m,nodes,slot,old,text)) : 0 ≤ zEc k m nodes:=by
 unfold zEc;rcases hf with ⟨rfl | rfl,_⟩ | ⟨rfl | rfl,hm,_⟩ | ⟨rfl,_⟩ <;> simp <;> omega
end Go.Proofs.YtjdhkpdjecegnaaGreatDoor
namespace Go.Proofs.YtjdhkpdjecegnaaGreatDoor
open Go.Abs
theorem Chg.det {l l1 l2 : List Nd} {o : Op8} {e1 e2 : Int} (hf : zL3 o) (h1 : Chg l o l1 e1) (h2 : Chg l o l2 e2) : l1 = l2 ∧ e1 = e2:=by
 obtain ⟨k,row,a,m,nodes,slot,old,text⟩:=o;have hnn:=zS7 hf;cases h1 with
 | range h =>
  cases h2 with
  | range => exact ⟨rfl,rfl⟩
  | ins h' => simp only [zEc,if_true] at h; omega
  | del h' => simp only [zEc] at h; simp at h; omega
  | del_no h' => simp only [zEc] at h; simp at h; omega
  | wrap h' => simp only [zEc] at h; simp at h; omega
  | unwrap h' => have:=(List.getElem?_eq_some_iff.1 h').1; simp only [zEc] at h; simp at h; omega
  | unwrap_no h' => exact ⟨rfl,by have:=(List.getElem?_eq_some_iff.1 h').1; simp only [zEc] at h; simp at h; omega⟩
  | set h' => have:=(List.getElem?_eq_some_iff.1 h').1; simp only [zEc] at h; simp at h; omega
  | set_no h' => exact ⟨rfl,by have:=(List.getElem?_eq_some_iff.1 h').1; simp only [zEc] at h; simp at h; omega⟩
 | ins h' =>
  generalize ha : ((_ : Nat) : Int) = a' at h2;cases h2 with
  | range h => simp only [zEc,if_true] at h; omega
  | ins h => obtain rfl:=Int.ofNat.inj ha; exact ⟨rfl,rfl⟩
 | del h' he =>
  generalize ha : ((_ : Nat) : Int) = a' at h2;cases h2 with
  | range h => simp only [zEc] at h; simp at h; omega
  | del h => obtain rfl:=Int.ofNat.inj ha; exact ⟨rfl,rfl⟩
  | del_no h he' => obtain rfl:=Int.ofNat.inj ha; exact absurd he he'
 | del_no h' he =>
  generalize ha : ((_ : Nat) : Int) = a' at h2;cases h2 with
  | range h => simp only [zEc] at h; simp at h; omega
  | del h he' => obtain rfl:=Int.ofNat.inj ha; exact absurd he' he
  | del_no h he' => exact ⟨rfl,rfl⟩
 | wrap h' =>
  generalize ha : ((_ : Nat) : Int) = a' at h2;generalize hm : ((_ : Nat) : Int) = m' at h2;generalize hs : ((_ : Nat) : Int) = s' at h2;cases h2 with
  | range h => simp only [zEc] at h; simp at h; omega
  | wrap h => obtain rfl:=Int.ofNat.inj ha; obtain rfl:=Int.ofNat.inj hm; obtain rfl:=Int.ofNat.inj hs; exact ⟨rfl,rfl⟩
 | unwrap h' hz hm he =>
  generalize ha : ((_ : Nat) : Int) = a' at h2;generalize hs : ((_ : Nat) : Int) = s' at h2;cases h2 with
  | range h => have:=(List.getElem?_eq_some_iff.1 h').1; simp only [zEc] at h; simp at h; omega
  | unwrap h hz2 =>
   obtain rfl:=Int.ofNat.inj ha; obtain rfl:=Int.ofNat.inj hs
   rw [h'] at h; cases h
   rw [hz] at hz2; cases hz2
   exact ⟨rfl,rfl⟩
  | unwrap_no h hz2 =>
   obtain rfl:=Int.ofNat.inj ha; obtain rfl:=Int.ofNat.inj hs
   rw [h'] at h; cases h
   exact absurd he (hz2 _ hz hm)
 | unwrap_no h' hz =>
  generalize ha : ((_ : Nat) : Int) = a' at h2;generalize hs : ((_ : Nat) : Int) = s' at h2;cases h2 with
  | range h => exact ⟨rfl,by have:=(List.getElem?_eq_some_iff.1 h').1; simp only [zEc] at h; simp at h; omega⟩
  | unwrap h hz2 hm he =>
   obtain rfl:=Int.ofNat.inj ha; obtain rfl:=Int.ofNat.inj hs
   rw [h'] at h; cases h
   exact absurd he (hz _ hz2 hm)
  | unwrap_no h hz2 => exact ⟨rfl,rfl⟩
 | set h' hl he =>
  generalize ha : ((_ : Nat) : Int) = a' at h2;cases h2 with
  | range h => have:=(List.getElem?_eq_some_iff.1 h').1; simp only [zEc] at h; simp at h; omega
  | set h => obtain rfl:=Int.ofNat.inj ha; rw [h'] at h; cases h; exact ⟨rfl,rfl⟩
  | set_no h hl2 => obtain rfl:=Int.ofNat.inj ha; rw [h'] at h; cases h; exact absurd ⟨hl,he⟩ hl2
 | set_no h' hl =>
  generalize ha : ((_ : Nat) : Int) = a' at h2;cases h2 with
  | range h => exact ⟨rfl,by have:=(List.getElem?_eq_some_iff.1 h').1; simp only [zEc] at h; simp at h; omega⟩
  | set h hl2 he => obtain rfl:=Int.ofNat.inj ha; rw [h'] at h; cases h; exact absurd ⟨hl2,he⟩ hl
  | set_no h hl2 => exact ⟨rfl,rfl⟩
theorem Fd.det {t r1 r2 : Nd} {p : List Int} (h1 : Fd t p r1) (h2 : Fd t p r2) : r1 = r2:=Option.some.inj (h1.find.symm.trans h2.find)
theorem App.det {t t1 t2 : Nd} {o : Op8} {e1 e2 : Int} (h1 : App t o t1 e1) (h2 : App t o t2 e2) : t1 = t2 ∧ e1 = e2:=by
 have tf : ∀ {b : Bool},b = true → b = false → False:=fun h h' => by rw [h] at h'; cases h'
 have fn : ∀ {r : Nd} {p : List Int},Fd t p r → zCe t p = Option.none → False:=fun h h' => by rw [h.find] at h'; cases h'
 cases h1 with
 | arg h => cases h2 with
  | arg h' => exact ⟨rfl,rfl⟩
  | form h' => exact (tf h' h).elim
  | none h' => exact (tf h' h).elim
  | chg h' => exact (tf h' h).elim
  | limit h' => exact (tf h' h).elim
  | ok h' => exact (tf h' h).elim
 | form h hf => cases h2 with
  | arg h' => exact (tf h h').elim
  | form h' => exact ⟨rfl,rfl⟩
  | none h' hf' => exact absurd hf' hf
  | chg h' hf' => exact absurd hf' hf
  | limit h' hf' => exact absurd hf' hf
  | ok h' hf' => exact absurd hf' hf
 | none h hf hn => cases h2 with
  | arg h' => exact (tf h h').elim
  | form h' hf' => exact absurd hf hf'
  | none => exact ⟨rfl,rfl⟩
  | chg h' hf' hr => exact (fn hr hn).elim
  | limit h' hf' hr => exact (fn hr hn).elim
  | ok h' hf' hr => exact (fn hr hn).elim
 | chg h hf hr hc he => cases h2 with
  | arg h' => exact (tf h h').elim
  | form h' hf' => exact absurd hf hf'
  | none h' hf' hn => exact (fn hr hn).elim
  | chg h' hf' hr' hc' he' => obtain rfl:=hr.det hr'; exact ⟨rfl,(hc.det hf hc').2⟩
  | limit h' hf' hr' hc' => obtain rfl:=hr.det hr'; exact absurd (hc.det hf hc').2 he
  | ok h' hf' hr' hc' => obtain rfl:=hr.det hr'; exact absurd (hc.det hf hc').2 he
 | limit h hf hr hc hv => cases h2 with
  | arg h' => exact (tf h h').elim
  | form h' hf' => exact absurd hf hf'
  | none h' hf' hn => exact (fn hr hn).elim
  | chg h' hf' hr' hc' he' => obtain rfl:=hr.det hr'; exact absurd (hc'.det hf hc).2 he'
  | limit h' hf' hr' hc' => exact ⟨rfl,rfl⟩
  | ok h' hf' hr' hc' hv' => obtain rfl:=hr.det hr'; obtain rfl:=(hc.det hf hc').1; exact (tf hv' hv).elim
 | ok h hf hr hc hv => cases h2 with
  | arg h' => exact (tf h h').elim
  | form h' hf' => exact absurd hf hf'
  | none h' hf' hn => exact (fn hr hn).elim
  | chg h' hf' hr' hc' he' => obtain rfl:=hr.det hr'; exact absurd (hc'.det hf hc).2 he'
  | limit h' hf' hr' hc' hv' => obtain rfl:=hr.det hr'; obtain rfl:=(hc.det hf hc').1; exact (tf hv hv').elim
  | ok h' hf' hr' hc' hv' => obtain rfl:=hr.det hr'; obtain rfl:=(hc.det hf hc').1; exact ⟨rfl,rfl⟩
def lens : List (List Nd) → Nat
 | [] => 0
 | a :: L => a.length + lens L
theorem zPk {L : List (List Nd)} {i : Nat} (h : i < L.length) : lens (L.drop i) = (L[i]).length + lens (L.drop (i + 1)):=by
 rw [List.drop_eq_getElem_cons h]; rfl
theorem zSC {L : List (List Nd)} (hl : L.length ≤ 1073741824) : ∀ (k i s : Nat),L.length - i < k → i ≤ L.length → s + lens (L.drop i) ≤ 1073741824 → zA2 L k (i : Int) (s : Int) = some ((s + lens (L.drop i) : Nat) : Int)
 | 0,i,s,h,_,_ => by omega
 | k + 1,i,s,hk,hi,hs => by
  unfold zA2
  by_cases h : i < L.length
  ·have hd:=zPk h;rw [zBd (Int.ofNat_lt.2 h),cond_true,zBt h]
   simp only [Option.bind_some]
   rw [wrap64_in (n:=(s : Int) + ((L[i]).length : Int)) (by omega) (by omega),zBc (by omega),cond_false,zAS (by omega),← Int.natCast_add,zSC hl k (i + 1) _ (by omega) (by omega) (by omega),hd]
   congr 2; omega
  ·rw [zBc (by omega),cond_false]
   have : L.drop i = []:=List.drop_eq_nil_iff.2 (by omega)
   rw [this]; rfl
theorem zSD {L : List (List Nd)} (hl : L.length ≤ 1073741824) : ∀ (k i : Nat) (s : List Nd),L.length - i < k → i ≤ L.length → s.length + lens (L.drop i) ≤ 1073741824 → zA3 L k (i : Int) s = some (s ++ (L.drop i).flatten)
 | 0,i,s,h,_,_ => by omega
 | k + 1,i,s,hk,hi,hs => by
  unfold zA3
  by_cases h : i < L.length
  ·have hd:=zPk h;rw [zBd (Int.ofNat_lt.2 h),cond_true,zBt h]
   simp only [Option.bind_some]
   rw [zC4 (by omega),zAS (by omega),zSD hl k (i + 1) _ (by omega) (by omega) (by rw [List.length_append]; omega),List.drop_eq_getElem_cons h,List.flatten_cons,List.append_assoc]
  ·rw [zBc (by omega),cond_false]
   have : L.drop i = []:=List.drop_eq_nil_iff.2 (by omega)
   rw [this]; simp
theorem zSG (n : Nat) (L : List (List Nd)) (hn : L.length < n) (hl : L.length ≤ 1073741824) (hs : lens L ≤ 1073741824) : zBG n L = some L.flatten:=by
 have e1:=zSC hl n 0 0 (by omega) (by omega) (by simpa using hs)
 have e2:=zSD hl n 0 [] (by omega) (by omega) (by simpa using hs)
 rw [show ((0 : Nat) : Int) = 0 from rfl] at e1 e2;unfold zBG zDJ;simp only [e1,Option.bind_some,List.drop_zero,Nat.zero_add]
 simp only [List.drop_zero,List.nil_append] at e2;rw [zC4 ⟨by omega,by omega⟩]
 simp only [Option.bind_some,e2]
theorem zVk (n : Nat) (k : Int) (row : List Int) (p y : Nat) (m : Int) (nodes : List Nd) (slot : Int) (old text : List UInt8) (l b : List Nd) (hn : 10 < n) (hp : p + y ≤ l.length) (hl : l.length ≤ 500000000) (hb : b.length ≤ 500000000) :
  zA6 n ((k,row,(p : Int),m,nodes,slot,old,text),l) (y : Int) b = some (splS l p (p + y) b):=by
 unfold zA6;dsimp only;rw [zC4 ⟨by omega,by omega,by omega⟩,wrap64_in (n:=(p : Int) + (y : Int)) (by omega) (by omega),← Int.natCast_add,zC4 ⟨by omega,by omega,by omega⟩]
 have e1 : (l.take (p : Int).toNat).drop (0 : Int).toNat = l.take p:=by simp
 have e2 : (l.take (l.length : Int).toNat).drop ((p + y : Nat) : Int).toNat = l.drop (p + y):=by rw [Int.toNat_natCast,Int.toNat_natCast,List.take_length]
 rw [e1,e2,zSG n _ (by simp; omega) (by simp) (by simp only [lens,List.length_take,List.length_drop]; omega)]
 simp only [Option.bind_some,splS,List.flatten_cons,List.flatten_nil,List.append_nil,List.append_assoc]
theorem zKI {l : List Nd} {it z : Nd} {s : Nat} (hl : zBf 1 l = true) (hit : it ∈ l) (hz : it.kids[s]? = some z) : it.kind ≠ 1 ∧ z = rowN z.kids:=by
 obtain ⟨f1,f2⟩:=zCN hl hit;have hk : (it.kind == 1) = false:=by simpa using f2
 obtain ⟨i1,i2,i3,i4⟩:=it;simp only [Nd.kind] at hk;simp only [Nd.kids] at hz;obtain ⟨g1,g2⟩:=zCN (zFn f1) (List.mem_of_getElem? hz)
 rw [hk] at g2;have hz1 : z.kind = 1:=by
  cases e : z.kind == 1 with
  | true => exact eq_of_beq e
  | false => rw [e] at g2; cases g2
 exact ⟨beq_eq_false_iff_ne.1 hk,(zGw g1 hz1).1⟩
theorem zPd {l : List Nd} {it : Nd} (hl : zBf 1 l = true) (hit : it ∈ l) : it.kind ≠ 1:=by
 obtain ⟨_,f2⟩:=zCN hl hit;exact beq_eq_false_iff_ne.1 (by simpa using f2)
theorem zIy {l : List Nd} (h : zAL (rowN l) = true) : zBf 1 l = true:=by
 have:=(zGp h).2;exact this
theorem zQ1 (v : Nd) (h : v.kind ≠ 1) : zC9 v = some (v.kids.length : Int):=by
 obtain ⟨a,b,c,d⟩:=v;unfold zC9;simp only [Nd.kind] at h;simp only [zC2 h,cond_false,Nd.kids]
theorem zFI (n : Nat) (nodes : List Nd) (h : Nd.ws nodes + 50 < n) (hb : Nd.ws nodes ≤ 67000000) : zBX n nodes = some (zAL (rowN nodes)):=by
 unfold zBX;dsimp only;rw [zCI n _ (by simp only [Nd.w,List.length_nil]; omega) (by simp only [Nd.w,List.length_nil]; omega)]; rfl
theorem zOO (n : Nat) (l : List Nd) (slot : Int) (h : Nd.ws l + 50 < n) (hb : Nd.ws l ≤ 67000000) : ∃ b,zCO n l slot = some b ∧ (b = true ↔ zUQ l slot):=by
 unfold zCO;dsimp only;cases e1 : ((l.length : Int) != 1) with
 | true => exact ⟨false,rfl,(fun h => by cases h),fun ⟨v,s,z,h,_⟩ => by rw [h] at e1; cases e1⟩
 | false =>
  have hl : l.length = 1:=by
   by_cases h : (l.length : Int) = 1
   ·omega
   ·rw [bne_iff_ne.2 h] at e1; cases e1
  obtain ⟨v,rfl⟩:=List.length_eq_one_iff.1 hl;have hv:=zFI n [v] h hb;have h0 : at? [v] (0 : Int) = some v:=rfl;simp only [cond_false,hv,Option.bind_some]
  cases hvb : zAL (rowN [v]) with
  | false => exact ⟨false,rfl,(fun h => by cases h),fun ⟨v',s,z,h,_,h2,_⟩ => by cases h; rw [hvb] at h2; cases h2⟩
  | true =>
   have hsl:=zQ1 v (zPd (zIy hvb) List.mem_cons_self)
   obtain ⟨a,b,c,d⟩:=v;simp only [Nd.kids] at hsl;simp only [Bool.not_true,cond_false]
   by_cases h1 : slot < 0
   ·rw [zBd h1]
    exact ⟨false,rfl,(fun h => by cases h),fun ⟨v,s,z,h,hs,_⟩ => by omega⟩
   ·rw [zBc h1]
    simp only [cond_false,h0,Option.bind_some,hsl]
    by_cases h2 : (d.length : Int) ≤ slot
    ·rw [zBd h2]
     refine ⟨false,rfl,(fun h => by cases h),fun ⟨v,s,z,h,hs,_,hz,_⟩ => ?_⟩
     cases h;have:=(List.getElem?_eq_some_iff.1 hz).1;simp only [Nd.kids] at this
     omega
    ·rw [zBc h2]
     obtain ⟨p,rfl,hp,hg⟩:=zVL (l:=d) (i:=slot) (by omega) (by omega)
     have hz : d[p]? = some d[p]:=List.getElem?_eq_getElem hp;rw [hg]
     generalize d[p] = z at hz;obtain ⟨x1,x2,x3,x4⟩:=z;simp only [cond_false,Option.bind_some]
     refine ⟨_,rfl,fun h => ⟨_,p,_,rfl,rfl,hvb,hz,?_⟩,fun ⟨v,s,z,h,hs,_,hz',hk⟩ => ?_⟩
     ·have:=eq_of_beq h;exact List.eq_nil_of_length_eq_zero (by simp only [Nd.kids]; omega)
     ·cases h;obtain rfl : p = s:=by omega
      simp only [Nd.kids] at hz';rw [hz] at hz';cases hz';simp only [Nd.kids] at hk;subst hk
      rfl
theorem zMb (n : Nat) (k : Int) (row : List Int) (a m : Int) (nodes : List Nd) (slot : Int) (old text : List UInt8) (h : Nd.ws nodes + 50 < n) (hb : Nd.ws nodes ≤ 67000000) :
  ∃ b,zD7 n (k,row,a,m,nodes,slot,old,text) = some b ∧ (b = true ↔ zL3 (k,row,a,m,nodes,slot,old,text)):=by
 have hv:=zFI n nodes h hb;obtain ⟨tb,t1,t2⟩:=zOO n nodes slot h hb;have hlen : decide (0 < (nodes.length : Int)) = true ↔ nodes ≠ []:=by cases nodes <;> simp
 have hlen0 : ((nodes.length : Int) == 0) = true ↔ nodes = []:=by cases nodes <;> simp <;> omega
 have htx : (bif (!(old == [])) then some true else some (!(text == [])) : Option Bool) = some (!((old == []) && (text == []))):=by cases old == [] <;> cases text == [] <;> rfl
 unfold zD7;simp only [hv,t1,htx,Option.bind_some,zL3]
 by_cases k12 : k = 1 ∨ k = 2
 ·have e : (bif (k == 1) then some (k == 1) else some (k == 2) : Option Bool) = some true:=by rcases k12 with rfl | rfl <;> rfl
  have hk : ¬ (k = 3 ∨ k = 4) ∧ ¬ k = 5:=by omega
  rw [e]
  simp only [Option.bind_some,cond_true,k12,hk.1,hk.2,true_and,false_and,or_false]
  rw [← hlen]
  generalize decide (0 < (nodes.length : Int)) = b1;generalize zAL (rowN nodes) = b2;cases e1 : m == 0 <;> simp only [cond_true,cond_false,Option.bind_some]
  ·exact ⟨false,rfl,by simp [beq_eq_false_iff_ne.1 e1]⟩
  cases e2 : slot == 0 <;> simp only [cond_true,cond_false,Option.bind_some]
  ·exact ⟨false,rfl,by simp [beq_eq_false_iff_ne.1 e2]⟩
  cases e3 : old == [] <;> simp only [Bool.false_and,Bool.true_and,Bool.not_false,Bool.not_not,cond_true,cond_false,Option.bind_some]
  ·exact ⟨false,rfl,by simp [beq_eq_false_iff_ne.1 e3]⟩
  cases e4 : text == [] <;> simp only [Bool.not_true,Bool.not_false,cond_true,cond_false,Option.bind_some]
  ·exact ⟨false,rfl,by simp [beq_eq_false_iff_ne.1 e4]⟩
  rw [eq_of_beq e1,eq_of_beq e2,eq_of_beq e3,eq_of_beq e4]
  cases b1 <;> cases b2 <;> exact ⟨_,rfl,by simp⟩
 ·have e : (bif (k == 1) then some (k == 1) else some (k == 2) : Option Bool) = some false:=by
   rw [zC2 (fun h => k12 (.inl h)),zC2 (fun h => k12 (.inr h))]; rfl
  rw [e]
  simp only [Option.bind_some,cond_false,k12,false_and,false_or]
  by_cases k34 : k = 3 ∨ k = 4
  ·have e : (bif (k == 3) then some (k == 3) else some (k == 4) : Option Bool) = some true:=by rcases k34 with rfl | rfl <;> rfl
   have hk : ¬ k = 5:=by omega
   rw [e]
   simp only [Option.bind_some,cond_true,k34,hk,true_and,false_and,or_false]
   rw [← t2]
   by_cases hm : 0 ≤ m
   ·rw [zBd hm]
    simp only [cond_true]
    cases e3 : old == [] <;> simp only [Bool.false_and,Bool.true_and,Bool.not_false,Bool.not_not,cond_true,cond_false,Option.bind_some]
    ·exact ⟨false,rfl,by simp [beq_eq_false_iff_ne.1 e3]⟩
    cases e4 : text == [] <;> simp only [Bool.not_true,Bool.not_false,cond_true,cond_false,Option.bind_some]
    ·exact ⟨false,rfl,by simp [beq_eq_false_iff_ne.1 e4]⟩
    rw [eq_of_beq e3,eq_of_beq e4]
    exact ⟨_,rfl,by simp [hm]⟩
   ·rw [zBc hm]
    exact ⟨false,rfl,by simp [hm]⟩
  ·have e : (bif (k == 3) then some (k == 3) else some (k == 4) : Option Bool) = some false:=by
    rw [zC2 (fun h => k34 (.inl h)),zC2 (fun h => k34 (.inr h))]; rfl
   rw [e]
   simp only [Option.bind_some,cond_false,k34,false_and,false_or]
   by_cases k5 : k = 5
   ·subst k5;simp only [beq_self_eq_true,cond_true,Option.bind_some,true_and]
    rw [← hlen0]
    generalize ((nodes.length : Int) == 0) = b1;cases e1 : m == 0 <;> simp only [cond_true,cond_false,Option.bind_some]
    ·exact ⟨false,rfl,by simp [beq_eq_false_iff_ne.1 e1]⟩
    cases e2 : slot == 0 <;> simp only [cond_true,cond_false,Option.bind_some]
    ·exact ⟨false,rfl,by simp [beq_eq_false_iff_ne.1 e2]⟩
    rw [eq_of_beq e1,eq_of_beq e2]
    cases b1 <;> simp only [cond_true,cond_false,Option.bind_some]
    ·exact ⟨false,rfl,by simp⟩
    cases e0 : old == text <;> simp only [Bool.not_true,Bool.not_false]
    ·exact ⟨true,rfl,by simp [beq_eq_false_iff_ne.1 e0]⟩
    ·exact ⟨false,rfl,by simp [eq_of_beq e0]⟩
   ·rw [zC2 k5]
    exact ⟨false,rfl,by simp [k5]⟩
end Go.Proofs.YtjdhkpdjecegnaaGreatDoor
namespace Go.Proofs.YtjdhkpdjecegnaaGreatDoor
open Go.Abs
theorem zSP (k : Int) (row : List Int) (a m : Int) (nodes : List Nd) (slot : Int) (old text : List UInt8) (l : List Nd) (hl : l.length ≤ 1073741824) :
  zBP ((k,row,a,m,nodes,slot,old,text),l) = some (if a < 0 ∨ (l.length : Int) < a ∨ (l.length : Int) - a < zEc k m nodes then 2 else 0):=by
 unfold zBP;dsimp only;rw [zUf]
 simp only [Option.bind_some]
 by_cases h1 : a < 0
 ·rw [zBd h1,if_pos (.inl h1)]; rfl
 rw [zBc h1]
 by_cases h2 : (l.length : Int) < a
 ·rw [zBd h2,if_pos (.inr (.inl h2))]; rfl
 rw [zBc h2,wrap64_in (n:=(l.length : Int) - a) (by omega) (by omega)]
 by_cases h3 : (l.length : Int) - a < zEc k m nodes
 ·rw [zBd h3,if_pos (.inr (.inr h3))]; rfl
 rw [zBc h3,if_neg (fun h => h.elim h1 fun h => h.elim h2 h3)]; rfl
theorem zT4 {v it z : Nd} {s : Nat} {y : Nd} (hv : v.kids[s]? = some y) (hy : y = rowN []) (hz : it.kids[s]? = some z) (hzr : z = rowN z.kids) : Nd.mk it.kind it.text it.cols (it.kids.set s (rowN [])) = v ↔ it = zLl v s z.kids:=by
 obtain ⟨v1,v2,v3,v4⟩:=v;obtain ⟨i1,i2,i3,i4⟩:=it;obtain ⟨z1,z2,z3,z4⟩:=z;obtain ⟨rfl,rfl,rfl,-⟩:=Nd.mk.inj hzr
 clear hzr
 simp only [Nd.kids] at hv hz;simp only [zLl,Nd.kind,Nd.text,Nd.cols,Nd.kids]
 subst hy
 constructor
 ·intro h;obtain ⟨rfl,rfl,rfl,rfl⟩:=Nd.mk.inj h;rw [List.set_set]
  congr 1
  have:=zKG (y:=.mk 1 [] 0 z4) hz;rw [List.set_set] at this;exact this.symm
 ·intro h;obtain ⟨rfl,rfl,rfl,rfl⟩:=Nd.mk.inj h;rw [List.set_set]
  congr 1
  have:=zKG (y:=rowN []) hv;rw [List.set_set] at this;exact this
theorem zLe (n : Nat) (l : List Nd) (k : Int) (row : List Int) (a m : Int) (nodes : List Nd) (slot : Int) (old text : List UInt8) (hf : zL3 (k,row,a,m,nodes,slot,old,text)) (hv : zBf 1 l = true) (hn : 2 * Nd.ws l + 2 * Nd.ws nodes + 50 < n) (ha : Nd.ws l ≤ 60000000) (hb : Nd.ws nodes ≤ 2000000) :
  ∃ l' e,zB3 n ((k,row,a,m,nodes,slot,old,text),l) = some (l',e) ∧ Chg l (k,row,a,m,nodes,slot,old,text) l' e:=by
 have la:=Nd.ws_len l;have lb:=Nd.ws_len nodes;have cl:=Nd.cnts_ws l;have cb:=Nd.cnts_ws nodes;have hnn:=zS7 hf;unfold zB3;simp only [zSP _ _ _ _ _ _ _ _ l (show l.length ≤ 1073741824 by omega),Option.bind_some]
 by_cases hr : a < 0 ∨ (l.length : Int) < a ∨ (l.length : Int) - a < zEc k m nodes
 ·rw [if_pos hr]; exact ⟨[],2,rfl,.range hr⟩
 rw [if_neg hr]
 simp only [show ((0 : Int) != 0) = false from rfl,cond_false]
 have h1 : ¬ a < 0:=fun h => hr (.inl h)
 have h2 : ¬ (l.length : Int) < a:=fun h => hr (.inr (.inl h))
 have h3 : ¬ (l.length : Int) - a < zEc k m nodes:=fun h => hr (.inr (.inr h))
 obtain ⟨p,rfl⟩:=Int.eq_ofNat_of_zero_le (show 0 ≤ a by omega)
 obtain ⟨y,hy⟩:=Int.eq_ofNat_of_zero_le hnn;rw [hy] at h3;have hseg:=zV1 l (Nat.le_add_right p y)
 have lseg:=Nd.ws_len ((l.take (p + y)).drop p)
 have cseg:=Nd.cnts_ws ((l.take (p + y)).drop p)
 have hj : ∀ by' : List Nd,by'.length ≤ 500000000 → zA6 n ((k,row,(p : Int),m,nodes,slot,old,text),l) (y : Int) by' = some (splS l p (p + y) by'):=fun by' hby => zVk n k row p y m nodes slot old text l by' (by omega) (by omega) (by omega) hby
 rcases hf with ⟨rfl | rfl,h0⟩ | ⟨rfl | rfl,hm,⟨v,s,z,rfl,rfl,hvv,hz,hzk⟩,_⟩ | ⟨rfl,h0⟩
 ·obtain rfl : y = 0:=by have : zEc 1 m nodes = 0:=rfl; omega
  rw [show ((0 : Nat) : Int) = 0 from rfl] at hj;simp only [beq_self_eq_true,cond_true,zCn,hj nodes (by omega),Option.bind_some]
  exact ⟨_,0,rfl,.ins (by omega)⟩
 ·obtain rfl : y = nodes.length:=by have : zEc 2 m nodes = (nodes.length : Int):=rfl; omega
  obtain ⟨r,g1,g2⟩:=(zGD n).2 ((l.take (p + nodes.length)).drop p) nodes (by omega) (by omega)
  simp only [show ((2 : Int) == 1) = false from rfl,cond_false,beq_self_eq_true,cond_true,zCo]
  rw [wrap64_in (n:=(p : Int) + (nodes.length : Int)) (by omega) (by omega),← Int.natCast_add,zC4 ⟨by omega,by omega,by omega⟩,Int.toNat_natCast,Int.toNat_natCast,g1]
  simp only [Option.bind_some]
  cases r with
  | false => exact ⟨[],7,rfl,.del_no (by omega) fun e => by have:=g2.2 e; cases this⟩
  | true =>
   simp only [Bool.not_true,cond_false,hj [] (by simp),Option.bind_some]
   exact ⟨_,0,rfl,.del (by omega) (g2.1 rfl)⟩
 ·obtain rfl : m = (y : Int):=hy;obtain ⟨hvk,hzr⟩:=zKI (zIy hvv) List.mem_cons_self hz;rw [hzk] at hzr;have hv0 : at? [v] (0 : Int) = some v:=rfl;have hcv:=Nd.cnts_mem (List.mem_cons_self (a:=v) (l:=[]))
  have hd : zCq v = some v:=zC4 ⟨by omega,fun e => by rw [e] at hz; simp at hz⟩
  have hza:=zSt hz;have hcl : zDw ((l.take (p + y)).drop p) = some ((l.take (p + y)).drop p):=zC4 (by omega)
  have hj':=hj [zLl v s ((l.take (p + y)).drop p)] (by simp)
  have hfx : zLl v s ((l.take (p + y)).drop p) = Nd.mk v.kind v.text v.cols (v.kids.set s (rowN ((l.take (p + y)).drop p))):=rfl;rw [hfx] at hj';have hC:=Chg.wrap (l:=l) (row:=row) (p:=p) (m:=y) (v:=v) (s:=s) (old:=old) (text:=text) (by omega)
  have hfx2 : zLl v s (segS l p (p + y)) = Nd.mk v.kind v.text v.cols (v.kids.set s (rowN ((l.take (p + y)).drop p))):=rfl;rw [hfx2] at hC;subst hzr;obtain ⟨v1,v2,v3,v4⟩:=v;simp only [Nd.kind,Nd.text,Nd.cols,Nd.kids] at hza hj' hC;unfold rowN at hza;simp only [show ((3 : Int) == 1) = false from rfl,show ((3 : Int) == 2) = false from rfl,cond_false,beq_self_eq_true,cond_true,zC0,hv0,hd,Option.bind_some]
  rw [wrap64_in (n:=(p : Int) + (y : Int)) (by omega) (by omega),← Int.natCast_add,zC4 ⟨by omega,by omega,by omega⟩,Int.toNat_natCast,Int.toNat_natCast,hcl]
  simp only [Option.bind_some,hza,Int.toNat_natCast]
  unfold rowN at hj' hC;rw [hj']
  exact ⟨_,0,rfl,hC⟩
 ·obtain rfl : y = 1:=by have : zEc 4 m [v] = 1:=rfl; omega
  obtain ⟨hvk,hzr⟩:=zKI (zIy hvv) List.mem_cons_self hz;rw [hzk] at hzr;have hv0 : at? [v] (0 : Int) = some v:=rfl;have hpl : p < l.length:=by omega
  have hit : l[p]? = some l[p]:=List.getElem?_eq_getElem hpl;have hia : at? l (p : Int) = some l[p]:=zBt hpl;have hmem:=List.getElem_mem hpl;generalize l[p] = it at hit hia hmem;have hiw:=Nd.w_mem hmem;have hic:=Nd.cnt_w it;have hik:=zPd hv hmem;have hslots:=zQ1 it hik;have hdn : zBL it = some it:=zJw (by omega)
  have hwi:=zH4 it;have hlk4:=Nd.ws_len it.kids;simp only [show ((4 : Int) == 1) = false from rfl,show ((4 : Int) == 2) = false from rfl,show ((4 : Int) == 3) = false from rfl,cond_false,beq_self_eq_true,cond_true]
  have hnone : zBo ((4,row,(p : Int),m,[v],(s : Int),old,text),l) = if (it.kids.length : Int) ≤ (s : Int) then some ([],7) else none:=by
   unfold zBo;simp only [hia]
   by_cases h : (it.kids.length : Int) ≤ (s : Int)
   ·rw [if_pos h]
    obtain ⟨i1,i2,i3,i4⟩:=it;simp only [Nd.kids] at h hslots;simp only [Option.bind_some,hdn,hslots,zBd h]; rfl
   ·rw [if_neg h]
    obtain ⟨i1,i2,i3,i4⟩:=it;simp only [Nd.kids] at h hslots;simp only [Option.bind_some,hdn,hslots,zBc h]; rfl
  by_cases hsl : (it.kids.length : Int) ≤ (s : Int)
  ·have : zBj n ((4,row,(p : Int),m,[v],(s : Int),old,text),l) = some ([],7):=by
    unfold zBj;rw [hnone,if_pos hsl]
   rw [this]
   refine ⟨[],7,rfl,.unwrap_no hit fun z' hz' => ?_⟩
   have:=(List.getElem?_eq_some_iff.1 hz').1
   omega
  have hsi : s < it.kids.length:=by omega
  have hzi : it.kids[s]? = some it.kids[s]:=List.getElem?_eq_getElem hsi;generalize it.kids[s] = z' at hzi;obtain ⟨_,hzr'⟩:=zKI hv hmem hzi;have hzw:=Nd.w_mem (List.mem_of_getElem? hzi)
  have hzw2:=zH4 z';have hzl:=Nd.ws_len z'.kids;have hfi:=zT4 hz hzr hzi hzr';have hws:=zL0 (y:=rowN []) hzi;have hj':=hj z'.kids (by omega)
  rw [show ((1 : Nat) : Int) = 1 from rfl] at hj';have hcs : (Nd.mk it.kind it.text it.cols (it.kids.set s (rowN []))).cnt ≤ it.w + 1:=by
   have h1:=Nd.cnt_w (Nd.mk it.kind it.text it.cols (it.kids.set s (rowN [])))
   have e : (rowN []).w = 1:=rfl;simp only [Nd.w] at h1
   omega
  obtain ⟨rb,g1,g2⟩:=(zGD n).1 (Nd.mk it.kind it.text it.cols (it.kids.set s (rowN []))) v (by omega) (by omega)
  have hdo : zCq it = some it:=zC4 ⟨by omega,fun e => by rw [e] at hzi; simp at hzi⟩
  have hza:=zSt hzi;have hkids : ∃ l' e,zBn n ((4,row,(p : Int),m,[v],(s : Int),old,text),l) = some (l',e) ∧ Chg l (4,row,(p : Int),m,[v],(s : Int),old,text) l' e:=by
   unfold zBn;obtain ⟨i1,i2,i3,i4⟩:=it;obtain ⟨v1,v2,v3,v4⟩:=v;obtain ⟨z1,z2,z3,z4⟩:=z';obtain ⟨rfl,rfl,rfl,-⟩:=Nd.mk.inj hzr';simp only [Nd.kind,Nd.text,Nd.cols,Nd.kids] at hza g1 hslots hj' hsl;simp only [hia,Option.bind_some,hdo,hslots,zBc hsl,cond_false,hza,hv0,Int.toNat_natCast]
   by_cases hmz : (z4.length : Int) = m
   ·have : ((z4.length : Int) != m) = false:=by unfold bne; rw [beq_iff_eq.2 hmz]; rfl
    unfold rowN at g1;rw [this]
    simp only [cond_false,g1,Option.bind_some]
    cases rb with
    | false =>
     refine ⟨[],7,rfl,.unwrap_no hit fun z'' hz'' hm'' he => ?_⟩
     rw [hzi] at hz'';cases hz'';have:=g2.2 (hfi.2 he)
     cases this
    | true =>
     simp only [Bool.not_true,cond_false,hj',Option.bind_some]
     exact ⟨_,0,rfl,.unwrap (z:=.mk 1 [] 0 z4) hit hzi hmz (hfi.1 (g2.1 rfl))⟩
   ·have : ((z4.length : Int) != m) = true:=bne_iff_ne.2 hmz;rw [this]
    refine ⟨[],7,rfl,.unwrap_no hit fun z'' hz'' hm'' he => ?_⟩
    rw [hzi] at hz'';cases hz'';exact hmz hm''
  obtain ⟨l',e,h4,h5⟩:=hkids;have : zBj n ((4,row,(p : Int),m,[v],(s : Int),old,text),l) = some (l',e):=by
   unfold zBj;rw [hnone,if_neg hsl]
   exact h4
  rw [this]
  exact ⟨l',e,rfl,h5⟩
 ·obtain rfl : y = 1:=by have : zEc 5 m nodes = 1:=rfl; omega
  have hpl : p < l.length:=by omega
  have hit : l[p]? = some l[p]:=List.getElem?_eq_getElem hpl;have hia : at? l (p : Int) = some l[p]:=zBt hpl;generalize l[p] = it at hit hia;obtain ⟨i1,i2,i3,i4⟩:=it;rw [show ((1 : Nat) : Int) = 1 from rfl] at hj;simp only [show ((5 : Int) == 1) = false from rfl,show ((5 : Int) == 2) = false from rfl,show ((5 : Int) == 3) = false from rfl,show ((5 : Int) == 4) = false from rfl,cond_false,zDi,hia,Option.bind_some,zUa]
  cases hlf : zQw i1 with
  | false => exact ⟨[],7,rfl,.set_no hit fun h => by have:=h.1; simp only [Nd.kind] at this; rw [hlf] at this; cases this⟩
  | true =>
   simp only [cond_true,Option.bind_some]
   cases ht : i2 == old with
   | false => exact ⟨[],7,rfl,.set_no hit fun h => beq_eq_false_iff_ne.1 ht h.2⟩
   | true =>
    simp only [Bool.not_true,cond_false,hj [Nd.mk i1 text i3 i4] (by simp),Option.bind_some]
    exact ⟨_,0,rfl,.set (it:=.mk i1 i2 i3 i4) hit hlf (eq_of_beq ht)⟩
theorem zNy (n : Nat) (t : Nd) (o : Op8) (hn : 200000000 < n) (ht : t.w ≤ 50000000) (hb : Nd.ws o.nodes ≤ 2000000) (hx : o.2.2.2.2.2.2.2.length ≤ 2000000) : ∃ t' e,zED n t o = some (t',e) ∧ App t o t' e:=by
 obtain ⟨k,row,a,m,nodes,slot,old,text⟩:=o;simp only [Op8.nodes] at hb;dsimp only at hx;have v1:=zCI n t (by omega) (by omega)
 have ct:=Nd.cnt_w t;obtain ⟨b,f1,f2⟩:=zMb n k row a m nodes slot old text (by omega) (by omega)
 have e1:=zQA n t row v1 (by omega)
 have hwith : ∀ r l,Fd t row r → Nd.ws l ≤ 5000000 + r.w → zEo n t row (rowN l) = some (zQZ t row (rowN l)):=fun r l h hl => by
  have hs:=h.small;have hc : (rowN l).w = Nd.ws l + 1:=by simp [rowN,Nd.w]
  refine zPq n t row (rowN l) v1 (zCI n _ (by omega) (by omega)) (fun z hz => ?_) (by omega) (by have:=Nd.cnt_w (rowN l); omega)
  obtain rfl:=h.det hz;have:=h.w (rowN l)
  exact zCI n _ (by omega) (by omega)
 obtain ⟨t1,t2,t3,t4⟩:=t;unfold zED;simp only [v1,f1,e1,Option.bind_some]
 cases hv : zAL (.mk t1 t2 t3 t4) with
 | false => exact ⟨_,1,rfl,.arg hv⟩
 | true =>
  simp only [Bool.not_true,cond_false]
  cases b with
  | false => exact ⟨_,4,rfl,.form hv fun h => by have:=f2.2 h; cases this⟩
  | true =>
   have hf:=f2.1 rfl;simp only [Bool.not_true,cond_false,rowS,if_pos hv]
   cases hfd : zCe (.mk t1 t2 t3 t4) row with
   | none => exact ⟨_,8,rfl,.none hv hf hfd⟩
   | some r =>
    have hr':=zVP hfd;have hsm:=hr'.small;have hwr:=zH4 r;have hvr:=hr'.valid hv;have hrr:=(zGp hvr).1;have hfr:=(zGp hvr).2;obtain ⟨l',e,c1,c2⟩:=zLe n r.kids k row a m nodes slot old text hf hfr (by omega) (by omega) (by omega)
    obtain ⟨r1,r2,r3,r4⟩:=r;obtain ⟨rfl,rfl,rfl,-⟩:=Nd.mk.inj hrr;simp only [Nd.kids] at c1 c2 hwr;simp only [Option.bind_some,show ((0 : Int) != 0) = false from rfl,cond_false,c1]
    by_cases he : e = 0
    ·subst he;have hcw:=c2.w;have hw:=hwith _ l' hr' (by omega)
     unfold rowN at hw;simp only [show ((0 : Int) != 0) = false from rfl,cond_false,hw,Option.bind_some]
     cases hvo : zAL (putL (.mk t1 t2 t3 t4) row (rowN l')) with
     | false =>
      have hL:=App.limit (t:=.mk t1 t2 t3 t4) (o:=(k,row,a,m,nodes,slot,old,text)) hv hf hr' c2 hvo;have hws : ∃ q,zQZ (.mk t1 t2 t3 t4) row (.mk 1 [] 0 l') = (zDe,q) ∧ q ≠ 0:=by
       unfold zQZ;rw [if_pos hv,hfd]
       dsimp only
       by_cases h : zAL (.mk 1 [] 0 l') = true
       ·rw [if_pos h]
        unfold rowN at hvo;rw [hvo,if_neg (by decide)]
        exact ⟨6,rfl,by decide⟩
       ·rw [if_neg h]; exact ⟨4,rfl,by decide⟩
      obtain ⟨q,hq,hq0⟩:=hws;rw [hq]
      have : (q != 0) = true:=bne_iff_ne.2 hq0;simp only [zDe,this,cond_true]
      exact ⟨_,6,rfl,hL⟩
     | true =>
      have hO:=App.ok (t:=.mk t1 t2 t3 t4) (o:=(k,row,a,m,nodes,slot,old,text)) hv hf hr' c2 hvo;have hvl:=(hr'.put (rowN l')).valid hvo;have hws:=zUK (r:=rowN l') hv hfd hvl hvo;unfold rowN at hws;rw [hws]
      dsimp only at hO;unfold rowN at hO;generalize putL (Nd.mk t1 t2 t3 t4) row (Nd.mk 1 [] 0 l') = Z at *;obtain ⟨q1,q2,q3,q4⟩:=Z;exact ⟨_,0,rfl,hO⟩
    ·have : (e != 0) = true:=bne_iff_ne.2 he;simp only [this,cond_true]
     exact ⟨_,e,rfl,.chg (t:=.mk t1 t2 t3 t4) (o:=(k,row,a,m,nodes,slot,old,text)) hv hf hr' c2 he⟩
theorem App.w {t t' : Nd} {o : Op8} {e : Int} (h : App t o t' e) : t'.w ≤ t.w + Nd.ws o.nodes + o.2.2.2.2.2.2.2.length + 4:=by
 have hz : zDe.w = 1:=rfl;obtain ⟨k,row,a,m,nodes,slot,old,text⟩:=o;simp only [Op8.nodes]
 cases h with
 | arg => omega
 | form => omega
 | none => omega
 | chg => omega
 | limit => omega
 | @ok r l h hf hr hc hv =>
  have h1:=hr.w (rowN l)
  have h2:=hc.w;have h3:=zH4 r;have h4 : (rowN l).w = Nd.ws l + 1:=by simp [rowN,Nd.w]
  dsimp only at h1 ⊢
  omega
end Go.Proofs.YtjdhkpdjecegnaaGreatDoor
namespace Go.Proofs.YtjdhkpdjecegnaaGreatDoor
open Go.Abs
def Op8.row (o : Op8) : List Int:=o.2.1
def Op8.text (o : Op8) : List UInt8:=o.2.2.2.2.2.2.2
inductive Runs : Nd → List Op8 → Nd → Int → Prop
 | nil (t : Nd) : Runs t [] t 0
 | stop {t t' : Nd} {o : Op8} {ops : List Op8} {e : Int} (h : App t o t' e) (he : e ≠ 0) : Runs t (o :: ops) zDe e
 | next {t t' u : Nd} {o : Op8} {ops : List Op8} {e : Int} (h : App t o t' 0) (hr : Runs t' ops u e) : Runs t (o :: ops) u e
def endOf (f : Fl (Nd × Int × Int) (Int × List UInt8 × Int × List Nd)) : Nd × Int × Int:=match f with
 | .ret r => r
 | .go (a,b,c,d) => (.mk a b c d,0,0)
inductive zU8 (t : Nd) (ops : List Op8) : Nd → Int → Prop
 | bad (h : zAL t = false) : zU8 t ops zDe 1
 | go {u : Nd} {e : Int} (h : zAL t = true) (hr : Runs t ops u e) : zU8 t ops u e
end Go.Proofs.YtjdhkpdjecegnaaGreatDoor
namespace Go.Proofs.YtjdhkpdjecegnaaGreatDoor
open Go.Abs
theorem cnt_kids (v : Nd) : v.cnt = Nd.cnts v.kids + 1:=by cases v; simp only [Nd.cnt,Nd.kids]; try omega
theorem zQ8 {ks : List Nd} {i : Nat} {x y : Nd} {D : Nat} (h : ks[i]? = some x) (h1 : Nd.deps ks ≤ D) (h2 : y.dep ≤ D) : Nd.deps (ks.set i y) ≤ D:=by
 induction ks generalizing i with
 | nil => cases h
 | cons u ks ih =>
  simp only [Nd.deps] at h1;have a1:=Nat.le_trans (Nat.le_max_left _ _) h1;have a2:=Nat.le_trans (Nat.le_max_right _ _) h1;cases i with
  | zero => simp only [List.set_cons_zero,Nd.deps]; exact Nat.max_le.2 ⟨h2,a2⟩
  | succ i => simp only [List.set_cons_succ,Nd.deps]; exact Nat.max_le.2 ⟨a1,ih h a2⟩
theorem Fd.deep {t z : Nd} {p : List Int} (h : Fd t p z) : z.dep + p.length ≤ t.dep:=by
 induction h with
 | nil t => simp
 | @step k tx c ks i k2 tx2 c2 ks2 s z r' p hi hs _ ih =>
  have d1:=zD3 (List.mem_of_getElem? hi)
  have d2:=zD3 (List.mem_of_getElem? hs)
  simp only [Nd.dep,List.length_cons] at *
  omega
theorem Fd.put_dep {t z : Nd} {p : List Int} (h : Fd t p z) (r : Nd) {D : Nat} (h1 : t.dep ≤ D) (h2 : r.dep + p.length ≤ D) : (putL t p r).dep ≤ D:=by
 induction h generalizing D with
 | nil t => rw [zDd]; simpa using h2
 | @step k tx c ks i k2 tx2 c2 ks2 s z r' p hi hs _ ih =>
  rw [zB8 hi hs]
  have d1:=zD3 (List.mem_of_getElem? hi)
  have d2:=zD3 (List.mem_of_getElem? hs)
  simp only [Nd.dep,List.length_cons] at *;have:=ih (D:=D - 2) (by omega) (by omega)
  have e1:=zQ8 (D:=D - 2) (y:=putL z p r) hs (by omega) this;have e2:=zQ8 (D:=D - 1) (y:=.mk k2 tx2 c2 (ks2.set s (putL z p r))) hi (by omega) (by simp only [Nd.dep]; omega)
  omega
theorem zO3 {k : Int} {ks : List Nd} {i : Nat} {x y : Nd} (h : ks[i]? = some x) (hf : zBf k ks = true) (hk : y.kind = x.kind) (hy : zCa y = true) : zBf k (ks.set i y) = true:=by
 induction ks generalizing i with
 | nil => cases h
 | cons u ks ih =>
  simp only [zBf,Bool.and_eq_true] at hf;cases i with
  | zero =>
   obtain rfl : u = x:=Option.some.inj h;simp only [List.set_cons_zero,zBf,Bool.and_eq_true,hk]
   exact ⟨⟨hf.1.1,hy⟩,hf.2⟩
  | succ i => simp only [List.set_cons_succ,zBf,Bool.and_eq_true]; exact ⟨hf.1,ih h hf.2⟩
theorem Fd.put_form {t z : Nd} {p : List Int} (h : Fd t p z) {r : Nd} (hf : zCa t = true) (hk : t.kind = 1) (hr : zCa r = true) (hrk : r.kind = 1) : zCa (putL t p r) = true ∧ (putL t p r).kind = 1:=by
 induction h with
 | nil t => rw [zDd]; exact ⟨hr,hrk⟩
 | @step k tx c ks i k2 tx2 c2 ks2 s z r' p hi hs hz ih =>
  obtain ⟨f1,f2⟩:=zCN (zFn hf) (List.mem_of_getElem? hi)
  obtain ⟨g1,g2⟩:=zCN (zFn f1) (List.mem_of_getElem? hs)
  have hk : k = 1:=hk;subst hk;have f3 : (k2 == 1) = false:=by simpa [Nd.kind] using f2
  have hzk : z.kind = 1:=by
   rw [f3] at g2;cases e : z.kind == 1 with
   | true => exact eq_of_beq e
   | false => rw [e] at g2; cases g2
  obtain ⟨i1,i2⟩:=ih g1 hzk;rw [zB8 hi hs]
  refine ⟨?_,rfl⟩
  have e1:=zO3 (y:=putL z p r) hs (zFn f1) (i2.trans hzk.symm) i1;have f4 : zCa (.mk k2 tx2 c2 (ks2.set s (putL z p r))) = true:=by
   simp only [zCa,Bool.and_eq_true,List.length_set] at f1 ⊢;exact ⟨f1.1,e1⟩
  have e2:=zO3 (y:=.mk k2 tx2 c2 (ks2.set s (putL z p r))) hi (zFn hf) rfl f4;simp only [zCa,Bool.and_eq_true,List.length_set] at hf ⊢;exact ⟨hf.1,e2⟩
theorem zLY {t : Nd} (h : zAL t = true) : t.kind = 1 ∧ zCa t = true ∧ t.cnt ≤ 1000 ∧ t.dep ≤ 24:=by
 unfold zAL at h;simp only [Bool.and_eq_true,decide_eq_true_eq] at h;exact ⟨eq_of_beq h.1,h.2⟩
theorem zOg {t : Nd} (h1 : t.kind = 1) (h2 : zCa t = true) (h3 : t.cnt ≤ 1000) (h4 : t.dep ≤ 24) : zAL t = true:=by
 unfold zAL;simp only [Bool.and_eq_true,decide_eq_true_eq]
 exact ⟨by rw [h1]; rfl,h2,h3,h4⟩
end Go.Proofs.YtjdhkpdjecegnaaGreatDoor
namespace Go.Proofs.YtjdhkpdjecegnaaGreatDoor
open Go.Abs
def zBR : Nat → Nat → Nat → List Nd → List Nd → List (Nat × Nat)
 | k + 1,i,j,x :: xs,y :: ys =>
  bif zBS x y && (DL (x :: xs) (y :: ys) == DL xs ys + D x y) then (i,j) :: zBR k (i + 1) (j + 1) xs ys
  else bif (DL (x :: xs) (y :: ys) == DL xs (y :: ys) + x.cnt) && (!(DL (x :: xs) (y :: ys) == DL (x :: xs) ys + y.cnt) || Op.bytesLess (zDH x) (zDH y)) then zBR k (i + 1) j xs (y :: ys)
  else zBR k i (j + 1) (x :: xs) ys
 | _,_,_,_,_ => []
theorem zHc (a b : Nat) : ((a : Int) == (b : Int)) = (a == b):=by
 by_cases h : a = b
 ·subst h; simp
 ·rw [beq_eq_false_iff_ne.2 h,beq_eq_false_iff_ne.2 (by omega)]
theorem zTF (P : Nd → Nd → Nat) (b : List Nd) : ∀ (a : List Nd) (i : Nat),i ≤ a.length → at? (tabD P a b) (i : Int) = some (sufs (TD P (a.drop i)) b)
 | [],0,_ => rfl
 | [],i + 1,h => by simp at h
 | x :: xs,0,_ => rfl
 | x :: xs,i + 1,h => by
  have:=zTF P b xs i (by simpa using h)
  unfold at? at this ⊢;rw [if_pos (by omega)] at this ⊢;simp only [Int.toNat_natCast] at this ⊢
  simpa [tabD] using this
theorem zLT (f : List Nd → Nat) : ∀ (b : List Nd) (j : Nat),j ≤ b.length → at? (sufs f b) (j : Int) = some (f (b.drop j) : Int)
 | [],0,_ => rfl
 | [],j + 1,h => by simp at h
 | y :: ys,0,_ => rfl
 | y :: ys,j + 1,h => by
  have:=zLT f ys j (by simpa using h)
  unfold at? at this ⊢;rw [if_pos (by omega)] at this ⊢;simp only [Int.toNat_natCast] at this ⊢
  simpa [sufs] using this
theorem zRi {α β : Type} (f : α → β) {l : List α} {i : Nat} (h : i < l.length) : at? (l.map f) (i : Int) = some (f l[i]):=by
 rw [zBt (by simpa using h)]; simp
def zCw (p : Nat × Nat) : Int × Int:=((p.1 : Int),(p.2 : Int))
theorem zHv (n : Nat) {a b : List Nd} (ha : Nd.cnts a ≤ 1000000) (hb : Nd.cnts b ≤ 1000000) (hwa : ∀ x ∈ a,2 * x.w < n ∧ x.w ≤ 16777216 ∧ x.rng) (hwb : ∀ x ∈ b,2 * x.w < n ∧ x.w ≤ 16777216 ∧ x.rng) :
  ∀ (k i j : Nat) (l : List (Int × Int)),(a.length - i) + (b.length - j) < k → i ≤ a.length → j ≤ b.length → l.length ≤ i →
   zBu n a b (tabD D a b) (a.map fun x => b.map (prI x)) (a.map cntI) (b.map cntI) k (i : Int) (j : Int) l = some (l ++ (zBR k i j (a.drop i) (b.drop j)).map zCw)
 | 0,_,_,_,h,_,_,_ => by omega
 | k + 1,i,j,l,hk,hi,hj,hl => by
  have la:=Nd.cnts_len a;have lb:=Nd.cnts_len b;unfold zBu
  by_cases hia : i < a.length
  ·rw [zBd (Int.ofNat_lt.2 hia),cond_true]
   by_cases hjb : j < b.length
   ·rw [zBd (Int.ofNat_lt.2 hjb),Option.bind_some,cond_true]
    have hda:=List.drop_eq_getElem_cons hia;have hdb:=List.drop_eq_getElem_cons hjb;have ca:=Nd.cnts_drop hia;have cb:=Nd.cnts_drop hjb;obtain ⟨x1,x2,x3⟩:=hwa _ (List.getElem_mem hia)
    obtain ⟨y1,y2,y3⟩:=hwb _ (List.getElem_mem hjb)
    have ca' : Nd.cnts (a.drop i) ≤ Nd.cnts a:=by
     have:=Nd.cnts_append (a.take i) (a.drop i); rw [List.take_append_drop] at this; omega
    have cb' : Nd.cnts (b.drop j) ≤ Nd.cnts b:=by
     have:=Nd.cnts_append (b.take j) (b.drop j); rw [List.take_append_drop] at this; omega
    have b1:=zOF (P:=D) (a.drop i) (b.drop j)
    have b2:=zOF (P:=D) (a.drop (i + 1)) (b.drop j)
    have b3:=zOF (P:=D) (a.drop i) (b.drop (j + 1))
    have b4:=zOF (P:=D) (a.drop (i + 1)) (b.drop (j + 1))
    have b5:=D_le a[i] b[j];have t1:=zTF D b a i (by omega)
    have t2:=zTF D b a (i + 1) (by omega)
    have s1:=zLT (TD D (a.drop i)) b j (by omega)
    have s2:=zLT (TD D (a.drop (i + 1))) b j (by omega)
    have s3:=zLT (TD D (a.drop i)) b (j + 1) (by omega)
    have s4:=zLT (TD D (a.drop (i + 1))) b (j + 1) (by omega)
    have p1:=zRi (fun x => b.map (prI x)) hia;have p2:=zRi (prI a[i]) hjb;have c1:=zRi cntI hia;have c2:=zRi cntI hjb;have d1:=zJ6 n a[i] x1 x2 x3;have d2:=zJ6 n b[j] y1 y2 y3;rw [zAS (by omega),zAS (by omega)]
    simp only [t1,t2,s1,s2,s3,s4,p1,p2,c1,c2,Option.bind_some,zBt hia,zBt hjb]
    have hx : (bif decide (0 ≤ prI a[i] b[j]) then some ((TD D (a.drop i) (b.drop j) : Int) == IntKind.i64.wrap ((TD D (a.drop (i + 1)) (b.drop (j + 1)) : Int) + prI a[i] b[j])) else some false : Option Bool) = some (zBS a[i] b[j] && (DL (a[i] :: a.drop (i + 1)) (b[j] :: b.drop (j + 1)) == DL (a.drop (i + 1)) (b.drop (j + 1)) + D a[i] b[j])):=by
     unfold prI;cases hal : zBS a[i] b[j] with
     | false => rfl
     | true =>
      rw [cond_true,zBd (by omega),cond_true,wrap64_in (by omega) (by omega),← Int.natCast_add,zHc,← hda,← hdb]; rfl
    rw [hx,Option.bind_some,hda,hdb,zBR]
    cases zBS a[i] b[j] && (DL (a[i] :: a.drop (i + 1)) (b[j] :: b.drop (j + 1)) == DL (a.drop (i + 1)) (b.drop (j + 1)) + D a[i] b[j]) with
    | true =>
     simp only [cond_true]
     rw [zC4 (by simp; omega),zHv n ha hb hwa hwb k (i + 1) (j + 1) _ (by omega) (by omega) (by omega) (by simp; omega)]
     simp [zCw]
    | false =>
     simp only [cond_false]
     rw [← hda,← hdb,cntI,wrap64_in (by omega) (by omega),← Int.natCast_add,zHc,cntI,wrap64_in (by omega) (by omega),← Int.natCast_add,zHc]
     have hz : ∀ X : Option Bool,X = some ((DL (a.drop i) (b.drop j) == DL (a.drop (i + 1)) (b.drop j) + a[i].cnt) && (!(DL (a.drop i) (b.drop j) == DL (a.drop i) (b.drop (j + 1)) + b[j].cnt) || Op.bytesLess (zDH a[i]) (zDH b[j]))) → ∀ K : Bool → Option (List (Int × Int)),X.bind K = K ((DL (a.drop i) (b.drop j) == DL (a.drop (i + 1)) (b.drop j) + a[i].cnt) && (!(DL (a.drop i) (b.drop j) == DL (a.drop i) (b.drop (j + 1)) + b[j].cnt) || Op.bytesLess (zDH a[i]) (zDH b[j]))):=fun X h K => by rw [h]; rfl
     refine (hz _ ?_ _).trans ?_
     ·have key : ∀ (p q r : Bool),(bif p then (bif !q then some true else some r) else some false : Option Bool) = some (p && (!q || r)):=by intro p q r; cases p <;> cases q <;> rfl
      rcases e : a[i] with ⟨e1,e2,e3,e4⟩
      rcases e' : b[j] with ⟨f1,f2,f3,f4⟩
      rw [e] at d1;rw [e'] at d2;simp only [d1,d2,Option.bind_some]
      exact key _ _ _
     cases ((DL (a.drop i) (b.drop j) == DL (a.drop (i + 1)) (b.drop j) + a[i].cnt) && (!(DL (a.drop i) (b.drop j) == DL (a.drop i) (b.drop (j + 1)) + b[j].cnt) || Op.bytesLess (zDH a[i]) (zDH b[j]))) with
     | true =>
      simp only [cond_true]
      rw [zHv n ha hb hwa hwb k (i + 1) j _ (by omega) (by omega) (by omega) (by omega)]
     | false =>
      simp only [cond_false]
      rw [zHv n ha hb hwa hwb k i (j + 1) _ (by omega) (by omega) (by omega) (by omega)]
   ·rw [zBc (by omega),Option.bind_some,cond_false]
    obtain rfl : j = b.length:=by omega
    rw [List.drop_length]
    cases a.drop i <;> simp [zBR]
  ·rw [zBc (by omega),cond_false,Option.bind_some,cond_false]
   obtain rfl : i = a.length:=by omega
   rw [List.drop_length]
   simp [zBR]
theorem zKB {t x : Nd} (hr : t.rng) (h : x ∈ t.kids) : x.rng:=by
 obtain ⟨a,b,c,ks⟩:=t;exact Nd.rng_mem hr.2.2 h
theorem zVF (x y : Nd) (xs ys : List Nd) : (zBS x y = true ∧ DL (x :: xs) (y :: ys) = DL xs ys + D x y) ∨ DL (x :: xs) (y :: ys) = DL xs (y :: ys) + x.cnt ∨ DL (x :: xs) (y :: ys) = DL (x :: xs) ys + y.cnt:=by
 have h : DL (x :: xs) (y :: ys) = if zBS x y then min (min (x.cnt + DL xs (y :: ys)) (y.cnt + DL (x :: xs) ys)) (D x y + DL xs ys) else min (x.cnt + DL xs (y :: ys)) (y.cnt + DL (x :: xs) ys):=rfl
 split at h
 ·rename_i ha
  simp only [Nat.min_def] at h
  repeat' split at h
  ·right; left; omega
  ·left; exact ⟨ha,by omega⟩
  ·right; right; omega
  ·left; exact ⟨ha,by omega⟩
 ·simp only [Nat.min_def] at h;split at h
  ·right; left; omega
  ·right; right; omega
end Go.Proofs.YtjdhkpdjecegnaaGreatDoor
namespace Go.Proofs.YtjdhkpdjecegnaaGreatDoor
open Go.Abs
def Good (t : Nd) (p : List Int) (l : List Nd) : Prop:=zAL t = true ∧ Fd t p (rowN l)
theorem zVO {t z u : Nd} {p q : List Int} (h : Fd t p z) (h2 : Fd z q u) : Fd t (p ++ q) u:=by
 induction h with
 | nil t => exact h2
 | step hi hs _ ih => exact .step hi hs (ih h2)
theorem zVs {t z : Nd} {p : List Int} (h : Fd t p z) (q : List Int) (r : Nd) : putL t (p ++ q) r = putL t p (putL z q r):=by
 induction h with
 | nil t => rw [List.nil_append,zDd]
 | @step k tx c ks i k2 tx2 c2 ks2 s z r' p hi hs _ ih => rw [List.cons_append,List.cons_append,zB8 hi hs,zB8 hi hs,ih]
theorem zN5 {l : List Nd} (h : zBf 1 l = true) (hl : l.length ≤ 200) : zCa (rowN l) = true:=by
 have : ((l.length : Nat) : Int) ≤ 200:=by omega
 simp [rowN,zCa,zIx,zET,h,this]
theorem zRt {l : List Nd} (h : zCa (rowN l) = true) : l.length ≤ 200:=by
 simp [rowN,zCa,zIx,zET] at h
 omega
theorem zEY (l : List Nd) : (rowN l).cnt = Nd.cnts l + 1:=by simp [rowN,Nd.cnt]
theorem zKF (l : List Nd) : (rowN l).dep = Nd.deps l + 1:=rfl
theorem Good.row {t : Nd} {p : List Int} {l : List Nd} (h : Good t p l) : zBf 1 l = true ∧ l.length ≤ 200 ∧ Nd.deps l + 1 + p.length ≤ 24 ∧ Nd.cnts l + 1 ≤ t.cnt ∧ t.cnt ≤ 1000:=by
 obtain ⟨k,f,c,d⟩:=zLY h.1;obtain ⟨f1,f2⟩:=h.2.form f k;have d1:=h.2.deep;have s1:=h.2.small;rw [zKF] at d1;rw [zEY] at s1;exact ⟨(zGw f1 rfl).2,zRt f1,by omega,s1.1,c⟩
theorem Good.put {t : Nd} {p : List Int} {l l' : List Nd} (h : Good t p l) (hf : zBf 1 l' = true) (hl : l'.length ≤ 200) (hd : Nd.deps l' + 1 + p.length ≤ 24) (hc : t.cnt + Nd.cnts l' ≤ 1000 + Nd.cnts l) : Good (putL t p (rowN l')) p l':=by
 obtain ⟨k,f,c,d⟩:=zLY h.1;obtain ⟨g1,g2⟩:=h.2.put_form f k (zN5 hf hl) rfl;have hcn:=h.2.cnt (rowN l')
 rw [zEY,zEY] at hcn;exact ⟨zOg g2 g1 (by omega) (h.2.put_dep (rowN l') d (by rw [zKF]; omega)),h.2.put _⟩
theorem zTb {x : Nd} {l : List Nd} (h : zBf 1 l = true) (hx : x ∈ l) (hc : Nd.cnts l ≤ 999) (hd : Nd.deps l ≤ 23) : zAL (rowN [x]) = true:=by
 obtain ⟨f1,f2⟩:=zCN h hx;have c1:=Nd.cnts_mem hx;have d1:=zD3 hx;refine zOg rfl (zN5 ?_ (by simp)) (by rw [zEY]; simp only [Nd.cnts]; omega) (by rw [zKF]; simp only [Nd.deps]; exact Nat.succ_le_succ (Nat.max_le.2 ⟨by omega,Nat.zero_le _⟩))
 show ((!((x.kind == 1) == ((1 : Int) == 1)) && zCa x) && true) = true;rw [f2,f1]
 rfl
theorem zD4 {k : Int} : ∀ {a b : List Nd},zBf k (a ++ b) = true ↔ zBf k a = true ∧ zBf k b = true
 | [],b => by simp [zBf]
 | x :: a,b => by simp only [List.cons_append,zBf,Bool.and_eq_true,zD4 (a:=a),and_assoc]
theorem zKx : ∀ {a b : List Nd},Nd.deps (a ++ b) = Nat.max (Nd.deps a) (Nd.deps b)
 | [],b => by simp [Nd.deps]
 | x :: a,b => by
  simp only [List.cons_append,Nd.deps,zKx (a:=a)]
  exact (Nat.max_assoc _ _ _).symm
def zF9 (p : List Int) (i : Nat) (x : Nd) : Op8:=(2,p,(i : Int),0,[x],0,[],[])
def zFv (p : List Int) (j : Nat) (y : Nd) : Op8:=(1,p,(j : Int),0,[y],0,[],[])
def zJK (p : List Int) (j : Nat) (old text : List UInt8) : Op8:=(5,p,(j : Int),0,[],0,old,text)
theorem zQV (pre mid post b : List Nd) : splS (pre ++ mid ++ post) pre.length (pre.length + mid.length) b = pre ++ b ++ post:=by
 have h1 : (pre ++ mid ++ post).take pre.length = pre:=by rw [List.append_assoc]; exact List.take_left' rfl
 have h2 : (pre ++ mid ++ post).drop (pre.length + mid.length) = post:=by rw [← List.length_append]; exact List.drop_left' rfl
 unfold splS;rw [h1,h2]
theorem zVy (pre mid post : List Nd) : segS (pre ++ mid ++ post) pre.length (pre.length + mid.length) = mid:=by
 unfold segS;rw [← List.length_append,List.take_left' rfl,List.drop_left' rfl]
theorem Good.del {t : Nd} {p : List Int} {pre post : List Nd} {x : Nd} (h : Good t p (pre ++ x :: post)) : App t (zF9 p pre.length x) (putL t p (rowN (pre ++ post))) 0 ∧ Good (putL t p (rowN (pre ++ post))) p (pre ++ post):=by
 obtain ⟨r1,r2,r3,r4,r5⟩:=h.row;have hv : zAL (rowN [x]) = true:=zTb r1 (x:=x) (by simp) (by omega) (by omega)
 have e : pre ++ x :: post = pre ++ [x] ++ post:=by simp
 have hc : Chg (rowN (pre ++ x :: post)).kids (zF9 p pre.length x) (pre ++ post) 0:=by
  have:=Chg.del (l:=pre ++ [x] ++ post) (row:=p) (p:=pre.length) (m:=0) (nodes:=[x]) (slot:=0) (old:=[]) (text:=[]) (by simp) (zVy pre [x] post)
  rw [show pre.length + [x].length = pre.length + [x].length from rfl,zQV,List.append_nil] at this;rw [e]
  exact this
 have g : Good (putL t p (rowN (pre ++ post))) p (pre ++ post):=by
  obtain ⟨f1,f2⟩:=zD4.1 r1;simp only [zBf,Bool.and_eq_true] at f2;refine h.put (zD4.2 ⟨f1,f2.2⟩) (by simp only [List.length_append,List.length_cons] at r2 ⊢; omega) ?_ ?_
  ·have : Nd.deps (pre ++ post) ≤ Nd.deps (pre ++ x :: post):=by
    rw [zKx,zKx]
    exact Nat.max_le.2 ⟨Nat.le_max_left _ _,Nat.le_trans (by simp only [Nd.deps]; exact Nat.le_max_right _ _) (Nat.le_max_right _ _)⟩
   omega
  ·simp only [Nd.cnts_append,Nd.cnts]; omega
 exact ⟨.ok h.1 (.inl ⟨.inr rfl,by simp,hv,rfl,rfl,rfl,rfl⟩) h.2 hc g.1,g⟩
theorem zGI {t u v : Nd} {a b : List Op8} {e e' : Int} (h : Runs t a u e) (he : e = 0) (h2 : Runs u b v e') : Runs t (a ++ b) v e':=by
 induction h with
 | nil t => exact h2
 | stop h he' => exact absurd he he'
 | next h _ ih => exact .next h (ih he h2)
inductive Mv where | mat | del | ins
inductive Sc : List Mv → List Nd → List Nd → Prop
 | nil : Sc [] [] []
 | mat {s : List Mv} {x y : Nd} {xs ys : List Nd} (ha : zBS x y = true) (h : Sc s xs ys) : Sc (.mat :: s) (x :: xs) (y :: ys)
 | del {s : List Mv} {x : Nd} {xs b : List Nd} (h : Sc s xs b) : Sc (.del :: s) (x :: xs) b
 | ins {s : List Mv} {y : Nd} {a ys : List Nd} (h : Sc s a ys) : Sc (.ins :: s) a (y :: ys)
def reI (v : Nd) (ks : List Nd) : Nd:=.mk v.kind v.text v.cols ks
abbrev RowR:=List Nd → List Nd → List Nd
abbrev RowO:=List Int → List Nd → List Nd → List Op8
def slotL (F : RowR) : List Nd → List Nd → List Nd
 | u :: us,v :: vs => rowN (F u.kids v.kids) :: slotL F us vs
 | _,_ => []
def delW (F : RowR) : List Mv → List Nd → List Nd → List Nd
 | .mat :: s,x :: xs,y :: ys => reI x (slotL F x.kids y.kids) :: delW F s xs ys
 | .del :: s,_ :: xs,b => delW F s xs b
 | .ins :: s,a,_ :: ys => delW F s a ys
 | _,_,_ => []
def zCR (G : RowO) (p : List Int) (i : Nat) : Nat → List Nd → List Nd → List Op8
 | s,u :: us,v :: vs => zCR G p i (s + 1) us vs ++ G (p ++ [(i : Int),(s : Int)]) u.kids v.kids
 | _,_,_ => []
def zDA (G : RowO) (p : List Int) : Nat → List Mv → List Nd → List Nd → List Op8
 | i,.mat :: s,x :: xs,y :: ys => zDA G p (i + 1) s xs ys ++ zCR G p i 0 x.kids y.kids
 | i,.del :: s,x :: xs,b => zDA G p (i + 1) s xs b ++ [zF9 p i x]
 | i,.ins :: s,a,_ :: ys => zDA G p i s a ys
 | _,_,_,_ => []
def Does (G : RowO) (F : RowR) (a b : List Nd) : Prop:=∀ t q,Good t q a → Runs t (G q a b) (putL t q (rowN (F a b))) 0 ∧ Good (putL t q (rowN (F a b))) q (F a b)
theorem Good.slot {t : Nd} {p : List Int} {pre post pk us : List Nd} {v u : Nd} (h : Good t p (pre ++ reI v (pk ++ u :: us) :: post)) : u = rowN u.kids ∧ Good t (p ++ [(pre.length : Int),(pk.length : Int)]) u.kids ∧
  ∀ r,putL t (p ++ [(pre.length : Int),(pk.length : Int)]) r = putL t p (rowN (pre ++ reI v (pk ++ r :: us) :: post)):=by
 obtain ⟨r1,_⟩:=h.row;obtain ⟨_,f2⟩:=zD4.1 r1;have hit : (pre ++ reI v (pk ++ u :: us) :: post)[pre.length]? = some (.mk v.kind v.text v.cols (pk ++ u :: us)):=by simp [reI]
 have hsl : (pk ++ u :: us)[pk.length]? = some u:=by simp
 obtain ⟨_,hu⟩:=zKI r1 (List.mem_of_getElem? hit) (s:=pk.length) (z:=u) hsl;have fd : Fd (rowN (pre ++ reI v (pk ++ u :: us) :: post)) [(pre.length : Int),(pk.length : Int)] u:=.step hit hsl (.nil u)
 refine ⟨hu,⟨h.1,?_⟩,fun r => ?_⟩
 ·rw [← hu]
  exact zVO h.2 fd
 ·rw [zVs h.2]
  congr 1
  have:=zB8 (k:=1) (tx:=[]) (c:=0) (r:=r) (p:=[]) hit hsl;rw [zDd] at this;refine this.trans ?_;unfold rowN
  congr 1
  rw [List.set_append_right _ _ (Nat.le_refl _),Nat.sub_self,List.set_cons_zero,List.set_append_right _ _ (Nat.le_refl _),Nat.sub_self,List.set_cons_zero]
  rfl
theorem zNc {G : RowO} {F : RowR} {p : List Int} {pre post : List Nd} {x : Nd} : ∀ (us vs pk : List Nd) (t : Nd),us.length = vs.length → (∀ u ∈ us,∀ v ∈ vs,Does G F u.kids v.kids) → Good t p (pre ++ reI x (pk ++ us) :: post) →
  Runs t (zCR G p pre.length pk.length us vs) (putL t p (rowN (pre ++ reI x (pk ++ slotL F us vs) :: post))) 0 ∧ Good (putL t p (rowN (pre ++ reI x (pk ++ slotL F us vs) :: post))) p (pre ++ reI x (pk ++ slotL F us vs) :: post)
 | [],[],pk,t,_,_,h => by
  simp only [zCR,slotL]
  rw [h.2.put_self]
  exact ⟨.nil _,h⟩
 | [],_ :: _,_,_,hl,_,_ => by cases hl
 | _ :: _,[],_,_,hl,_,_ => by cases hl
 | u :: us,v :: vs,pk,t,hl,hD,h => by
  have e : pk ++ u :: us = (pk ++ [u]) ++ us:=by simp
  rw [e] at h;obtain ⟨h1,h2⟩:=zNc us vs (pk ++ [u]) t (by simpa using hl) (fun u hu v hv => hD u (List.mem_cons_of_mem _ hu) v (List.mem_cons_of_mem _ hv)) h;have e2 : (pk ++ [u]) ++ slotL F us vs = pk ++ u :: slotL F us vs:=by simp
  rw [e2] at h1 h2;obtain ⟨_,g2,g3⟩:=h2.slot;obtain ⟨k1,k2⟩:=hD u List.mem_cons_self v List.mem_cons_self _ _ g2;rw [g3,h.2.put_put] at k1 k2;simp only [zCR,slotL]
  rw [List.length_append,List.length_singleton] at h1;refine ⟨zGI h1 rfl k1,⟨k2.1,h.2.put _⟩⟩
theorem zN4 (x : Nd) : reI x x.kids = x:=by cases x; rfl
theorem del_walk {G : RowO} {F : RowR} {p : List Int} {s : List Mv} {a b : List Nd} (hs : Sc s a b) : (∀ x ∈ a,∀ y ∈ b,∀ u ∈ x.kids,∀ v ∈ y.kids,Does G F u.kids v.kids) → ∀ (pre : List Nd) (t : Nd),Good t p (pre ++ a) →
  Runs t (zDA G p pre.length s a b) (putL t p (rowN (pre ++ delW F s a b))) 0 ∧ Good (putL t p (rowN (pre ++ delW F s a b))) p (pre ++ delW F s a b):=by
 induction hs with
 | nil =>
  intro _ pre t h;simp only [zDA,delW]
  rw [h.2.put_self]
  exact ⟨.nil _,h⟩
 | @mat s x y xs ys ha _ ih =>
  intro hD pre t h;have e : pre ++ x :: xs = (pre ++ [x]) ++ xs:=by simp
  have h':=h;rw [e] at h';obtain ⟨h1,h2⟩:=ih (fun x hx y hy => hD x (List.mem_cons_of_mem _ hx) y (List.mem_cons_of_mem _ hy)) (pre ++ [x]) t h';have e2 : (pre ++ [x]) ++ delW F s xs ys = pre ++ x :: delW F s xs ys:=by simp
  rw [e2] at h1 h2;rw [List.length_append,List.length_singleton] at h1;have h3 : Good (putL t p (rowN (pre ++ x :: delW F s xs ys))) p (pre ++ reI x ([] ++ x.kids) :: delW F s xs ys):=by
   rw [List.nil_append,zN4]; exact h2
  obtain ⟨k1,k2⟩:=zNc (G:=G) (F:=F) (p:=p) (pre:=pre) (post:=delW F s xs ys) (x:=x) x.kids y.kids [] _ (zIP.1 ha).2.1 (hD x List.mem_cons_self y List.mem_cons_self) h3;rw [List.nil_append,List.length_nil] at k1;rw [List.nil_append] at k2;rw [h.2.put_put] at k1 k2;simp only [zDA,delW]
  exact ⟨zGI h1 rfl k1,k2⟩
 | @del s x xs b _ ih =>
  intro hD pre t h;have e : pre ++ x :: xs = (pre ++ [x]) ++ xs:=by simp
  have h':=h;rw [e] at h';obtain ⟨h1,h2⟩:=ih (fun x hx y hy => hD x (List.mem_cons_of_mem _ hx) y hy) (pre ++ [x]) t h';have e2 : (pre ++ [x]) ++ delW F s xs b = pre ++ x :: delW F s xs b:=by simp
  rw [e2] at h1 h2;rw [List.length_append,List.length_singleton] at h1;obtain ⟨k1,k2⟩:=h2.del;rw [h.2.put_put] at k1 k2;simp only [zDA,delW]
  exact ⟨zGI h1 rfl (.next k1 (.nil _)),k2⟩
 | @ins s y a ys _ ih =>
  intro hD pre t h;simp only [zDA,delW]
  exact ih (fun x hx y hy => hD x hx y (List.mem_cons_of_mem _ hy)) pre t h
end Go.Proofs.YtjdhkpdjecegnaaGreatDoor
namespace Go.Proofs.YtjdhkpdjecegnaaGreatDoor
open Go.Abs
def setO (p : List Int) (j : Nat) (x y : Nd) : List Op8:=if x.text = y.text then [] else [zJK p j x.text y.text]
def zCQ (G : RowO) (p : List Int) (j : Nat) : Nat → List Nd → List Nd → List Op8
 | s,u :: us,v :: vs => G (p ++ [(j : Int),(s : Int)]) u.kids v.kids ++ zCQ G p j (s + 1) us vs
 | _,_,_ => []
def zDy (G : RowO) (p : List Int) : Nat → List Mv → List Nd → List Nd → List Op8
 | j,.mat :: s,x :: xs,y :: ys => setO p j x y ++ (zCQ G p j 0 x.kids y.kids ++ zDy G p (j + 1) s xs ys)
 | j,.del :: s,_ :: xs,b => zDy G p j s xs b
 | j,.ins :: s,a,y :: ys => zFv p j y :: zDy G p (j + 1) s a ys
 | _,_,_,_ => []
def zV8 (t : Nd) (q : List Int) (b : List Nd) : Prop:=t.cnt + Nd.cnts b ≤ 1000 ∧ zBf 1 b = true ∧ b.length ≤ 200 ∧ Nd.deps b + 1 + q.length ≤ 24
def zU6 (G : RowO) (F : RowR) (a b : List Nd) : Prop:=∀ t q,Good t q (F a b) → zV8 t q b → Runs t (G q a b) (putL t q (rowN b)) 0 ∧ Good (putL t q (rowN b)) q b
theorem zTG {k : Int} {t1 t2 : List UInt8} (h1 : zIx k t1 = true) (h2 : zIx k t2 = true) (hne : t1 ≠ t2) : zQw k = true:=by
 unfold zIx at h1 h2;unfold zQw
 by_cases e2 : k = 2
 ·subst e2; rfl
 ·by_cases e3 : k = 3
  ·subst e3; rfl
  ·by_cases e4 : k = 4
   ·subst e4; rfl
   ·by_cases e10 : k = 10
    ·subst e10; rfl
    ·by_cases e11 : k = 11
     ·subst e11; rfl
     ·rw [if_neg e2,if_neg e3,if_neg e4,if_neg e10,if_neg e11] at h1 h2;exact absurd ((eq_of_beq h1).trans (eq_of_beq h2).symm) hne
theorem zMP {v : Nd} (h : zCa v = true) : zIx v.kind v.text = true ∧ zET v.kind v.cols (v.kids.length : Int) = true ∧ zBf v.kind v.kids = true:=by
 cases v;simp only [zCa,Bool.and_eq_true] at h;exact ⟨h.1.1,h.1.2,h.2⟩
theorem zVi {k : Int} {t : List UInt8} {c : Int} {ks : List Nd} (h1 : zIx k t = true) (h2 : zET k c (ks.length : Int) = true) (h3 : zBf k ks = true) : zCa (.mk k t c ks) = true:=by
 simp only [zCa,Bool.and_eq_true]
 exact ⟨⟨h1,h2⟩,h3⟩
theorem Good.cnt_put {t : Nd} {p : List Int} {l : List Nd} (h : Good t p l) (l' : List Nd) : (putL t p (rowN l')).cnt + Nd.cnts l = t.cnt + Nd.cnts l':=by
 have:=h.2.cnt (rowN l')
 rw [zEY,zEY] at this
 omega
theorem zDT {x : Nd} {l : List Nd} {D : Nat} : Nd.deps (x :: l) ≤ D ↔ x.dep ≤ D ∧ Nd.deps l ≤ D:=by
 simp only [Nd.deps]
 exact Nat.max_le
theorem zGt {a b : List Nd} {D : Nat} : Nd.deps (a ++ b) ≤ D ↔ Nd.deps a ≤ D ∧ Nd.deps b ≤ D:=by
 rw [zKx]
 exact Nat.max_le
theorem Good.repl {t : Nd} {p : List Int} {pre post : List Nd} {x x' : Nd} (h : Good t p (pre ++ x :: post)) (hf : zCa x' = true) (hk : x'.kind = x.kind) (hd : x'.dep + 1 + p.length ≤ 24) (hc : t.cnt + x'.cnt ≤ 1000 + x.cnt) : Good (putL t p (rowN (pre ++ x' :: post))) p (pre ++ x' :: post):=by
 obtain ⟨r1,r2,r3,r4,r5⟩:=h.row;obtain ⟨f1,f2⟩:=zD4.1 r1;refine h.put ?_ (by simpa using r2) ?_ ?_
 ·refine zD4.2 ⟨f1,?_⟩
  simp only [zBf,Bool.and_eq_true] at f2 ⊢;rw [hk]
  exact ⟨⟨f2.1.1,hf⟩,f2.2⟩
 ·have h1 : Nd.deps (pre ++ x :: post) ≤ 23 - p.length:=by omega
  obtain ⟨d1,d2⟩:=zGt.1 h1;obtain ⟨d3,d4⟩:=zDT.1 d2;have : Nd.deps (pre ++ x' :: post) ≤ 23 - p.length:=zGt.2 ⟨d1,zDT.2 ⟨by omega,d4⟩⟩
  omega
 ·simp only [Nd.cnts_append,Nd.cnts]; omega
theorem Good.setT {t : Nd} {p : List Int} {pre post : List Nd} {x : Nd} {text : List UInt8} (h : Good t p (pre ++ x :: post)) (ht : zIx x.kind text = true) (hne : x.text ≠ text) :
  App t (zJK p pre.length x.text text) (putL t p (rowN (pre ++ .mk x.kind text x.cols x.kids :: post))) 0 ∧ Good (putL t p (rowN (pre ++ .mk x.kind text x.cols x.kids :: post))) p (pre ++ .mk x.kind text x.cols x.kids :: post):=by
 obtain ⟨r1,r2,r3,r4,r5⟩:=h.row;obtain ⟨f1,f2⟩:=zD4.1 r1;simp only [zBf,Bool.and_eq_true] at f2;obtain ⟨p1,p2,p3⟩:=zMP f2.1.2;have e1 : (Nd.mk x.kind text x.cols x.kids).dep = x.dep:=by cases x; rfl
 have e2 : (Nd.mk x.kind text x.cols x.kids).cnt = x.cnt:=by cases x; rfl
 have hd : x.dep ≤ Nd.deps (pre ++ x :: post):=zD3 (by simp)
 have g : Good (putL t p (rowN (pre ++ .mk x.kind text x.cols x.kids :: post))) p (pre ++ .mk x.kind text x.cols x.kids :: post) :=
  h.repl (zVi ht p2 p3) rfl (by rw [e1]; omega) (by rw [e2]; omega)
 have hc : Chg (rowN (pre ++ x :: post)).kids (zJK p pre.length x.text text) (pre ++ .mk x.kind text x.cols x.kids :: post) 0:=by
  have:=Chg.set (l:=pre ++ [x] ++ post) (row:=p) (p:=pre.length) (m:=0) (nodes:=[]) (it:=x) (slot:=0) (old:=x.text) (text:=text) (by simp) (zTG p1 ht hne) rfl;have e:=zQV pre [x] post [.mk x.kind text x.cols x.kids]
  rw [List.length_singleton] at e;rw [e] at this;have e3 : pre ++ [x] ++ post = pre ++ x :: post:=by simp
  have e4 : pre ++ [Nd.mk x.kind text x.cols x.kids] ++ post = pre ++ .mk x.kind text x.cols x.kids :: post:=by simp
  rw [e3,e4] at this;exact this
 exact ⟨.ok h.1 (.inr (.inr ⟨rfl,hne,rfl,rfl,rfl⟩)) h.2 hc g.1,g⟩
theorem Good.insI {t : Nd} {p : List Int} {pre post : List Nd} {y : Nd} (h : Good t p (pre ++ post)) (hf : zCa y = true) (hk : ((y.kind == 1) == ((1 : Int) == 1)) = false) (hl : pre.length + post.length + 1 ≤ 200) (hd : y.dep + 1 + p.length ≤ 24) (hc : t.cnt + y.cnt ≤ 1000) :
  App t (zFv p pre.length y) (putL t p (rowN (pre ++ y :: post))) 0 ∧ Good (putL t p (rowN (pre ++ y :: post))) p (pre ++ y :: post):=by
 obtain ⟨r1,r2,r3,r4,r5⟩:=h.row;obtain ⟨f1,f2⟩:=zD4.1 r1;have hy : zBf 1 [y] = true:=by
  show ((!((y.kind == 1) == ((1 : Int) == 1)) && zCa y) && true) = true;rw [hk,hf]; rfl
 have hv : zAL (rowN [y]) = true:=by
  have:=t.cnt_pos;refine zOg rfl (zN5 hy (by simp)) (by rw [zEY]; simp only [Nd.cnts]; omega) (by rw [zKF]; simp only [Nd.deps]; exact Nat.succ_le_succ (Nat.max_le.2 ⟨by omega,Nat.zero_le _⟩))
 have g : Good (putL t p (rowN (pre ++ y :: post))) p (pre ++ y :: post):=by
  refine h.put ?_ (by simp only [List.length_append,List.length_cons]; omega) ?_ ?_
  ·refine zD4.2 ⟨f1,?_⟩
   simp only [zBf,Bool.and_eq_true]
   exact ⟨⟨by rw [hk]; rfl,hf⟩,f2⟩
  ·have h1 : Nd.deps (pre ++ post) ≤ 23 - p.length:=by omega
   obtain ⟨d1,d2⟩:=zGt.1 h1;have : Nd.deps (pre ++ y :: post) ≤ 23 - p.length:=zGt.2 ⟨d1,zDT.2 ⟨by omega,d2⟩⟩
   omega
  ·simp only [Nd.cnts_append,Nd.cnts]; omega
 have hc' : Chg (rowN (pre ++ post)).kids (zFv p pre.length y) (pre ++ y :: post) 0:=by
  have:=Chg.ins (l:=pre ++ [] ++ post) (row:=p) (p:=pre.length) (m:=0) (nodes:=[y]) (slot:=0) (old:=[]) (text:=[]) (by simp)
  have e:=zQV pre [] post [y]
  rw [List.length_nil,Nat.add_zero] at e;rw [e] at this;have e3 : pre ++ [] ++ post = pre ++ post:=by simp
  have e4 : pre ++ [y] ++ post = pre ++ y :: post:=by simp
  rw [e3,e4] at this;exact this
 exact ⟨.ok h.1 (.inl ⟨.inl rfl,by simp,hv,rfl,rfl,rfl,rfl⟩) h.2 hc' g.1,g⟩
theorem zLR {G : RowO} {F : RowR} {p : List Int} {pre post : List Nd} {y : Nd} : ∀ (us vs pk : List Nd) (t : Nd),us.length = vs.length → (∀ u ∈ us,∀ v ∈ vs,zU6 G F u.kids v.kids) → (∀ v ∈ vs,zCa v = true ∧ v = rowN v.kids) → t.cnt + Nd.cnts vs ≤ 1000 → Nd.deps vs + 2 + p.length ≤ 24 →
  Good t p (pre ++ reI y (pk ++ slotL F us vs) :: post) →
  Runs t (zCQ G p pre.length pk.length us vs) (putL t p (rowN (pre ++ reI y (pk ++ vs) :: post))) 0 ∧ Good (putL t p (rowN (pre ++ reI y (pk ++ vs) :: post))) p (pre ++ reI y (pk ++ vs) :: post)
 | [],[],pk,t,_,_,_,_,_,h => by
  simp only [zCQ,slotL] at h ⊢;rw [h.2.put_self]
  exact ⟨.nil _,h⟩
 | [],_ :: _,_,_,hl,_,_,_,_,_ => by cases hl
 | _ :: _,[],_,_,hl,_,_,_,_,_ => by cases hl
 | u :: us,v :: vs,pk,t,hl,hD,hv,hc,hd,h => by
  simp only [slotL] at h;obtain ⟨g1,g2,g3⟩:=h.slot;have g1' : (rowN (F u.kids v.kids)).kids = F u.kids v.kids:=rfl;rw [g1'] at g2;obtain ⟨v1,v2⟩:=hv v List.mem_cons_self;have hvf : zCa (rowN v.kids) = true:=by rw [← v2]; exact v1
  have cv:=v.cnt_kids;have dv : v.dep = Nd.deps v.kids + 1:=by cases v; rfl
  simp only [Nd.cnts] at hc;have hdd : Nd.deps (v :: vs) ≤ 22 - p.length:=by omega
  obtain ⟨hd1,hd2⟩:=zDT.1 hdd;obtain ⟨k1,k2⟩:=hD u List.mem_cons_self v List.mem_cons_self _ _ g2 ⟨by omega,(zGw hvf rfl).2,zRt hvf,by simp only [List.length_append,List.length_cons,List.length_nil]; omega⟩
  have hcn:=g2.cnt_put v.kids;rw [g3,← v2] at k1;rw [g3,← v2] at k2;rw [g3,← v2] at hcn;have g4 : Good (putL t p (rowN (pre ++ reI y (pk ++ v :: slotL F us vs) :: post))) p (pre ++ reI y ((pk ++ [v]) ++ slotL F us vs) :: post):=by
   refine ⟨k2.1,?_⟩
   have e : (pk ++ [v]) ++ slotL F us vs = pk ++ v :: slotL F us vs:=by simp
   rw [e]
   exact h.2.put _
  obtain ⟨m1,m2⟩:=zLR us vs (pk ++ [v]) _ (by simpa using hl) (fun u hu v hv => hD u (List.mem_cons_of_mem _ hu) v (List.mem_cons_of_mem _ hv)) (fun v h => hv v (List.mem_cons_of_mem _ h)) (by omega) (by omega) g4;have e2 : (pk ++ [v]) ++ vs = pk ++ v :: vs:=by simp
  rw [e2,h.2.put_put,List.length_append,List.length_singleton] at m1;rw [e2,h.2.put_put] at m2;simp only [zCQ]
  exact ⟨zGI k1 rfl m1,m2⟩
theorem zT2 (F : RowR) {s : List Mv} {a b : List Nd} (h : Sc s a b) : (delW F s a b).length ≤ b.length:=by
 induction h with
 | nil => exact Nat.zero_le _
 | mat ha h ih => simp only [delW,List.length_cons]; omega
 | del h ih => simp only [delW]; exact ih
 | ins h ih => simp only [delW,List.length_cons]; omega
theorem zTX {G : RowO} {F : RowR} {p : List Int} {s : List Mv} {a b : List Nd} (hs : Sc s a b) : (∀ x ∈ a,∀ y ∈ b,∀ u ∈ x.kids,∀ v ∈ y.kids,zU6 G F u.kids v.kids) → zBf 1 b = true → Nd.deps b + 1 + p.length ≤ 24 → ∀ (pre : List Nd) (t : Nd),Good t p (pre ++ delW F s a b) → t.cnt + Nd.cnts b ≤ 1000 → pre.length + b.length ≤ 200 →
  Runs t (zDy G p pre.length s a b) (putL t p (rowN (pre ++ b))) 0 ∧ Good (putL t p (rowN (pre ++ b))) p (pre ++ b):=by
 induction hs with
 | nil =>
  intro _ _ _ pre t h _ _;simp only [zDy,delW] at h ⊢;rw [h.2.put_self]
  exact ⟨.nil _,h⟩
 | @mat s x y xs ys ha hsc ih =>
  intro hD hf hd pre t h hc hlen;obtain ⟨a1,a2,a3⟩:=zIP.1 ha;simp only [delW] at h;simp only [zBf,Bool.and_eq_true,Bool.not_eq_true'] at hf;obtain ⟨⟨hfk,hfy⟩,hfs⟩:=hf;obtain ⟨y1,y2,y3⟩:=zMP hfy;have cy:=y.cnt_kids;have dy : y.dep = Nd.deps y.kids + 1:=by cases y; rfl
  simp only [Nd.cnts] at hc;have hdd : Nd.deps (y :: ys) ≤ 23 - p.length:=by omega
  obtain ⟨hd1,hd2⟩:=zDT.1 hdd;have hky : y.kind ≠ 1:=fun e => by rw [e] at hfk; cases hfk
  have key : Runs t (setO p pre.length x y) (putL t p (rowN (pre ++ reI y (slotL F x.kids y.kids) :: delW F s xs ys))) 0 ∧ Good (putL t p (rowN (pre ++ reI y (slotL F x.kids y.kids) :: delW F s xs ys))) p (pre ++ reI y (slotL F x.kids y.kids) :: delW F s xs ys):=by
   have e : ∀ tx,Nd.mk x.kind tx x.cols (slotL F x.kids y.kids) = Nd.mk y.kind tx y.cols (slotL F x.kids y.kids):=fun tx => by rw [a1,a3]
   unfold setO
   by_cases ht : x.text = y.text
   ·rw [if_pos ht]
    have : reI y (slotL F x.kids y.kids) = reI x (slotL F x.kids y.kids):=by unfold reI; rw [e,ht]
    rw [this,h.2.put_self]
    exact ⟨.nil _,h⟩
   ·rw [if_neg ht]
    obtain ⟨k1,k2⟩:=h.setT (text:=y.text) (show zIx x.kind y.text = true by rw [a1]; exact y1) ht;have : (Nd.mk (reI x (slotL F x.kids y.kids)).kind y.text (reI x (slotL F x.kids y.kids)).cols (reI x (slotL F x.kids y.kids)).kids) = reI y (slotL F x.kids y.kids):=e y.text;rw [this] at k1 k2;exact ⟨.next k1 (.nil _),k2⟩
  obtain ⟨k1,k2⟩:=key;have hcn:=h.cnt_put (pre ++ reI y (slotL F x.kids y.kids) :: delW F s xs ys)
  have e1 : (reI y (slotL F x.kids y.kids)).cnt = (reI x (slotL F x.kids y.kids)).cnt:=rfl;simp only [Nd.cnts_append,Nd.cnts,e1] at hcn;have k2' : Good (putL t p (rowN (pre ++ reI y (slotL F x.kids y.kids) :: delW F s xs ys))) p (pre ++ reI y ([] ++ slotL F x.kids y.kids) :: delW F s xs ys):=k2;obtain ⟨m1,m2⟩:=zLR (G:=G) (F:=F) (p:=p) (pre:=pre) (post:=delW F s xs ys) (y:=y) x.kids y.kids [] _ a2 (hD x List.mem_cons_self y List.mem_cons_self) (fun v hv => by
   obtain ⟨q1,q2⟩:=zCN y3 hv;rw [zC2 hky] at q2;have kv : v.kind = 1:=by cases e : v.kind == 1 with | true => exact eq_of_beq e | false => rw [e] at q2; cases q2
   exact ⟨q1,(zGw q1 kv).1⟩) (by omega) (by omega) k2'
  rw [List.nil_append,zN4,h.2.put_put,List.length_nil] at m1;rw [List.nil_append,zN4,h.2.put_put] at m2;have hcn2:=h.cnt_put (pre ++ y :: delW F s xs ys)
  simp only [Nd.cnts_append,Nd.cnts] at hcn2;have e2 : pre ++ y :: delW F s xs ys = (pre ++ [y]) ++ delW F s xs ys:=by simp
  have m2':=m2;rw [e2] at m2';simp only [List.length_cons] at hlen;obtain ⟨n1,n2⟩:=ih (fun x hx y hy => hD x (List.mem_cons_of_mem _ hx) y (List.mem_cons_of_mem _ hy)) hfs (by omega) (pre ++ [y]) _ m2' (by rw [← e2]; omega) (by simp only [List.length_append,List.length_cons,List.length_nil]; omega)
  have e3 : (pre ++ [y]) ++ ys = pre ++ y :: ys:=by simp
  rw [← e2,e3,h.2.put_put,List.length_append,List.length_singleton] at n1;rw [← e2,e3,h.2.put_put] at n2;simp only [zDy]
  exact ⟨zGI k1 rfl (zGI m1 rfl n1),n2⟩
 | @del s x xs b _ ih =>
  intro hD hf hd pre t h hc hlen;simp only [zDy,delW] at h ⊢;exact ih (fun x hx y hy => hD x (List.mem_cons_of_mem _ hx) y hy) hf hd pre t h hc hlen
 | @ins s y a ys hsc ih =>
  intro hD hf hd pre t h hc hlen;simp only [delW] at h;simp only [zBf,Bool.and_eq_true,Bool.not_eq_true'] at hf;obtain ⟨⟨hfk,hfy⟩,hfs⟩:=hf;simp only [Nd.cnts] at hc;have hdd : Nd.deps (y :: ys) ≤ 23 - p.length:=by omega
  obtain ⟨hd1,hd2⟩:=zDT.1 hdd;have hy1 : 1 ≤ y.dep:=y.dep_pos;have hl:=zT2 F hsc;simp only [List.length_cons] at hlen;obtain ⟨k1,k2⟩:=h.insI hfy hfk (by omega) (by omega) (by omega)
  have hcn:=h.cnt_put (pre ++ y :: delW F s a ys)
  simp only [Nd.cnts_append,Nd.cnts] at hcn;have e2 : pre ++ y :: delW F s a ys = (pre ++ [y]) ++ delW F s a ys:=by simp
  have k2':=k2;rw [e2] at k2';obtain ⟨n1,n2⟩:=ih (fun x hx y hy => hD x hx y (List.mem_cons_of_mem _ hy)) hfs (by omega) (pre ++ [y]) _ k2' (by rw [← e2]; omega) (by simp only [List.length_append,List.length_cons,List.length_nil]; omega)
  have e3 : (pre ++ [y]) ++ ys = pre ++ y :: ys:=by simp
  rw [← e2,e3,h.2.put_put,List.length_append,List.length_singleton] at n1;rw [← e2,e3,h.2.put_put] at n2;simp only [zDy]
  exact ⟨.next k1 n1,n2⟩
end Go.Proofs.YtjdhkpdjecegnaaGreatDoor
