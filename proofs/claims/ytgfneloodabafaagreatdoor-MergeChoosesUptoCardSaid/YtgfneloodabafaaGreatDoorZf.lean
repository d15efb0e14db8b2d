/-
  Joined out of: MzVE, MzVF, PTyp9, PCnt, PByte, PText, PVal, PDist, PDump, PFill, PMet, PNode, PAlign, PMrg1, PMrg2, PMrg3, PMrg4, PMrg5.
-/
import Derived.Lib.ItoaLen
import Derived.Test.YtgfneloodabafaaGreatDoorZe
set_option linter.unusedVariables false
set_option linter.unusedSimpArgs false
set_option maxHeartbeats 2000000
set_option maxRecDepth 100000
namespace Go.Proofs.YtgfneloodabafaaGreatDoor
open Go.Abs
def zPi (n : Nat) (xs : List AV) (r : Ret) : Prop:=∃ (a0 : List Nd) (a1 : List Nd) (y0 : List (Int × Int)),zEd n a0 a1 = some y0 ∧ xs = [.s (.sl 4 (Nd.encs a0)),.s (.sl 4 (Nd.encs a1))] ∧ r = .row 98 2 ((List.map zAt) y0)
def zJ7 : zAB:=zAJ fun xs r => ∃ n,zPi n xs r
theorem zOx : PSound Tryz.prog 43 zJ7:=by
 have gok : ∀ f s,look? f [(67,zJ8),(32,zF6),(68,zHB),(69,zLD),(70,zLy)] = some s → PSound Tryz.prog f s:=zAE (by
  simp only [List.forall_mem_cons]
  exact ⟨zOy,zGL,zJp,zPE,zPz,by simp⟩)
 refine zAT tokW Tryz.call43 Tryz.func43 rfl (fun xs r h => by obtain ⟨n,_,_,_,_,rfl,_⟩:=h; show 2 ≤ 141; decide) 141 rfl ?_
 rintro xs r w0 G0 ⟨n,a1,a2,y0,h,rfl,rfl⟩ _
 rw [zEd] at h
 refine zAb ?_
 refine zAa (by exact tokW) (by exact gok) [4] [] rfl ?_
 show Tri _ _ _ _
 refine zAk (Le.rename [] [(0,.s (.sl 4 (Nd.encs a1))),(1,.s (.sl 4 (Nd.encs a2)))] [] 0 ⟨rfl,rfl,trivial⟩ trivial rfl rfl rfl rfl rfl) ?_
 refine zAb ?_
 refine zAa (by exact tokW) (by exact gok) [] [] rfl ?_
 obtain ⟨y3,hy3,h⟩:=zAc h
 refine ⟨_,⟨_,_,_,_,hy3,rfl,rfl⟩,?_⟩
 show Tri _ _ _ _
 refine zAb ?_
 refine zAa (by exact tokW) (by exact gok) [6] [] rfl ?_
 show Tri _ _ _ _
 refine zAk (Le.rename [(0,0)] [(0,.s (.sl 4 (Nd.encs a1))),(1,.s (.sl 4 (Nd.encs a2))),(5,.s (.sl 1 ((List.map zAw) y3))),(6,.orow 0)] [(0,.row 98 2 ((List.map zAt) []))] 1 ⟨rfl,rfl,rfl,rfl,trivial⟩ ⟨rfl,⟨_,rfl,congrArg (Ob.row 98 2) (by simp [List.map_append,List.map_take,List.map_drop,irow,brow,zAC,List.map_cons,List.map_nil,zAz,Nd.encs_eq,Nd.enc,zAg,zAe,zAh,zAo,zAw,zAl,zAt,zAd,zAu,zAm,zAO])⟩,trivial⟩ rfl rfl rfl rfl rfl) ?_
 refine zAb ?_
 refine zAa (by exact tokW) (by exact gok) [] [] rfl ?_
 show Tri _ _ _ _
 refine zAb ?_
 obtain ⟨l8,hl,h⟩:=zAc h
 refine zAp ⟨ofL [(6,.orow 0)],ofH [(0,.row 98 2 ((List.map zAt) l8))],1⟩ ?_ (fun σ' hle => ?_)
 ·refine zAn (zAG (X:=Nat × Int × Int × (List (Int × Int))) (fun y => match y with | (k,x5,x6,l7) => ⟨ofL [(0,.s (.sl 4 (Nd.encs a1))),(1,.s (.sl 4 (Nd.encs a2))),(5,.s (.sl 1 ((List.map zAw) y3))),(6,.orow 0),(7,.s (.int .i64 x5)),(8,.s (.int .i64 x6))],ofH [(0,.row 98 2 ((List.map zAt) l7))],1⟩) (fun y => zBe n a1 a2 y3 y.1 y.2.1 y.2.2.1 y.2.2.2 = some l8) (fun y => y.1) (n,0,0,[]) hl ?_ ?_)
  ·exact (Le.rename [(0,0)] _ _ _ ⟨rfl,rfl,rfl,rfl,rfl,rfl,trivial⟩ ⟨rfl,⟨_,rfl,rfl⟩,trivial⟩ rfl rfl rfl rfl rfl)
  ·rintro ⟨k,x5,x6,l7⟩ h
   cases k with
   | zero => cases h
   | succ k =>
    replace h : zBe n a1 a2 y3 (k+1) x5 x6 l7 = some l8:=h
    rw [zBe] at h
    refine zAb ?_
    refine zAb ?_
    obtain ⟨x9,hj,h⟩:=zAc h
    refine zAp ⟨ofL [(0,.s (.sl 4 (Nd.encs a1))),(1,.s (.sl 4 (Nd.encs a2))),(5,.s (.sl 1 ((List.map zAw) y3))),(6,.orow 0),(7,.s (.int .i64 x5)),(8,.s (.int .i64 x6)),(23,.s (.bool x9))],ofH [(0,.row 98 2 ((List.map zAt) l7))],1⟩ ?_ (fun σ' hle => ?_)
    ·replace h:=hj
     refine zAa (by exact tokW) (by exact gok) [] [16,18,21] rfl ?_
     intro n10 hn10
     obtain rfl : (a1.length : Int) = n10:=(hn10.trans (congrArg (fun m : Nat => (m : Int)) (rlen Nd.encs_eq a1))).symm
     intro b hb
     cases b with
     | true =>
      replace h:=zAs hb.symm h
      intro n11 hn11
      obtain rfl : (a2.length : Int) = n11:=(hn11.trans (congrArg (fun m : Nat => (m : Int)) (rlen Nd.encs_eq a2))).symm
      cases h
      exact (Le.rename [(0,0)] _ _ _ ⟨rfl,rfl,rfl,rfl,rfl,rfl,rfl,trivial⟩ ⟨rfl,⟨_,rfl,rfl⟩,trivial⟩ rfl rfl rfl rfl rfl)
     | false =>
      replace h:=zAr hb.symm h
      cases h
      exact (Le.rename [(0,0)] _ _ _ ⟨rfl,rfl,rfl,rfl,rfl,rfl,rfl,trivial⟩ ⟨rfl,⟨_,rfl,rfl⟩,trivial⟩ rfl rfl rfl rfl rfl)
    ·show Tri _ _ _ _
     refine zAk hle ?_
     refine zAf rfl (fun hb => ?_) (fun hb => ?_)
     ·replace h:=zAs hb h
      refine zAj ?_
      show Tri _ _ _ _
      refine zAn ?_
      refine zAb ?_
      refine zAD (by exact tokW) (by exact gok) (by exact mixed) [] [26,32,35,40,43] [] rfl (by decide +kernel) ?_
      obtain ⟨⟨e12_kind,e12_text,e12_cols,e12_kids⟩,he12,h⟩:=zAc h
      refine And.intro (zAA Nd.encs_eq he12).1 ?_
      intro r13 hr13
      obtain rfl : [.int .i64 e12_kind,.str e12_text,.int .i64 e12_cols,.sl 4 (Nd.encs e12_kids)] = r13:=(hr13.trans (zAA Nd.encs_eq he12).2.1).symm
      obtain ⟨y14,hy14,h⟩:=zAc h
      refine ⟨_,⟨_,_,_,hy14,rfl,rfl⟩,?_⟩
      obtain ⟨e15,he15,h⟩:=zAc h
      refine And.intro (zAA (fun _ => rfl) he15).1 ?_
      intro r16 hr16
      obtain rfl : [.sl 1 ((List.map (irow .i64)) e15)] = r16:=(hr16.trans (zAA (fun _ => rfl) he15).2.1).symm
      obtain ⟨e17,he17,h⟩:=zAc h
      refine And.intro (zAA (fun _ => rfl) he17).1 ?_
      intro r18 hr18
      obtain rfl : [.int .i64 e17] = r18:=(hr18.trans (zAA (fun _ => rfl) he17).2.1).symm
      obtain ⟨e19,he19,h⟩:=zAc h
      refine And.intro (zAA (fun _ => rfl) he19).1 ?_
      intro r20 hr20
      obtain rfl : [.sl 1 ((List.map (irow .i64)) e19)] = r20:=(hr20.trans (zAA (fun _ => rfl) he19).2.1).symm
      obtain ⟨e21,he21,h⟩:=zAc h
      refine And.intro (zAA (fun _ => rfl) he21).1 ?_
      intro r22 hr22
      obtain rfl : [.int .i64 e21] = r22:=(hr22.trans (zAA (fun _ => rfl) he21).2.1).symm
      show Tri _ _ _ _
      refine zAb ?_
      refine zAD (by exact tokW) (by exact gok) (by exact mixed) [] [48,53,57,62,65] [] rfl (by decide +kernel) ?_
      obtain ⟨⟨e23_kind,e23_text,e23_cols,e23_kids⟩,he23,h⟩:=zAc h
      refine And.intro (zAA Nd.encs_eq he23).1 ?_
      intro r24 hr24
      obtain rfl : [.int .i64 e23_kind,.str e23_text,.int .i64 e23_cols,.sl 4 (Nd.encs e23_kids)] = r24:=(hr24.trans (zAA Nd.encs_eq he23).2.1).symm
      obtain ⟨y25,hy25,h⟩:=zAc h
      refine ⟨_,⟨_,_,_,hy25,rfl,rfl⟩,?_⟩
      obtain ⟨e26,he26,h⟩:=zAc h
      refine And.intro (zAA (fun _ => rfl) he26).1 ?_
      intro r27 hr27
      obtain rfl : [.sl 1 ((List.map (irow .i64)) e26)] = r27:=(hr27.trans (zAA (fun _ => rfl) he26).2.1).symm
      obtain ⟨e28,he28,h⟩:=zAc h
      refine And.intro (zAA (fun _ => rfl) he28).1 ?_
      intro r29 hr29
      obtain rfl : [.int .i64 e28] = r29:=(hr29.trans (zAA (fun _ => rfl) he28).2.1).symm
      obtain ⟨e30,he30,h⟩:=zAc h
      refine And.intro (zAA (fun _ => rfl) he30).1 ?_
      intro r31 hr31
      obtain rfl : [.sl 1 ((List.map (irow .i64)) e30)] = r31:=(hr31.trans (zAA (fun _ => rfl) he30).2.1).symm
      obtain ⟨e32,he32,h⟩:=zAc h
      refine And.intro (zAA (fun _ => rfl) he32).1 ?_
      intro r33 hr33
      obtain rfl : [.int .i64 e32] = r33:=(hr33.trans (zAA (fun _ => rfl) he32).2.1).symm
      show Tri _ _ _ _
      refine zAn ?_
      refine zAb ?_
      obtain ⟨x34,hj,h⟩:=zAc h
      refine zAp ⟨ofL [(0,.s (.sl 4 (Nd.encs a1))),(1,.s (.sl 4 (Nd.encs a2))),(5,.s (.sl 1 ((List.map zAw) y3))),(6,.orow 0),(7,.s (.int .i64 x5)),(8,.s (.int .i64 x6)),(9,.s (.bool ((IntKind.i64.wrap (y14 + e17)) == e21))),(10,.s (.bool ((IntKind.i64.wrap (y25 + e28)) == e32))),(70,.s (.bool x34))],ofH [(0,.row 98 2 ((List.map zAt) l7))],1⟩ ?_ (fun σ' hle => ?_)
      ·replace h:=hj
       refine zAD (by exact tokW) (by exact gok) (by exact mixed) [] [73,77,80,83,87,93,97,102,105] [] rfl (by decide +kernel) ?_
       obtain ⟨⟨e35_kind,e35_text,e35_cols,e35_kids⟩,he35,h⟩:=zAc h
       refine And.intro (zAA Nd.encs_eq he35).1 ?_
       intro r36 hr36
       obtain rfl : [.int .i64 e35_kind,.str e35_text,.int .i64 e35_cols,.sl 4 (Nd.encs e35_kids)] = r36:=(hr36.trans (zAA Nd.encs_eq he35).2.1).symm
       obtain ⟨⟨e37_kind,e37_text,e37_cols,e37_kids⟩,he37,h⟩:=zAc h
       refine And.intro (zAA Nd.encs_eq he37).1 ?_
       intro r38 hr38
       obtain rfl : [.int .i64 e37_kind,.str e37_text,.int .i64 e37_cols,.sl 4 (Nd.encs e37_kids)] = r38:=(hr38.trans (zAA Nd.encs_eq he37).2.1).symm
       obtain ⟨y39,hy39,h⟩:=zAc h
       refine ⟨_,⟨_,_,_,hy39,rfl,rfl⟩,?_⟩
       intro b hb
       cases b with
       | true =>
        replace h:=zAs hb.symm h
        obtain ⟨⟨e40_kind,e40_text,e40_cols,e40_kids⟩,he40,h⟩:=zAc h
        refine And.intro (zAA Nd.encs_eq he40).1 ?_
        intro r41 hr41
        obtain rfl : [.int .i64 e40_kind,.str e40_text,.int .i64 e40_cols,.sl 4 (Nd.encs e40_kids)] = r41:=(hr41.trans (zAA Nd.encs_eq he40).2.1).symm
        obtain ⟨⟨e42_kind,e42_text,e42_cols,e42_kids⟩,he42,h⟩:=zAc h
        refine And.intro (zAA Nd.encs_eq he42).1 ?_
        intro r43 hr43
        obtain rfl : [.int .i64 e42_kind,.str e42_text,.int .i64 e42_cols,.sl 4 (Nd.encs e42_kids)] = r43:=(hr43.trans (zAA Nd.encs_eq he42).2.1).symm
        obtain ⟨y44,hy44,h⟩:=zAc h
        refine ⟨_,⟨_,_,_,_,hy44,rfl,rfl⟩,?_⟩
        obtain ⟨e45,he45,h⟩:=zAc h
        refine And.intro (zAA (fun _ => rfl) he45).1 ?_
        intro r46 hr46
        obtain rfl : [.sl 1 ((List.map (irow .i64)) e45)] = r46:=(hr46.trans (zAA (fun _ => rfl) he45).2.1).symm
        obtain ⟨e47,he47,h⟩:=zAc h
        refine And.intro (zAA (fun _ => rfl) he47).1 ?_
        intro r48 hr48
        obtain rfl : [.int .i64 e47] = r48:=(hr48.trans (zAA (fun _ => rfl) he47).2.1).symm
        obtain ⟨e49,he49,h⟩:=zAc h
        refine And.intro (zAA (fun _ => rfl) he49).1 ?_
        intro r50 hr50
        obtain rfl : [.sl 1 ((List.map (irow .i64)) e49)] = r50:=(hr50.trans (zAA (fun _ => rfl) he49).2.1).symm
        obtain ⟨e51,he51,h⟩:=zAc h
        refine And.intro (zAA (fun _ => rfl) he51).1 ?_
        intro r52 hr52
        obtain rfl : [.int .i64 e51] = r52:=(hr52.trans (zAA (fun _ => rfl) he51).2.1).symm
        cases h
        exact (Le.rename [(0,0)] _ _ _ ⟨rfl,rfl,rfl,rfl,rfl,rfl,rfl,rfl,rfl,trivial⟩ ⟨rfl,⟨_,rfl,rfl⟩,trivial⟩ rfl rfl rfl rfl rfl)
       | false =>
        replace h:=zAr hb.symm h
        cases h
        exact (Le.rename [(0,0)] _ _ _ ⟨rfl,rfl,rfl,rfl,rfl,rfl,rfl,rfl,rfl,trivial⟩ ⟨rfl,⟨_,rfl,rfl⟩,trivial⟩ rfl rfl rfl rfl rfl)
      ·show Tri _ _ _ _
       refine zAk hle ?_
       refine zAf rfl (fun hb => ?_) (fun hb => ?_)
       ·replace h:=zAs hb h
        refine zAb ?_
        refine zAa (by exact tokW) (by exact gok) [114] [113] rfl ?_
        intro r53 hr53
        obtain rfl : (List.map zAt) [(x5,x6)] = r53:=(hr53.trans (by simp [List.map_append,List.map_take,List.map_drop,irow,brow,zAC,List.map_cons,List.map_nil,zAz,Nd.encs_eq,Nd.enc,zAg,zAe,zAh,zAo,zAw,zAl,zAt,zAd,zAu,zAm,zAO])).symm
        obtain ⟨hq,h⟩:=zAF h
        refine And.intro (show (((List.map zAt) l7).length + ((List.map zAt) [(x5,x6)]).length) * 16 ≤ 140737488355328 ∧ ((List.map zAt) l7).length + ((List.map zAt) [(x5,x6)]).length ≤ 9223372036854775807 from by simp only [List.length_append,List.length_cons,List.length_nil,List.length_map,rlen (fun _ => rfl)] at hq ⊢; omega) ?_
        show Tri _ _ _ _
        refine zAk (Le.rename [(1,0)] [(0,.s (.sl 4 (Nd.encs a1))),(1,.s (.sl 4 (Nd.encs a2))),(5,.s (.sl 1 ((List.map zAw) y3))),(6,.orow 0),(7,.s (.int .i64 x5)),(8,.s (.int .i64 x6))] [(0,.row 98 2 ((List.map zAt) (l7 ++ [(x5,x6)])))] 1 ⟨rfl,rfl,rfl,rfl,rfl,rfl,trivial⟩ ⟨rfl,⟨_,rfl,congrArg (Ob.row 98 2) (by simp [List.map_append,List.map_take,List.map_drop,irow,brow,zAC,List.map_cons,List.map_nil,zAz,Nd.encs_eq,Nd.enc,zAg,zAe,zAh,zAo,zAw,zAl,zAt,zAd,zAu,zAm,zAO])⟩,trivial⟩ rfl rfl rfl rfl rfl) ?_
        refine zAb ?_
        refine zAa (by exact tokW) (by exact gok) [] [] rfl ?_
        show Tri _ _ _ _
        refine zAa (by exact tokW) (by exact gok) [] [] rfl ?_
        refine ⟨(k,IntKind.i64.wrap (x5 + 1),IntKind.i64.wrap (x6 + 1),l7 ++ [(x5,x6)]),h,(Le.rename [(0,0)] _ _ _ ⟨rfl,rfl,rfl,rfl,rfl,rfl,trivial⟩ ⟨rfl,⟨_,rfl,rfl⟩,trivial⟩ rfl rfl rfl rfl rfl),Nat.lt_succ_self k⟩
       ·replace h:=zAr hb h
        refine zAb ?_
        obtain ⟨x54,hj,h⟩:=zAc h
        refine zAp ⟨ofL [(0,.s (.sl 4 (Nd.encs a1))),(1,.s (.sl 4 (Nd.encs a2))),(5,.s (.sl 1 ((List.map zAw) y3))),(6,.orow 0),(7,.s (.int .i64 x5)),(8,.s (.int .i64 x6)),(119,.s (.bool x54))],ofH [(0,.row 98 2 ((List.map zAt) l7))],1⟩ ?_ (fun σ' hle => ?_)
        ·replace h:=hj
         refine zAD (by exact tokW) (by exact gok) (by exact mixed) [] [121,124,127,132] [] rfl (by decide +kernel) ?_
         intro b hb
         cases b with
         | true =>
          replace h:=zAs hb.symm h
          intro b hb
          cases b with
          | true =>
           replace h:=zAs hb.symm h
           cases h
           exact (Le.rename [(0,0)] _ _ _ ⟨rfl,rfl,rfl,rfl,rfl,rfl,rfl,trivial⟩ ⟨rfl,⟨_,rfl,rfl⟩,trivial⟩ rfl rfl rfl rfl rfl)
          | false =>
           replace h:=zAr hb.symm h
           obtain ⟨⟨e55_kind,e55_text,e55_cols,e55_kids⟩,he55,h⟩:=zAc h
           refine And.intro (zAA Nd.encs_eq he55).1 ?_
           intro r56 hr56
           obtain rfl : [.int .i64 e55_kind,.str e55_text,.int .i64 e55_cols,.sl 4 (Nd.encs e55_kids)] = r56:=(hr56.trans (zAA Nd.encs_eq he55).2.1).symm
           obtain ⟨y57,hy57,h⟩:=zAc h
           refine ⟨_,⟨_,_,_,hy57,rfl,rfl⟩,?_⟩
           obtain ⟨⟨e58_kind,e58_text,e58_cols,e58_kids⟩,he58,h⟩:=zAc h
           refine And.intro (zAA Nd.encs_eq he58).1 ?_
           intro r59 hr59
           obtain rfl : [.int .i64 e58_kind,.str e58_text,.int .i64 e58_cols,.sl 4 (Nd.encs e58_kids)] = r59:=(hr59.trans (zAA Nd.encs_eq he58).2.1).symm
           obtain ⟨y60,hy60,h⟩:=zAc h
           refine ⟨_,⟨_,_,_,hy60,rfl,rfl⟩,?_⟩
           cases h
           exact (Le.rename [(0,0)] _ _ _ ⟨rfl,rfl,rfl,rfl,rfl,rfl,rfl,trivial⟩ ⟨rfl,⟨_,rfl,rfl⟩,trivial⟩ rfl rfl rfl rfl rfl)
         | false =>
          replace h:=zAr hb.symm h
          cases h
          exact (Le.rename [(0,0)] _ _ _ ⟨rfl,rfl,rfl,rfl,rfl,rfl,rfl,trivial⟩ ⟨rfl,⟨_,rfl,rfl⟩,trivial⟩ rfl rfl rfl rfl rfl)
        ·show Tri _ _ _ _
         refine zAk hle ?_
         refine zAf rfl (fun hb => ?_) (fun hb => ?_)
         ·replace h:=zAs hb h
          refine zAa (by exact tokW) (by exact gok) [] [] rfl ?_
          refine ⟨(k,IntKind.i64.wrap (x5 + 1),x6,l7),h,(Le.rename [(0,0)] _ _ _ ⟨rfl,rfl,rfl,rfl,rfl,rfl,trivial⟩ ⟨rfl,⟨_,rfl,rfl⟩,trivial⟩ rfl rfl rfl rfl rfl),Nat.lt_succ_self k⟩
         ·replace h:=zAr hb h
          refine zAa (by exact tokW) (by exact gok) [] [] rfl ?_
          refine ⟨(k,x5,IntKind.i64.wrap (x6 + 1),l7),h,(Le.rename [(0,0)] _ _ _ ⟨rfl,rfl,rfl,rfl,rfl,rfl,trivial⟩ ⟨rfl,⟨_,rfl,rfl⟩,trivial⟩ rfl rfl rfl rfl rfl),Nat.lt_succ_self k⟩
     ·replace h:=zAr hb h
      refine zAK ?_
      cases h
      exact (Le.rename [(0,0)] _ _ _ ⟨rfl,trivial⟩ ⟨rfl,⟨_,rfl,rfl⟩,trivial⟩ rfl rfl rfl rfl rfl)
 ·show Tri _ _ _ _
  refine zAk hle ?_
  refine zAb ?_
  refine zAa (by exact tokW) (by exact gok) [] [] rfl ?_
  show Tri _ _ _ _
  refine zAv ?_
  have hy:=Option.some.inj h
  subst hy
  unfold zAQ
  exact ⟨_,Le.refl _ _,0,rfl,rfl⟩
def zMu (n : Nat) (xs : List AV) (r : Ret) : Prop:=∃ (a0 : List (Int × Int)) (a1 : Int) (y0 : Int),zDp n a0 a1 = some y0 ∧ xs = [.s (.sl 2 ((List.map zAt) a0)),.s (.int .i64 a1)] ∧ r = .val (.s (.int .i64 y0))
def zH6 : zAB:=zAJ fun xs r => ∃ n,zMu n xs r
theorem zLl : PSound Tryz.prog 44 zH6:=by
 have gok : ∀ (f : Nat) (s : zAB),(fun _ => none : Nat → Option zAB) f = some s → PSound Tryz.prog f s:=fun _ _ h => by cases h
 refine zAT tokW Tryz.call44 Tryz.func44 rfl (fun xs r h => by obtain ⟨n,_,_,_,_,rfl,_⟩:=h; show 2 ≤ 24; decide) 24 rfl ?_
 rintro xs r w0 G0 ⟨n,l1,i2,y0,h,rfl,rfl⟩ _
 rw [zDp] at h
 refine zAb ?_
 refine zAa (by exact tokW) (by exact gok) [] [] rfl ?_
 show Tri _ _ _ _
 refine zAb ?_
 refine zAb ?_
 refine zAa (by exact tokW) (by exact gok) [] [] rfl ?_
 show Tri _ _ _ _
 obtain ⟨fl,hl,ho1⟩:=zAc h
 refine zDY (fl:=fl) (fun z => match z with | _ => ⟨ofL [],fun _ => none,0⟩) ?_ (fun z σ' hz hle => ?_)
 ·refine zAn (zAG (X:=Nat × Int) (fun y => match y with | (k,k3) => ⟨ofL [(0,.s (.sl 2 ((List.map zAt) l1))),(1,.s (.int .i64 i2)),(5,.s (.int .i64 k3))],fun _ => none,0⟩) (fun y => zBY l1 i2 y.1 y.2 = some fl) (fun y => y.1) (n,0) hl ?_ ?_)
  ·exact (Le.forget _ ⟨rfl,rfl,rfl,trivial⟩)
  ·rintro ⟨k,k3⟩ h
   cases k with
   | zero => cases h
   | succ k =>
    replace h : zBY l1 i2 (k+1) k3 = some fl:=h
    rw [zBY] at h
    refine zAb ?_
    refine zAb ?_
    refine zAa (by exact tokW) (by exact gok) [] [8] rfl ?_
    intro n4 hn4
    obtain rfl : (l1.length : Int) = n4:=(hn4.trans (congrArg (fun m : Nat => (m : Int)) (rlen (fun _ => rfl) l1))).symm
    show Tri _ _ _ _
    refine zAf rfl (fun hb => ?_) (fun hb => ?_)
    ·replace h:=zAs hb h
     refine zAj ?_
     show Tri _ _ _ _
     refine zAb ?_
     refine zAn ?_
     refine zAb ?_
     refine zAa (by exact tokW) (by exact gok) [] [14] rfl ?_
     obtain ⟨⟨e5_0,e5_1⟩,he5,h⟩:=zAc h
     refine And.intro (zAA (fun _ => rfl) he5).1 ?_
     intro r6 hr6
     obtain rfl : [.int .i64 e5_0,.int .i64 e5_1] = r6:=(hr6.trans (zAA (fun _ => rfl) he5).2.1).symm
     refine And.intro (by decide) ?_
     show Tri _ _ _ _
     refine zAf rfl (fun hb => ?_) (fun hb => ?_)
     ·replace h:=zAs hb h
      refine zAb ?_
      refine zAa (by exact tokW) (by exact gok) [] [21] rfl ?_
      obtain ⟨⟨e7_0,e7_1⟩,he7,h⟩:=zAc h
      refine And.intro (zAA (fun _ => rfl) he7).1 ?_
      intro r8 hr8
      obtain rfl : [.int .i64 e7_0,.int .i64 e7_1] = r8:=(hr8.trans (zAA (fun _ => rfl) he7).2.1).symm
      refine And.intro (by decide) ?_
      show Tri _ _ _ _
      refine zAv ?_
      cases h
      replace h : some _ = some _:=ho1
      have hy:=Option.some.inj h
      subst hy
      unfold zAQ
      exact ⟨_,Le.refl _ _,rfl,rfl⟩
     ·replace h:=zAr hb h
      refine zAj ?_
      show Tri _ _ _ _
      refine zAa (by exact tokW) (by exact gok) [] [] rfl ?_
      refine ⟨(k,IntKind.i64.wrap (k3 + 1)),h,(Le.forget _ ⟨rfl,rfl,rfl,trivial⟩),Nat.lt_succ_self k⟩
    ·replace h:=zAr hb h
     refine zAK ?_
     cases h
     exact ⟨_,rfl,(Le.forget _ trivial)⟩
 ·subst hz
  obtain _:=z
  replace h:=ho1
  show Tri _ _ _ _
  refine zAk hle ?_
  refine zAb ?_
  refine zAa (by exact tokW) (by exact gok) [] [] rfl ?_
  show Tri _ _ _ _
  refine zAv ?_
  have hy:=Option.some.inj h
  subst hy
  unfold zAQ
  exact ⟨_,Le.refl _ _,rfl,rfl⟩
def zAy (p : (Int × List (List Int × Int × Int × List Nd × List Nd))) : List S:=[.int .i64 p.1,.sl 5 ((List.map zAd) p.2)]
def zGs (n : Nat) (xs : List AV) (os : List Ob) (x : AV) (os' : List (Option Ob)) : Prop:=∃ (a0 : (Int × List (List Int × Int × Int × List Nd × List Nd))) (a1 : List Int) (a2 : Int) (a3 : List Nd) (a4 : List Nd) (a5 : List Nd) (y0 : List Nd) (z0 : (Int × List (List Int × Int × Int × List Nd × List Nd))),zBx n a0 a1 a2 a3 a4 a5 = some (y0,z0) ∧ xs = [.op 0 0,.s (.sl 1 ((List.map (irow .i64)) a1)),.s (.int .i64 a2),.s (.sl 4 (Nd.encs a3)),.s (.sl 4 (Nd.encs a4)),.s (.sl 4 (Nd.encs a5))] ∧ os = [.box 62 (((zAy a0).map .s).set 1 (.orow 1)),.row 52 5 ((List.map zAd) a0.2)] ∧ x = .s (.sl 4 (Nd.encs y0)) ∧ os' = [some (.box 62 (((zAy z0).map .s).set 1 (.orow 2))),none,some (.row 52 5 ((List.map zAd) z0.2))]
def zCY : zAB:=zBN (fun xs os x os' => ∃ n,zGs n xs os x os')
theorem zD2 : PSound Tryz.prog 71 zCY:=by
 have gok : ∀ (f : Nat) (s : zAB),(fun _ => none : Nat → Option zAB) f = some s → PSound Tryz.prog f s:=fun _ _ h => by cases h
 refine PSound.withNil (zD3 tokW Tryz.call71 Tryz.func71 rfl (fun xs os x os' h => by obtain ⟨n,_,_,_,_,_,_,_,_,_,rfl,rfl,_,rfl⟩:=h; exact ⟨by show 6 ≤ 43; decide,by show 2 ≤ 3; decide⟩) 43 rfl ?_) _
 rintro xs os x os' w0 G0 B0 ⟨n,⟨o1_side,o1_l⟩,path2,from3,base4,x5,y6,y0,z0,h,rfl,rfl,rfl,rfl⟩ _
 rw [zBx] at h
 obtain ⟨⟨hq1,hq2⟩,h⟩:=zAF h
 refine zAb ?_
 refine zAa (by exact tokW) (by exact gok) [] [] rfl ?_
 show Tri _ _ _ _
 refine zAb ?_
 refine zAk (Le.toA 1 rfl) ?_
 refine zF2 (by exact tokW) (by exact gok) (by exact mixed) [18,20,29,30] [24] [4,5,7,16,17,20] [4,7] rfl (by decide +kernel) ?_
 refine And.intro (show ((0 : Nat) + ((List.map (irow .i64)) path2).length) * 8 ≤ 140737488355328 ∧ (0 : Nat) + ((List.map (irow .i64)) path2).length ≤ 9223372036854775807 by rw [List.length_map]; omega) ?_
 intro n6 hn6
 obtain rfl : (base4.length : Int) = n6:=(hn6.trans (congrArg (fun m : Nat => (m : Int)) (rlen Nd.encs_eq base4))).symm
 refine And.intro (show ((((List.map zAd) o1_l).map (·.map AV.s)).length + 1) * 88 ≤ 140737488355328 ∧ (((List.map zAd) o1_l).map (·.map AV.s)).length + 1 ≤ 9223372036854775807 by rw [List.length_map,List.length_map]; omega) ?_
 show Tri _ _ _ _
 refine zAk (Le.giveRow 3 rfl) ?_
 refine zAk (Le.ofA 5 ((List.map zAd) (o1_l ++ [(path2,from3,IntKind.i64.wrap (from3 + (base4.length : Int)),x5,y6)])) rfl (by
  rw [List.map_append,List.map_append,zQL]
  exact zIx (zQp _) rfl)) ?_
 refine zAk (Le.rename [(0,0),(5,2)] [(0,.op 0 0),(3,.s (.sl 4 (Nd.encs base4))),(4,.s (.sl 4 (Nd.encs x5))),(5,.s (.sl 4 (Nd.encs y6)))] [(0,.box 62 [.s (.int .i64 o1_side),.orow 2]),(2,.row 52 5 ((List.map zAd) (o1_l ++ [(path2,from3,IntKind.i64.wrap (from3 + (base4.length : Int)),x5,y6)])))] 3 ⟨rfl,rfl,rfl,rfl,trivial⟩ ⟨rfl,⟨_,rfl,rfl⟩,rfl,⟨_,rfl,rfl⟩,trivial⟩ rfl rfl rfl rfl rfl) ?_
 refine zAb ?_
 cases hc : (o1_side == 0) with
 | true =>
  replace h:=zAs hc h
  obtain rfl : o1_side = 0:=eq_of_beq hc
  refine zAa (by exact tokW) (by exact gok) [] [] rfl ?_
  refine And.intro (show (0 : Int) ≤ 0 ∧ (0 : Int) < 3 by decide) ?_
  show Tri _ _ _ _
  refine zAv ?_
  obtain ⟨hj1,hk1⟩:=Prod.mk.inj (Option.some.inj h)
  subst hj1
  subst hk1
  unfold zBy
  exact ⟨_,(Le.rename [(0,0),(2,2)] [(12,.s (.sl 4 (Nd.encs base4)))] [(0,.box 62 [.s (.int .i64 0),.orow 2]),(2,.row 52 5 ((List.map zAd) (o1_l ++ [(path2,from3,IntKind.i64.wrap (from3 + (base4.length : Int)),x5,y6)])))] 3 ⟨rfl,trivial⟩ ⟨rfl,⟨_,rfl,rfl⟩,rfl,⟨_,rfl,rfl⟩,trivial⟩ rfl rfl rfl rfl rfl),rfl,rfl,rfl,rfl,rfl,rfl,trivial⟩
 | false =>
  replace h:=zAr hc h
  cases hc : (o1_side == 1) with
  | true =>
   replace h:=zAs hc h
   obtain rfl : o1_side = 1:=eq_of_beq hc
   refine zAa (by exact tokW) (by exact gok) [] [] rfl ?_
   refine And.intro (show (0 : Int) ≤ 1 ∧ (1 : Int) < 3 by decide) ?_
   show Tri _ _ _ _
   refine zAv ?_
   obtain ⟨hj1,hk1⟩:=Prod.mk.inj (Option.some.inj h)
   subst hj1
   subst hk1
   unfold zBy
   exact ⟨_,(Le.rename [(0,0),(2,2)] [(12,.s (.sl 4 (Nd.encs x5)))] [(0,.box 62 [.s (.int .i64 1),.orow 2]),(2,.row 52 5 ((List.map zAd) (o1_l ++ [(path2,from3,IntKind.i64.wrap (from3 + (base4.length : Int)),x5,y6)])))] 3 ⟨rfl,trivial⟩ ⟨rfl,⟨_,rfl,rfl⟩,rfl,⟨_,rfl,rfl⟩,trivial⟩ rfl rfl rfl rfl rfl),rfl,rfl,rfl,rfl,rfl,rfl,trivial⟩
  | false =>
   replace h:=zAr hc h
   cases hc : (o1_side == 2) with
   | true =>
    replace h:=zAs hc h
    obtain rfl : o1_side = 2:=eq_of_beq hc
    refine zAa (by exact tokW) (by exact gok) [] [] rfl ?_
    refine And.intro (show (0 : Int) ≤ 2 ∧ (2 : Int) < 3 by decide) ?_
    show Tri _ _ _ _
    refine zAv ?_
    obtain ⟨hj1,hk1⟩:=Prod.mk.inj (Option.some.inj h)
    subst hj1
    subst hk1
    unfold zBy
    exact ⟨_,(Le.rename [(0,0),(2,2)] [(12,.s (.sl 4 (Nd.encs y6)))] [(0,.box 62 [.s (.int .i64 2),.orow 2]),(2,.row 52 5 ((List.map zAd) (o1_l ++ [(path2,from3,IntKind.i64.wrap (from3 + (base4.length : Int)),x5,y6)])))] 3 ⟨rfl,trivial⟩ ⟨rfl,⟨_,rfl,rfl⟩,rfl,⟨_,rfl,rfl⟩,trivial⟩ rfl rfl rfl rfl rfl),rfl,rfl,rfl,rfl,rfl,rfl,trivial⟩
   | false =>
    replace h:=zAr hc h
    cases h
def zIC (n : Nat) (xs : List AV) (os : List Ob) (x : AV) (os' : List (Option Ob)) : Prop:=∃ (a0 : (Int × List (List Int × Int × Int × List Nd × List Nd))) (a1 : List Int) (a2 : Int) (a3 : List Nd) (a4 : List Nd) (a5 : List Nd) (y0 : List Nd) (z0 : (Int × List (List Int × Int × Int × List Nd × List Nd))),zBM n a0 a1 a2 a3 a4 a5 = some (y0,z0) ∧ xs = [.op 0 0,.s (.sl 1 ((List.map (irow .i64)) a1)),.s (.int .i64 a2),.s (.sl 4 (Nd.encs a3)),.s (.sl 4 (Nd.encs a4)),.s (.sl 4 (Nd.encs a5))] ∧ os = [.box 62 (((zAy a0).map .s).set 1 (.orow 1)),.row 52 5 ((List.map zAd) a0.2)] ∧ x = .s (.sl 4 (Nd.encs y0)) ∧ os' = [some (.box 62 (((zAy z0).map .s).set 1 (.orow 2))),none,some (.row 52 5 ((List.map zAd) z0.2))]
def zFG : zAB:=zBN (fun xs os x os' => ∃ n,zIC n xs os x os')
theorem zIp : PSound Tryz.prog 45 zFG:=by
 have gok : ∀ f s,look? f [(22,zGz),(71,zCY)] = some s → PSound Tryz.prog f s:=zAE (by
  simp only [List.forall_mem_cons]
  exact ⟨zJJ,zD2,by simp⟩)
 refine PSound.withNil (zD3 tokW Tryz.call45 Tryz.func45 rfl (fun xs os x os' h => by obtain ⟨n,_,_,_,_,_,_,_,_,_,rfl,rfl,_,rfl⟩:=h; exact ⟨by show 6 ≤ 33; decide,by show 2 ≤ 3; decide⟩) 33 rfl ?_) _
 rintro xs os x os' w0 G0 B0 ⟨n,⟨o1_side,o1_l⟩,path2,from3,base4,x5,y6,y0,z0,h,rfl,rfl,rfl,rfl⟩ _
 rw [zBM] at h
 refine zAb ?_
 refine zAa (by exact tokW) (by exact gok) [] [] rfl ?_
 show Tri _ _ _ _
 refine zAb ?_
 refine zAb ?_
 refine zAa (by exact tokW) (by exact gok) [] [] rfl ?_
 obtain ⟨y7,hy7,h⟩:=zAc h
 refine ⟨_,⟨_,_,_,_,hy7,rfl,rfl⟩,?_⟩
 show Tri _ _ _ _
 refine zAf rfl (fun hb => ?_) (fun hb => ?_)
 ·replace h:=zAs hb h
  refine zAb ?_
  refine zAa (by exact tokW) (by exact gok) [] [] rfl ?_
  show Tri _ _ _ _
  refine zAv ?_
  obtain ⟨hj1,hk1⟩:=Prod.mk.inj (Option.some.inj h)
  subst hj1
  subst hk1
  unfold zBy
  exact ⟨_,(Le.rename [(0,0),(1,2)] [(12,.s (.sl 4 (Nd.encs y6)))] [(0,.box 62 [.s (.int .i64 o1_side),.orow 2]),(2,.row 52 5 ((List.map zAd) o1_l))] 3 ⟨rfl,trivial⟩ ⟨rfl,⟨_,rfl,rfl⟩,rfl,⟨_,rfl,rfl⟩,trivial⟩ rfl rfl rfl rfl rfl),rfl,rfl,rfl,rfl,rfl,rfl,trivial⟩
 ·replace h:=zAr hb h
  refine zAj ?_
  show Tri _ _ _ _
  refine zAb ?_
  refine zAb ?_
  obtain ⟨x8,hj,h⟩:=zAc h
  refine zAp ⟨ofL [(0,.op 0 0),(1,.s (.sl 1 ((List.map (irow .i64)) path2))),(2,.s (.int .i64 from3)),(3,.s (.sl 4 (Nd.encs base4))),(4,.s (.sl 4 (Nd.encs x5))),(5,.s (.sl 4 (Nd.encs y6))),(24,.s (.bool x8))],ofH [(0,.box 62 [.s (.int .i64 o1_side),.orow 2]),(2,.row 52 5 ((List.map zAd) o1_l))],3⟩ ?_ (fun σ' hle => ?_)
  ·replace h:=hj
   refine zAa (by exact tokW) (by exact gok) [] [20] rfl ?_
   obtain ⟨y9,hy9,h⟩:=zAc h
   refine ⟨_,⟨_,_,_,_,hy9,rfl,rfl⟩,?_⟩
   intro b hb
   cases b with
   | true =>
    replace h:=zAs hb.symm h
    cases h
    exact (Le.rename [(0,0),(1,2)] _ _ _ ⟨rfl,rfl,rfl,rfl,rfl,rfl,rfl,trivial⟩ ⟨rfl,⟨_,rfl,rfl⟩,rfl,⟨_,rfl,rfl⟩,trivial⟩ rfl rfl rfl rfl rfl)
   | false =>
    replace h:=zAr hb.symm h
    obtain ⟨y10,hy10,h⟩:=zAc h
    refine ⟨_,⟨_,_,_,_,hy10,rfl,rfl⟩,?_⟩
    cases h
    exact (Le.rename [(0,0),(1,2)] _ _ _ ⟨rfl,rfl,rfl,rfl,rfl,rfl,rfl,trivial⟩ ⟨rfl,⟨_,rfl,rfl⟩,rfl,⟨_,rfl,rfl⟩,trivial⟩ rfl rfl rfl rfl rfl)
  ·show Tri _ _ _ _
   refine zAk hle ?_
   refine zAf rfl (fun hb => ?_) (fun hb => ?_)
   ·replace h:=zAs hb h
    refine zAb ?_
    refine zAa (by exact tokW) (by exact gok) [] [] rfl ?_
    show Tri _ _ _ _
    refine zAv ?_
    obtain ⟨hj1,hk1⟩:=Prod.mk.inj (Option.some.inj h)
    subst hj1
    subst hk1
    unfold zBy
    exact ⟨_,(Le.rename [(0,0),(2,2)] [(12,.s (.sl 4 (Nd.encs x5)))] [(0,.box 62 [.s (.int .i64 o1_side),.orow 2]),(2,.row 52 5 ((List.map zAd) o1_l))] 3 ⟨rfl,trivial⟩ ⟨rfl,⟨_,rfl,rfl⟩,rfl,⟨_,rfl,rfl⟩,trivial⟩ rfl rfl rfl rfl rfl),rfl,rfl,rfl,rfl,rfl,rfl,trivial⟩
   ·replace h:=zAr hb h
    refine zAj ?_
    show Tri _ _ _ _
    refine zAb ?_
    refine zAa (by exact tokW) (by exact gok) [] [] rfl ?_
    obtain ⟨⟨y11,⟨w12_side,w12_l⟩⟩,hy11,h⟩:=zAc h
    refine ⟨_,_,⟨_,_,_,_,_,_,_,_,_,hy11,rfl,rfl,rfl,rfl⟩,?_⟩
    show Tri _ _ _ _
    refine zAv ?_
    obtain ⟨hj1,hk1⟩:=Prod.mk.inj (Option.some.inj h)
    subst hj1
    subst hk1
    unfold zBy
    exact ⟨_,(Le.rename [(0,0),(3,2)] [(12,.s (.sl 4 (Nd.encs y11)))] [(0,.box 62 [.s (.int .i64 w12_side),.orow 2]),(2,.row 52 5 ((List.map zAd) w12_l))] 3 ⟨rfl,trivial⟩ ⟨rfl,⟨_,rfl,rfl⟩,rfl,⟨_,rfl,rfl⟩,trivial⟩ rfl rfl rfl rfl rfl),rfl,rfl,rfl,rfl,rfl,rfl,trivial⟩
def zPf (xs : List AV) (r : Ret) : Prop:=∃ (a0 : List Nd) (y0 : Nd),zEc a0 = some y0 ∧ xs = [.s (.sl 4 (Nd.encs a0))] ∧ r = .val (.agg ((Nd.enc y0).map .s))
def zHA : zAB:=zAJ fun xs r => zPf xs r
theorem zJo : PSound Tryz.prog 29 zHA:=by
 have gok : ∀ (f : Nat) (s : zAB),(fun _ => none : Nat → Option zAB) f = some s → PSound Tryz.prog f s:=fun _ _ h => by cases h
 refine zAT tokW Tryz.call29 Tryz.func29 rfl (fun xs r h => by obtain ⟨_,_,_,rfl,_⟩:=h; show 1 ≤ 5; decide) 5 rfl ?_
 rintro xs r w0 G0 ⟨l1,y0,h,rfl,rfl⟩ _
 rw [zEc] at h
 refine zAb ?_
 refine zAa (by exact tokW) (by exact gok) [2] [] rfl ?_
 show Tri _ _ _ _
 refine zAb ?_
 refine zAa (by exact tokW) (by exact gok) [] [] rfl ?_
 show Tri _ _ _ _
 refine zAv ?_
 have hy:=Option.some.inj h
 subst hy
 unfold zAQ
 exact ⟨_,Le.refl _ _,rfl,rfl⟩
def zCu (n : Nat) (xs : List AV) (os : List Ob) (x : AV) (os' : List (Option Ob)) : Prop:=∃ (a0 : (Int × List (List Int × Int × Int × List Nd × List Nd))) (a1 : List Int) (a2 : Int) (a3 : Nd) (a4 : Nd) (a5 : Nd) (y0 : Nd) (z0 : (Int × List (List Int × Int × Int × List Nd × List Nd))),zBn n a0 a1 a2 a3 a4 a5 = some (y0,z0) ∧ xs = [.op 0 0,.s (.sl 1 ((List.map (irow .i64)) a1)),.s (.int .i64 a2),.agg ((Nd.enc a3).map .s),.agg ((Nd.enc a4).map .s),.agg ((Nd.enc a5).map .s)] ∧ os = [.box 62 (((zAy a0).map .s).set 1 (.orow 1)),.row 52 5 ((List.map zAd) a0.2)] ∧ x = .agg ((Nd.enc y0).map .s) ∧ os' = [some (.box 62 (((zAy z0).map .s).set 1 (.orow 2))),none,some (.row 52 5 ((List.map zAd) z0.2))]
def zCc (n : Nat) (xs : List AV) (os : List Ob) (x : AV) (os' : List (Option Ob)) : Prop:=∃ (a0 : (Int × List (List Int × Int × Int × List Nd × List Nd))) (a1 : List Int) (a2 : List Nd) (a3 : List Nd) (a4 : List Nd) (y0 : List Nd) (z0 : (Int × List (List Int × Int × Int × List Nd × List Nd))),zBd n a0 a1 a2 a3 a4 = some (y0,z0) ∧ xs = [.op 0 0,.s (.sl 1 ((List.map (irow .i64)) a1)),.s (.sl 4 (Nd.encs a2)),.s (.sl 4 (Nd.encs a3)),.s (.sl 4 (Nd.encs a4))] ∧ os = [.box 62 (((zAy a0).map .s).set 1 (.orow 1)),.row 52 5 ((List.map zAd) a0.2)] ∧ x = .orow 3 ∧ os' = [some (.box 62 (((zAy z0).map .s).set 1 (.orow 2))),none,some (.row 52 5 ((List.map zAd) z0.2)),some (.row 24 4 (Nd.encs y0))]
theorem zHd (n : Nat) (ih_r17_merger_item : PSound Tryz.prog 46 (zBN (zCu n))) (ih_r17_merger_row : PSound Tryz.prog 30 (zBN (zCc n))) : PSound Tryz.prog 46 (zBN (zCu (n + 1))):=by
 have gok : ∀ f s,look? f [(71,zCY),(30,zBN (zCc n)),(29,zHA)] = some s → PSound Tryz.prog f s:=zAE (by
  simp only [List.forall_mem_cons]
  exact ⟨zD2,ih_r17_merger_row,zJo,by simp⟩)
 refine PSound.withNil (zD3 tokW Tryz.call46 Tryz.func46 rfl (fun xs os x os' h => by obtain ⟨_,_,_,_,_,_,_,_,_,rfl,rfl,_,rfl⟩:=h; exact ⟨by show 6 ≤ 97; decide,by show 2 ≤ 3; decide⟩) 97 rfl ?_) _
 rintro xs os x os' w0 G0 B0 ⟨⟨o1_side,o1_l⟩,a2,a3,⟨a4_kind,a4_text,a4_cols,a4_kids⟩,⟨a5_kind,a5_text,a5_cols,a5_kids⟩,⟨a6_kind,a6_text,a6_cols,a6_kids⟩,y0,z0,h,rfl,rfl,rfl,rfl⟩ _
 rw [zBn] at h
 refine zAb ?_
 refine zAa (by exact tokW) (by exact gok) [12] [] rfl ?_
 show Tri _ _ _ _
 refine zAb ?_
 refine zAa (by exact tokW) (by exact gok) [13] [] rfl ?_
 show Tri _ _ _ _
 refine zAb ?_
 refine zAb ?_
 refine zAa (by exact tokW) (by exact gok) [] [] rfl ?_
 show Tri _ _ _ _
 obtain ⟨fl,hj,ho1⟩:=zAc h
 refine zDY (fl:=fl) (fun z => match z with | x7 => ⟨ofL [(0,.op 0 0),(1,.s (.sl 1 ((List.map (irow .i64)) a2))),(2,.s (.int .i64 a3)),(9,.s (.pt [.int .i64 a4_kind,.str a4_text,.int .i64 a4_cols,.sl 4 (Nd.encs a4_kids)])),(10,.s (.pt [.int .i64 a5_kind,.str a5_text,.int .i64 a5_cols,.sl 4 (Nd.encs a5_kids)])),(11,.s (.pt [.int .i64 a6_kind,.str a6_text,.int .i64 a6_cols,.sl 4 (Nd.encs a6_kids)])),(12,.op 3 0),(13,.op 4 0)],ofH [(0,.box 62 [.s (.int .i64 o1_side),.orow 2]),(2,.row 52 5 ((List.map zAd) o1_l)),(3,.box 24 [.s (.int .i64 0),.s (.str []),.s (.int .i64 0),.nl 4]),(4,.box 24 [.s (.int .i64 a4_kind),.s (.str x7),.s (.int .i64 a4_cols),.nl 4])],5⟩) ?_ (fun x7 σ' hz hle => ?_)
 ·replace h:=hj
  refine zAf rfl (fun hb => ?_) (fun hb => ?_)
  ·replace h:=zAs hb h
   refine zAa (by exact tokW) (by exact gok) [] [] rfl ?_
   cases h
   exact ⟨_,rfl,(Le.rename [(0,0),(1,2),(2,3),(3,4)] _ _ _ ⟨rfl,rfl,rfl,rfl,rfl,rfl,rfl,rfl,trivial⟩ ⟨rfl,⟨_,rfl,rfl⟩,rfl,⟨_,rfl,rfl⟩,rfl,⟨_,rfl,rfl⟩,rfl,⟨_,rfl,rfl⟩,trivial⟩ rfl rfl rfl rfl rfl)⟩
  ·replace h:=zAr hb h
   refine zAb ?_
   obtain ⟨x8,hj,h⟩:=zAc h
   refine zAp ⟨ofL [(0,.op 0 0),(1,.s (.sl 1 ((List.map (irow .i64)) a2))),(2,.s (.int .i64 a3)),(9,.s (.pt [.int .i64 a4_kind,.str a4_text,.int .i64 a4_cols,.sl 4 (Nd.encs a4_kids)])),(10,.s (.pt [.int .i64 a5_kind,.str a5_text,.int .i64 a5_cols,.sl 4 (Nd.encs a5_kids)])),(11,.s (.pt [.int .i64 a6_kind,.str a6_text,.int .i64 a6_cols,.sl 4 (Nd.encs a6_kids)])),(12,.op 3 0),(13,.op 4 0),(42,.s (.bool x8))],ofH [(0,.box 62 [.s (.int .i64 o1_side),.orow 2]),(2,.row 52 5 ((List.map zAd) o1_l)),(3,.box 24 [.s (.int .i64 0),.s (.str []),.s (.int .i64 0),.nl 4]),(4,.box 24 [.s (.int .i64 a4_kind),.s (.str a5_text),.s (.int .i64 a4_cols),.nl 4])],5⟩ ?_ (fun σ' hle => ?_)
   ·replace h:=hj
    refine zAa (by exact tokW) (by exact gok) [] [36] rfl ?_
    intro b hb
    cases b with
    | true =>
     replace h:=zAs hb.symm h
     cases h
     exact (Le.rename [(0,0),(1,2),(2,3),(3,4)] _ _ _ ⟨rfl,rfl,rfl,rfl,rfl,rfl,rfl,rfl,rfl,trivial⟩ ⟨rfl,⟨_,rfl,rfl⟩,rfl,⟨_,rfl,rfl⟩,rfl,⟨_,rfl,rfl⟩,rfl,⟨_,rfl,rfl⟩,trivial⟩ rfl rfl rfl rfl rfl)
    | false =>
     replace h:=zAr hb.symm h
     cases h
     exact (Le.rename [(0,0),(1,2),(2,3),(3,4)] _ _ _ ⟨rfl,rfl,rfl,rfl,rfl,rfl,rfl,rfl,rfl,trivial⟩ ⟨rfl,⟨_,rfl,rfl⟩,rfl,⟨_,rfl,rfl⟩,rfl,⟨_,rfl,rfl⟩,rfl,⟨_,rfl,rfl⟩,trivial⟩ rfl rfl rfl rfl rfl)
   ·show Tri _ _ _ _
    refine zAk hle ?_
    refine zAf rfl (fun hb => ?_) (fun hb => ?_)
    ·replace h:=zAs hb h
     refine zAb ?_
     refine zAa (by exact tokW) (by exact gok) [] [47,49,51,53] rfl ?_
     intro r9 hr9
     obtain rfl : Nd.encs [Nd.mk a4_kind a4_text a4_cols a4_kids] = r9:=(hr9.trans (by simp [List.map_append,List.map_take,List.map_drop,irow,brow,zAC,List.map_cons,List.map_nil,zAz,Nd.encs_eq,Nd.enc,zAg,zAe,zAh,zAo,zAw,zAl,zAt,zAd,zAu,zAm,zAO,zAy])).symm
     intro r10 hr10
     obtain rfl : Nd.encs [Nd.mk a5_kind a5_text a5_cols a5_kids] = r10:=(hr10.trans (by simp [List.map_append,List.map_take,List.map_drop,irow,brow,zAC,List.map_cons,List.map_nil,zAz,Nd.encs_eq,Nd.enc,zAg,zAe,zAh,zAo,zAw,zAl,zAt,zAd,zAu,zAm,zAO,zAy])).symm
     intro r11 hr11
     obtain rfl : Nd.encs [Nd.mk a6_kind a6_text a6_cols a6_kids] = r11:=(hr11.trans (by simp [List.map_append,List.map_take,List.map_drop,irow,brow,zAC,List.map_cons,List.map_nil,zAz,Nd.encs_eq,Nd.enc,zAg,zAe,zAh,zAo,zAw,zAl,zAt,zAd,zAu,zAm,zAO,zAy])).symm
     obtain ⟨⟨y12,⟨w13_side,w13_l⟩⟩,hy12,h⟩:=zAc h
     refine ⟨_,_,⟨_,_,_,_,_,_,_,_,_,hy12,rfl,rfl,rfl,rfl⟩,?_⟩
     obtain ⟨⟨e14_kind,e14_text,e14_cols,e14_kids⟩,he14,h⟩:=zAc h
     refine And.intro (zAA Nd.encs_eq he14).1 ?_
     intro r15 hr15
     obtain rfl : [.int .i64 e14_kind,.str e14_text,.int .i64 e14_cols,.sl 4 (Nd.encs e14_kids)] = r15:=(hr15.trans (zAA Nd.encs_eq he14).2.1).symm
     show Tri _ _ _ _
     refine zAv ?_
     cases h
     replace h : some _ = some _:=ho1
     obtain ⟨hj1,hk1⟩:=Prod.mk.inj (Option.some.inj h)
     subst hj1
     subst hk1
     unfold zBy
     exact ⟨_,(Le.rename [(0,0),(5,2),(3,3)] [(12,.op 3 0)] [(0,.box 62 [.s (.int .i64 w13_side),.orow 2]),(2,.row 52 5 ((List.map zAd) w13_l)),(3,.box 24 [.s (.int .i64 e14_kind),.s (.str e14_text),.s (.int .i64 e14_cols),.s (.sl 4 (Nd.encs e14_kids))])] 4 ⟨rfl,trivial⟩ ⟨rfl,⟨_,rfl,rfl⟩,rfl,⟨_,rfl,rfl⟩,rfl,⟨_,rfl,rfl⟩,trivial⟩ rfl rfl rfl rfl rfl),rfl,rfl,rfl,rfl,rfl,rfl,trivial⟩
    ·replace h:=zAr hb h
     refine zAj ?_
     cases h
     exact ⟨_,rfl,(Le.rename [(0,0),(2,2),(3,3),(4,4)] _ _ _ ⟨rfl,rfl,rfl,rfl,rfl,rfl,rfl,rfl,trivial⟩ ⟨rfl,⟨_,rfl,rfl⟩,rfl,⟨_,rfl,rfl⟩,rfl,⟨_,rfl,rfl⟩,rfl,⟨_,rfl,rfl⟩,trivial⟩ rfl rfl rfl rfl rfl)⟩
 ·subst hz
  replace h:=ho1
  show Tri _ _ _ _
  refine zAk hle ?_
  refine zAb ?_
  refine zAb ?_
  refine zAa (by exact tokW) (by exact gok) [] [] rfl ?_
  show Tri _ _ _ _
  obtain ⟨⟨x23,l24,l25⟩,hl,h⟩:=zAc h
  refine zAp ⟨ofL [(12,.op 3 0),(13,.op 4 0)],ofH [(0,.box 62 [.s (.int .i64 x23),.orow 2]),(2,.row 52 5 ((List.map zAd) l24)),(3,.box 24 [.s (.int .i64 0),.s (.str []),.s (.int .i64 0),.nl 4]),(4,.box 24 [.s (.int .i64 a4_kind),.s (.str x7),.s (.int .i64 a4_cols),.orow 5]),(5,.row 24 4 (Nd.encs l25))],6⟩ ?_ (fun σ' hle => ?_)
  ·refine zAn (zAG (X:=Nat × Int × Int × (List (List Int × Int × Int × List Nd × List Nd)) × (List Nd)) (fun y => match y with | (k,x16,x20,l21,l22) => ⟨ofL [(0,.op 0 0),(1,.s (.sl 1 ((List.map (irow .i64)) a2))),(2,.s (.int .i64 a3)),(9,.s (.pt [.int .i64 a4_kind,.str a4_text,.int .i64 a4_cols,.sl 4 (Nd.encs a4_kids)])),(10,.s (.pt [.int .i64 a5_kind,.str a5_text,.int .i64 a5_cols,.sl 4 (Nd.encs a5_kids)])),(11,.s (.pt [.int .i64 a6_kind,.str a6_text,.int .i64 a6_cols,.sl 4 (Nd.encs a6_kids)])),(12,.op 3 0),(13,.op 4 0),(14,.s (.int .i64 x20))],ofH [(0,.box 62 [.s (.int .i64 x16),.orow 2]),(2,.row 52 5 ((List.map zAd) l21)),(3,.box 24 [.s (.int .i64 0),.s (.str []),.s (.int .i64 0),.nl 4]),(4,.box 24 [.s (.int .i64 a4_kind),.s (.str x7),.s (.int .i64 a4_cols),.orow 5]),(5,.row 24 4 (Nd.encs l22))],6⟩) (fun y => zBf (zBd n) a2 a3 a4_kids a5_kids a6_kids y.1 y.2.1 y.2.2.1 y.2.2.2.1 y.2.2.2.2 = some (x23,l24,l25)) (fun y => y.1) (n,o1_side,0,o1_l,[]) hl ?_ ?_)
   ·exact (Le.trans (Le.trans (Le.rename [(0,0),(2,2),(3,3),(4,4)] [(0,.op 0 0),(1,.s (.sl 1 ((List.map (irow .i64)) a2))),(2,.s (.int .i64 a3)),(9,.s (.pt [.int .i64 a4_kind,.str a4_text,.int .i64 a4_cols,.sl 4 (Nd.encs a4_kids)])),(10,.s (.pt [.int .i64 a5_kind,.str a5_text,.int .i64 a5_cols,.sl 4 (Nd.encs a5_kids)])),(11,.s (.pt [.int .i64 a6_kind,.str a6_text,.int .i64 a6_cols,.sl 4 (Nd.encs a6_kids)])),(12,.op 3 0),(13,.op 4 0),(14,.s (.int .i64 0))] [(0,.box 62 [.s (.int .i64 o1_side),.orow 2]),(2,.row 52 5 ((List.map zAd) o1_l)),(3,.box 24 [.s (.int .i64 0),.s (.str []),.s (.int .i64 0),.nl 4]),(4,.box 24 [.s (.int .i64 a4_kind),.s (.str x7),.s (.int .i64 a4_cols),.nl 4])] 5 ⟨rfl,rfl,rfl,rfl,rfl,rfl,rfl,rfl,rfl,trivial⟩ ⟨rfl,⟨_,rfl,rfl⟩,rfl,⟨_,rfl,rfl⟩,rfl,⟨_,rfl,rfl⟩,rfl,⟨_,rfl,rfl⟩,trivial⟩ rfl rfl rfl rfl rfl) (Le.takeNil 4 3 24 rfl rfl (by decide))) (Le.rename [(0,0),(2,2),(3,3),(4,4),(5,5)] _ _ _ ⟨rfl,rfl,rfl,rfl,rfl,rfl,rfl,rfl,rfl,trivial⟩ ⟨rfl,⟨_,rfl,rfl⟩,rfl,⟨_,rfl,rfl⟩,rfl,⟨_,rfl,rfl⟩,rfl,⟨_,rfl,rfl⟩,rfl,⟨_,rfl,congrArg (Ob.row 24 4) (by simp [List.map_append,List.map_take,List.map_drop,irow,brow,zAC,List.map_cons,List.map_nil,zAz,Nd.encs_eq,Nd.enc,zAg,zAe,zAh,zAo,zAw,zAl,zAt,zAd,zAu,zAm,zAO,zAy])⟩,trivial⟩ rfl rfl rfl rfl rfl))
   ·rintro ⟨k,x16,x20,l21,l22⟩ h
    cases k with
    | zero => cases h
    | succ k =>
     replace h : zBf (zBd n) a2 a3 a4_kids a5_kids a6_kids (k+1) x16 x20 l21 l22 = some (x23,l24,l25):=h
     rw [zBf] at h
     refine zAb ?_
     refine zAb ?_
     refine zAa (by exact tokW) (by exact gok) [] [58] rfl ?_
     intro n26 hn26
     obtain rfl : (a4_kids.length : Int) = n26:=(hn26.trans (congrArg (fun m : Nat => (m : Int)) (rlen Nd.encs_eq a4_kids))).symm
     show Tri _ _ _ _
     refine zAf rfl (fun hb => ?_) (fun hb => ?_)
     ·replace h:=zAs hb h
      refine zAj ?_
      show Tri _ _ _ _
      refine zAb ?_
      refine zAn ?_
      refine zAb ?_
      refine zAa (by exact tokW) (by exact gok) [62,64,68] [67] rfl ?_
      obtain ⟨hq,h⟩:=zAF h
      refine And.intro (show (([] : List (List S)).length + ((List.map (irow .i64)) a2).length) * 8 ≤ 140737488355328 ∧ ([] : List (List S)).length + ((List.map (irow .i64)) a2).length ≤ 9223372036854775807 from by simp only [List.length_append,List.length_cons,List.length_nil,List.length_map,rlen (fun _ => rfl)] at hq ⊢; omega) ?_
      intro r27 hr27
      have hl2 : r27.length = 2:=by rw [hr27]; rfl
      obtain ⟨hq,h⟩:=zAF h
      refine And.intro (show (([] ++ ((List.map (irow .i64)) a2)).length + r27.length) * 8 ≤ 140737488355328 ∧ ([] ++ ((List.map (irow .i64)) a2)).length + r27.length ≤ 9223372036854775807 from by rw [hl2]; simp only [List.length_append,List.length_cons,List.length_nil,List.length_map] at hq ⊢; omega) ?_
      clear hl2
      obtain rfl : (List.map (irow .i64)) [a3,x20] = r27:=(hr27.trans (by simp [List.map_append,List.map_take,List.map_drop,irow,brow,zAC,List.map_cons,List.map_nil,zAz,Nd.encs_eq,Nd.enc,zAg,zAe,zAh,zAo,zAw,zAl,zAt,zAd,zAu,zAm,zAO,zAy])).symm
      show Tri _ _ _ _
      refine zAk (Le.trans (Le.rename [(0,0),(2,2),(3,3),(4,4),(5,5),(8,6)] [(0,.op 0 0),(1,.s (.sl 1 ((List.map (irow .i64)) a2))),(2,.s (.int .i64 a3)),(9,.s (.pt [.int .i64 a4_kind,.str a4_text,.int .i64 a4_cols,.sl 4 (Nd.encs a4_kids)])),(10,.s (.pt [.int .i64 a5_kind,.str a5_text,.int .i64 a5_cols,.sl 4 (Nd.encs a5_kids)])),(11,.s (.pt [.int .i64 a6_kind,.str a6_text,.int .i64 a6_cols,.sl 4 (Nd.encs a6_kids)])),(12,.op 3 0),(13,.op 4 0),(14,.s (.int .i64 x20)),(15,.orow 6)] [(0,.box 62 [.s (.int .i64 x16),.orow 2]),(2,.row 52 5 ((List.map zAd) l21)),(3,.box 24 [.s (.int .i64 0),.s (.str []),.s (.int .i64 0),.nl 4]),(4,.box 24 [.s (.int .i64 a4_kind),.s (.str x7),.s (.int .i64 a4_cols),.orow 5]),(5,.row 24 4 (Nd.encs l22)),(6,.row 3 1 ((List.map (irow .i64)) (a2 ++ [a3,x20])))] 7 ⟨rfl,rfl,rfl,rfl,rfl,rfl,rfl,rfl,rfl,rfl,trivial⟩ ⟨rfl,⟨_,rfl,rfl⟩,rfl,⟨_,rfl,rfl⟩,rfl,⟨_,rfl,rfl⟩,rfl,⟨_,rfl,rfl⟩,rfl,⟨_,rfl,rfl⟩,rfl,⟨_,rfl,congrArg (Ob.row 3 1) (by simp [List.map_append,List.map_take,List.map_drop,irow,brow,zAC,List.map_cons,List.map_nil,zAz,Nd.encs_eq,Nd.enc,zAg,zAe,zAh,zAo,zAw,zAl,zAt,zAd,zAu,zAm,zAO,zAy])⟩,trivial⟩ rfl rfl rfl rfl rfl) (Le.giveRow 6 rfl)) ?_
      refine zMj (by exact tokW) (by exact gok) (by exact mixed) (two 4 5) (zRi (show 4 < 7 by decide) (show 5 < 7 by decide)) [94] [76,82,88,93] [1,22,23,25,27] [1,22,23] rfl (by decide +kernel) ?_
      obtain ⟨⟨e28_kind,e28_text,e28_cols,e28_kids⟩,he28,h⟩:=zAc h
      refine And.intro (zAA Nd.encs_eq he28).1 ?_
      intro r29 hr29
      obtain rfl : [.int .i64 e28_kind,.str e28_text,.int .i64 e28_cols,.sl 4 (Nd.encs e28_kids)] = r29:=(hr29.trans (zAA Nd.encs_eq he28).2.1).symm
      obtain ⟨⟨e30_kind,e30_text,e30_cols,e30_kids⟩,he30,h⟩:=zAc h
      refine And.intro (zAA Nd.encs_eq he30).1 ?_
      intro r31 hr31
      obtain rfl : [.int .i64 e30_kind,.str e30_text,.int .i64 e30_cols,.sl 4 (Nd.encs e30_kids)] = r31:=(hr31.trans (zAA Nd.encs_eq he30).2.1).symm
      obtain ⟨⟨e32_kind,e32_text,e32_cols,e32_kids⟩,he32,h⟩:=zAc h
      refine And.intro (zAA Nd.encs_eq he32).1 ?_
      intro r33 hr33
      obtain rfl : [.int .i64 e32_kind,.str e32_text,.int .i64 e32_cols,.sl 4 (Nd.encs e32_kids)] = r33:=(hr33.trans (zAA Nd.encs_eq he32).2.1).symm
      obtain ⟨⟨y34,⟨w35_side,w35_l⟩⟩,hy34,h⟩:=zAc h
      refine ⟨_,_,⟨_,_,_,_,_,_,_,hy34,rfl,rfl,rfl,rfl⟩,And.intro (zTq rfl rfl) ?_⟩
      obtain ⟨⟨y36_kind,y36_text,y36_cols,y36_kids⟩,hy36,h⟩:=zAc h
      refine ⟨_,⟨_,_,hy36,rfl,rfl⟩,And.intro (zTq rfl rfl) ?_⟩
      intro r37 hr37
      obtain rfl : Nd.encs [Nd.mk y36_kind y36_text y36_cols y36_kids] = r37:=(hr37.trans (by simp [List.map_append,List.map_take,List.map_drop,irow,brow,zAC,List.map_cons,List.map_nil,zAz,Nd.encs_eq,Nd.enc,zAg,zAe,zAh,zAo,zAw,zAl,zAt,zAd,zAu,zAm,zAO,zAy])).symm
      obtain ⟨hq,h⟩:=zAF h
      refine And.intro (show ((Nd.encs l22).length + (Nd.encs [Nd.mk y36_kind y36_text y36_cols y36_kids]).length) * 56 ≤ 140737488355328 ∧ (Nd.encs l22).length + (Nd.encs [Nd.mk y36_kind y36_text y36_cols y36_kids]).length ≤ 9223372036854775807 from by simp only [List.length_append,List.length_cons,List.length_nil,List.length_map,rlen Nd.encs_eq] at hq ⊢; omega) ?_
      show Tri _ _ _ _
      refine zAk (Le.rename [(0,0),(7,2),(3,3),(4,4),(9,5)] [(0,.op 0 0),(1,.s (.sl 1 ((List.map (irow .i64)) a2))),(2,.s (.int .i64 a3)),(9,.s (.pt [.int .i64 a4_kind,.str a4_text,.int .i64 a4_cols,.sl 4 (Nd.encs a4_kids)])),(10,.s (.pt [.int .i64 a5_kind,.str a5_text,.int .i64 a5_cols,.sl 4 (Nd.encs a5_kids)])),(11,.s (.pt [.int .i64 a6_kind,.str a6_text,.int .i64 a6_cols,.sl 4 (Nd.encs a6_kids)])),(12,.op 3 0),(13,.op 4 0),(14,.s (.int .i64 x20))] [(0,.box 62 [.s (.int .i64 w35_side),.orow 2]),(2,.row 52 5 ((List.map zAd) w35_l)),(3,.box 24 [.s (.int .i64 0),.s (.str []),.s (.int .i64 0),.nl 4]),(4,.box 24 [.s (.int .i64 a4_kind),.s (.str x7),.s (.int .i64 a4_cols),.orow 5]),(5,.row 24 4 (Nd.encs (l22 ++ [Nd.mk y36_kind y36_text y36_cols y36_kids])))] 6 ⟨rfl,rfl,rfl,rfl,rfl,rfl,rfl,rfl,rfl,trivial⟩ ⟨rfl,⟨_,rfl,rfl⟩,rfl,⟨_,rfl,rfl⟩,rfl,⟨_,rfl,rfl⟩,rfl,⟨_,rfl,rfl⟩,rfl,⟨_,rfl,congrArg (Ob.row 24 4) (by simp [List.map_append,List.map_take,List.map_drop,irow,brow,zAC,List.map_cons,List.map_nil,zAz,Nd.encs_eq,Nd.enc,zAg,zAe,zAh,zAo,zAw,zAl,zAt,zAd,zAu,zAm,zAO,zAy])⟩,trivial⟩ rfl rfl rfl rfl rfl) ?_
      refine zAa (by exact tokW) (by exact gok) [] [] rfl ?_
      refine ⟨(k,w35_side,IntKind.i64.wrap (x20 + 1),w35_l,l22 ++ [Nd.mk y36_kind y36_text y36_cols y36_kids]),h,(Le.rename [(0,0),(2,2),(3,3),(4,4),(5,5)] _ _ _ ⟨rfl,rfl,rfl,rfl,rfl,rfl,rfl,rfl,rfl,trivial⟩ ⟨rfl,⟨_,rfl,rfl⟩,rfl,⟨_,rfl,rfl⟩,rfl,⟨_,rfl,rfl⟩,rfl,⟨_,rfl,rfl⟩,rfl,⟨_,rfl,rfl⟩,trivial⟩ rfl rfl rfl rfl rfl),Nat.lt_succ_self k⟩
     ·replace h:=zAr hb h
      refine zAK ?_
      cases h
      exact (Le.rename [(0,0),(2,2),(3,3),(4,4),(5,5)] _ _ _ ⟨rfl,rfl,trivial⟩ ⟨rfl,⟨_,rfl,rfl⟩,rfl,⟨_,rfl,rfl⟩,rfl,⟨_,rfl,rfl⟩,rfl,⟨_,rfl,rfl⟩,rfl,⟨_,rfl,rfl⟩,trivial⟩ rfl rfl rfl rfl rfl)
  ·show Tri _ _ _ _
   refine zAk hle ?_
   refine zAb ?_
   refine zAk (Le.trans (Le.rename [(0,0),(2,2),(3,3),(4,4),(5,5)] [(12,.op 3 0),(13,.op 4 0)] [(0,.box 62 [.s (.int .i64 x23),.orow 2]),(2,.row 52 5 ((List.map zAd) l24)),(3,.box 24 [.s (.int .i64 0),.s (.str []),.s (.int .i64 0),.nl 4]),(4,.box 24 [.s (.int .i64 a4_kind),.s (.str x7),.s (.int .i64 a4_cols),.orow 5]),(5,.row 24 4 (Nd.encs l25))] 6 ⟨rfl,rfl,trivial⟩ ⟨rfl,⟨_,rfl,rfl⟩,rfl,⟨_,rfl,rfl⟩,rfl,⟨_,rfl,rfl⟩,rfl,⟨_,rfl,rfl⟩,rfl,⟨_,rfl,rfl⟩,trivial⟩ rfl rfl rfl rfl rfl) (Le.giveRow 5 rfl)) ?_
   refine zAk (Le.trans (Le.rename [(0,0),(2,2),(3,3),(4,4)] [(12,.op 3 0),(13,.op 4 0)] [(0,.box 62 [.s (.int .i64 x23),.orow 2]),(2,.row 52 5 ((List.map zAd) l24)),(3,.box 24 [.s (.int .i64 0),.s (.str []),.s (.int .i64 0),.nl 4]),(4,.box 24 [.s (.int .i64 a4_kind),.s (.str x7),.s (.int .i64 a4_cols),.s (.sl 4 (Nd.encs l25))])] 5 ⟨rfl,rfl,trivial⟩ ⟨rfl,⟨_,rfl,rfl⟩,rfl,⟨_,rfl,rfl⟩,rfl,⟨_,rfl,rfl⟩,rfl,⟨_,rfl,rfl⟩,trivial⟩ rfl rfl rfl rfl rfl) (Le.giveBox 4 [.int .i64 a4_kind,.str x7,.int .i64 a4_cols,.sl 4 (Nd.encs l25)] rfl rfl)) ?_
   refine zAa (by exact tokW) (by exact gok) [] [] rfl ?_
   show Tri _ _ _ _
   refine zAv ?_
   obtain ⟨hj1,hk1⟩:=Prod.mk.inj (Option.some.inj h)
   subst hj1
   subst hk1
   unfold zBy
   exact ⟨_,(Le.rename [(0,0),(2,2),(3,3)] [(12,.op 3 0)] [(0,.box 62 [.s (.int .i64 x23),.orow 2]),(2,.row 52 5 ((List.map zAd) l24)),(3,.box 24 [.s (.int .i64 a4_kind),.s (.str x7),.s (.int .i64 a4_cols),.s (.sl 4 (Nd.encs l25))])] 4 ⟨rfl,trivial⟩ ⟨rfl,⟨_,rfl,rfl⟩,rfl,⟨_,rfl,rfl⟩,rfl,⟨_,rfl,rfl⟩,trivial⟩ rfl rfl rfl rfl rfl),rfl,rfl,rfl,rfl,rfl,rfl,trivial⟩
theorem zHU (n : Nat) (ih_r17_merger_item : PSound Tryz.prog 46 (zBN (zCu n))) (ih_r17_merger_row : PSound Tryz.prog 30 (zBN (zCc n))) : PSound Tryz.prog 30 (zBN (zCc (n + 1))):=by
 have gok : ∀ f s,look? f [(43,zJ7),(44,zH6),(45,zFG),(46,zBN (zCu n))] = some s → PSound Tryz.prog f s:=zAE (by
  simp only [List.forall_mem_cons]
  exact ⟨zOx,zLl,zIp,ih_r17_merger_item,by simp⟩)
 refine PSound.withNil (zD3 tokW Tryz.call30 Tryz.func30 rfl (fun xs os x os' h => by obtain ⟨_,_,_,_,_,_,_,_,rfl,rfl,_,rfl⟩:=h; exact ⟨by show 5 ≤ 102; decide,by show 2 ≤ 4; decide⟩) 102 rfl ?_) _
 rintro xs os x os' w0 G0 B0 ⟨⟨o1_side,o1_l⟩,a2,a3,a4,a5,y0,z0,h,rfl,rfl,rfl,rfl⟩ _
 rw [zBd] at h
 refine zAb ?_
 refine zAa (by exact tokW) (by exact gok) [10] [] rfl ?_
 show Tri _ _ _ _
 refine zAk (Le.rename [(0,0),(1,2)] [(0,.op 0 0),(1,.s (.sl 1 ((List.map (irow .i64)) a2))),(2,.s (.sl 4 (Nd.encs a3))),(3,.s (.sl 4 (Nd.encs a4))),(4,.s (.sl 4 (Nd.encs a5)))] [(0,.box 62 [.s (.int .i64 o1_side),.orow 2]),(2,.row 52 5 ((List.map zAd) o1_l))] 3 ⟨rfl,rfl,rfl,rfl,rfl,trivial⟩ ⟨rfl,⟨_,rfl,rfl⟩,rfl,⟨_,rfl,rfl⟩,trivial⟩ rfl rfl rfl rfl rfl) ?_
 refine zAb ?_
 refine zAa (by exact tokW) (by exact gok) [] [] rfl ?_
 obtain ⟨y6,hy6,h⟩:=zAc h
 refine ⟨_,⟨_,_,_,_,hy6,rfl,rfl⟩,?_⟩
 obtain ⟨y7,hy7,h⟩:=zAc h
 refine ⟨_,⟨_,_,_,_,hy7,rfl,rfl⟩,?_⟩
 show Tri _ _ _ _
 refine zAb ?_
 refine zAa (by exact tokW) (by exact gok) [13] [] rfl ?_
 show Tri _ _ _ _
 refine zAk (Le.rename [(0,0),(2,2),(3,3)] [(0,.op 0 0),(1,.s (.sl 1 ((List.map (irow .i64)) a2))),(2,.s (.sl 4 (Nd.encs a3))),(3,.s (.sl 4 (Nd.encs a4))),(4,.s (.sl 4 (Nd.encs a5))),(11,.s (.sl 2 ((List.map zAt) y6))),(12,.s (.sl 2 ((List.map zAt) y7))),(13,.orow 3)] [(0,.box 62 [.s (.int .i64 o1_side),.orow 2]),(2,.row 52 5 ((List.map zAd) o1_l)),(3,.row 24 4 (Nd.encs []))] 4 ⟨rfl,rfl,rfl,rfl,rfl,rfl,rfl,rfl,trivial⟩ ⟨rfl,⟨_,rfl,rfl⟩,rfl,⟨_,rfl,rfl⟩,rfl,⟨_,rfl,congrArg (Ob.row 24 4) (by simp [List.map_append,List.map_take,List.map_drop,irow,brow,zAC,List.map_cons,List.map_nil,zAz,Nd.encs_eq,Nd.enc,zAg,zAe,zAh,zAo,zAw,zAl,zAt,zAd,zAu,zAm,zAO,zAy])⟩,trivial⟩ rfl rfl rfl rfl rfl) ?_
 refine zAb ?_
 refine zAa (by exact tokW) (by exact gok) [] [] rfl ?_
 show Tri _ _ _ _
 refine zAb ?_
 refine zAb ?_
 refine zAa (by exact tokW) (by exact gok) [] [] rfl ?_
 show Tri _ _ _ _
 obtain ⟨⟨x17,x18,x19,x20,l21,l22⟩,hl,h⟩:=zAc h
 refine zAp ⟨ofL [(0,.op 0 0),(1,.s (.sl 1 ((List.map (irow .i64)) a2))),(2,.s (.sl 4 (Nd.encs a3))),(3,.s (.sl 4 (Nd.encs a4))),(4,.s (.sl 4 (Nd.encs a5))),(13,.orow 3),(14,.s (.int .i64 x17)),(15,.s (.int .i64 x18)),(16,.s (.int .i64 x19))],ofH [(0,.box 62 [.s (.int .i64 x20),.orow 2]),(2,.row 52 5 ((List.map zAd) l21)),(3,.row 24 4 (Nd.encs l22))],4⟩ ?_ (fun σ' hle => ?_)
 ·refine zAn (zAG (X:=Nat × Int × Int × Int × Int × Int × (List (List Int × Int × Int × List Nd × List Nd)) × (List Nd)) (fun y => match y with | (k,x8,x11,x12,x13,x14,l15,l16) => ⟨ofL [(0,.op 0 0),(1,.s (.sl 1 ((List.map (irow .i64)) a2))),(2,.s (.sl 4 (Nd.encs a3))),(3,.s (.sl 4 (Nd.encs a4))),(4,.s (.sl 4 (Nd.encs a5))),(11,.s (.sl 2 ((List.map zAt) y6))),(12,.s (.sl 2 ((List.map zAt) y7))),(13,.orow 3),(14,.s (.int .i64 x11)),(15,.s (.int .i64 x12)),(16,.s (.int .i64 x13)),(17,.s (.int .i64 x14))],ofH [(0,.box 62 [.s (.int .i64 x8),.orow 2]),(2,.row 52 5 ((List.map zAd) l15)),(3,.row 24 4 (Nd.encs l16))],4⟩) (fun y => zBb (zBn n) n a2 a3 a4 a5 y6 y7 y.1 y.2.1 y.2.2.1 y.2.2.2.1 y.2.2.2.2.1 y.2.2.2.2.2.1 y.2.2.2.2.2.2.1 y.2.2.2.2.2.2.2 = some (x17,x18,x19,x20,l21,l22)) (fun y => y.1) (n,o1_side,0,0,0,0,o1_l,[]) hl ?_ ?_)
  ·exact (Le.rename [(0,0),(2,2),(3,3)] _ _ _ ⟨rfl,rfl,rfl,rfl,rfl,rfl,rfl,rfl,rfl,rfl,rfl,rfl,trivial⟩ ⟨rfl,⟨_,rfl,rfl⟩,rfl,⟨_,rfl,rfl⟩,rfl,⟨_,rfl,rfl⟩,trivial⟩ rfl rfl rfl rfl rfl)
  ·rintro ⟨k,x8,x11,x12,x13,x14,l15,l16⟩ h
   cases k with
   | zero => cases h
   | succ k =>
    replace h : zBb (zBn n) n a2 a3 a4 a5 y6 y7 (k+1) x8 x11 x12 x13 x14 l15 l16 = some (x17,x18,x19,x20,l21,l22):=h
    rw [zBb] at h
    refine zAb ?_
    refine zAb ?_
    refine zAa (by exact tokW) (by exact gok) [] [28] rfl ?_
    intro n23 hn23
    obtain rfl : (a3.length : Int) = n23:=(hn23.trans (congrArg (fun m : Nat => (m : Int)) (rlen Nd.encs_eq a3))).symm
    show Tri _ _ _ _
    refine zAf rfl (fun hb => ?_) (fun hb => ?_)
    ·replace h:=zAs hb h
     refine zAj ?_
     show Tri _ _ _ _
     refine zAb ?_
     obtain ⟨⟨x24,x25,x26,x27,l28,l29⟩,hj,h⟩:=zAc h
     refine zAp ⟨ofL [(0,.op 0 0),(1,.s (.sl 1 ((List.map (irow .i64)) a2))),(2,.s (.sl 4 (Nd.encs a3))),(3,.s (.sl 4 (Nd.encs a4))),(4,.s (.sl 4 (Nd.encs a5))),(11,.s (.sl 2 ((List.map zAt) y6))),(12,.s (.sl 2 ((List.map zAt) y7))),(13,.orow 3),(14,.s (.int .i64 x24)),(15,.s (.int .i64 x25)),(16,.s (.int .i64 x26)),(17,.s (.int .i64 x14))],ofH [(0,.box 62 [.s (.int .i64 x27),.orow 2]),(2,.row 52 5 ((List.map zAd) l28)),(3,.row 24 4 (Nd.encs l29))],4⟩ ?_ (fun σ' hle => ?_)
     ·replace h:=hj
      refine zAn ?_
      refine zAb ?_
      refine zAa (by exact tokW) (by exact gok) [] [] rfl ?_
      obtain ⟨y30,hy30,h⟩:=zAc h
      refine ⟨_,⟨_,_,_,_,hy30,rfl,rfl⟩,?_⟩
      obtain ⟨y31,hy31,h⟩:=zAc h
      refine ⟨_,⟨_,_,_,_,hy31,rfl,rfl⟩,?_⟩
      show Tri _ _ _ _
      refine zAb ?_
      refine zAb ?_
      obtain ⟨x32,hj,h⟩:=zAc h
      refine zAp ⟨ofL [(0,.op 0 0),(1,.s (.sl 1 ((List.map (irow .i64)) a2))),(2,.s (.sl 4 (Nd.encs a3))),(3,.s (.sl 4 (Nd.encs a4))),(4,.s (.sl 4 (Nd.encs a5))),(11,.s (.sl 2 ((List.map zAt) y6))),(12,.s (.sl 2 ((List.map zAt) y7))),(13,.orow 3),(14,.s (.int .i64 x11)),(15,.s (.int .i64 x12)),(16,.s (.int .i64 x13)),(17,.s (.int .i64 x14)),(18,.s (.int .i64 y30)),(19,.s (.int .i64 y31)),(43,.s (.bool x32))],ofH [(0,.box 62 [.s (.int .i64 x8),.orow 2]),(2,.row 52 5 ((List.map zAd) l15)),(3,.row 24 4 (Nd.encs l16))],4⟩ ?_ (fun σ' hle => ?_)
      ·replace h:=hj
       refine zAa (by exact tokW) (by exact gok) [] [40] rfl ?_
       intro b hb
       cases b with
       | true =>
        replace h:=zAs hb.symm h
        cases h
        exact (Le.rename [(0,0),(2,2),(3,3)] _ _ _ ⟨rfl,rfl,rfl,rfl,rfl,rfl,rfl,rfl,rfl,rfl,rfl,rfl,rfl,rfl,rfl,trivial⟩ ⟨rfl,⟨_,rfl,rfl⟩,rfl,⟨_,rfl,rfl⟩,rfl,⟨_,rfl,rfl⟩,trivial⟩ rfl rfl rfl rfl rfl)
       | false =>
        replace h:=zAr hb.symm h
        cases h
        exact (Le.rename [(0,0),(2,2),(3,3)] _ _ _ ⟨rfl,rfl,rfl,rfl,rfl,rfl,rfl,rfl,rfl,rfl,rfl,rfl,rfl,rfl,rfl,trivial⟩ ⟨rfl,⟨_,rfl,rfl⟩,rfl,⟨_,rfl,rfl⟩,rfl,⟨_,rfl,rfl⟩,trivial⟩ rfl rfl rfl rfl rfl)
      ·show Tri _ _ _ _
       refine zAk hle ?_
       refine zAf rfl (fun hb => ?_) (fun hb => ?_)
       ·replace h:=zAs hb h
        refine zAK ?_
        cases h
        exact (Le.rename [(0,0),(2,2),(3,3)] _ _ _ ⟨rfl,rfl,rfl,rfl,rfl,rfl,rfl,rfl,rfl,rfl,rfl,rfl,trivial⟩ ⟨rfl,⟨_,rfl,rfl⟩,rfl,⟨_,rfl,rfl⟩,rfl,⟨_,rfl,rfl⟩,trivial⟩ rfl rfl rfl rfl rfl)
       ·replace h:=zAr hb h
        refine zAj ?_
        show Tri _ _ _ _
        refine zAb ?_
        refine zAD (by exact tokW) (by exact gok) (by exact mixed) [61] [51,55,59] [16,17] rfl (by decide +kernel) ?_
        obtain ⟨hq,h⟩:=zAF h
        refine And.intro ⟨hq.1,hq.2.1,Int.le_trans hq.2.2 (Int.ofNat_le.2 (Nat.le_of_eq (rlen Nd.encs_eq _).symm))⟩ ?_
        intro r33 hr33
        obtain rfl : Nd.encs ((a3.take x14.toNat).drop x11.toNat) = r33:=(hr33.trans (rcut Nd.encs_eq _ _ _)).symm
        obtain ⟨hq,h⟩:=zAF h
        refine And.intro ⟨hq.1,hq.2.1,Int.le_trans hq.2.2 (Int.ofNat_le.2 (Nat.le_of_eq (rlen Nd.encs_eq _).symm))⟩ ?_
        intro r34 hr34
        obtain rfl : Nd.encs ((a4.take y30.toNat).drop x12.toNat) = r34:=(hr34.trans (rcut Nd.encs_eq _ _ _)).symm
        obtain ⟨hq,h⟩:=zAF h
        refine And.intro ⟨hq.1,hq.2.1,Int.le_trans hq.2.2 (Int.ofNat_le.2 (Nat.le_of_eq (rlen Nd.encs_eq _).symm))⟩ ?_
        intro r35 hr35
        obtain rfl : Nd.encs ((a5.take y31.toNat).drop x13.toNat) = r35:=(hr35.trans (rcut Nd.encs_eq _ _ _)).symm
        obtain ⟨⟨y36,⟨w37_side,w37_l⟩⟩,hy36,h⟩:=zAc h
        refine ⟨_,_,⟨_,_,_,_,_,_,_,_,_,hy36,rfl,rfl,rfl,rfl⟩,?_⟩
        obtain ⟨hq,h⟩:=zAF h
        refine And.intro (show ((Nd.encs l16).length + (Nd.encs y36).length) * 56 ≤ 140737488355328 ∧ (Nd.encs l16).length + (Nd.encs y36).length ≤ 9223372036854775807 from by simp only [List.length_append,List.length_cons,List.length_nil,List.length_map,rlen Nd.encs_eq] at hq ⊢; omega) ?_
        show Tri _ _ _ _
        refine zAk (Le.rename [(0,0),(4,2),(5,3)] [(0,.op 0 0),(1,.s (.sl 1 ((List.map (irow .i64)) a2))),(2,.s (.sl 4 (Nd.encs a3))),(3,.s (.sl 4 (Nd.encs a4))),(4,.s (.sl 4 (Nd.encs a5))),(11,.s (.sl 2 ((List.map zAt) y6))),(12,.s (.sl 2 ((List.map zAt) y7))),(13,.orow 3),(17,.s (.int .i64 x14)),(18,.s (.int .i64 y30)),(19,.s (.int .i64 y31))] [(0,.box 62 [.s (.int .i64 w37_side),.orow 2]),(2,.row 52 5 ((List.map zAd) w37_l)),(3,.row 24 4 (Nd.encs (l16 ++ y36)))] 4 ⟨rfl,rfl,rfl,rfl,rfl,rfl,rfl,rfl,rfl,rfl,rfl,trivial⟩ ⟨rfl,⟨_,rfl,rfl⟩,rfl,⟨_,rfl,rfl⟩,rfl,⟨_,rfl,congrArg (Ob.row 24 4) (by simp [List.map_append,List.map_take,List.map_drop,irow,brow,zAC,List.map_cons,List.map_nil,zAz,Nd.encs_eq,Nd.enc,zAg,zAe,zAh,zAo,zAw,zAl,zAt,zAd,zAu,zAm,zAO,zAy])⟩,trivial⟩ rfl rfl rfl rfl rfl) ?_
        refine zAb ?_
        refine zAD (by exact tokW) (by exact gok) (by exact mixed) [80] [68,72,76,79] [16,18] rfl (by decide +kernel) ?_
        obtain ⟨⟨e38_kind,e38_text,e38_cols,e38_kids⟩,he38,h⟩:=zAc h
        refine And.intro (zAA Nd.encs_eq he38).1 ?_
        intro r39 hr39
        obtain rfl : [.int .i64 e38_kind,.str e38_text,.int .i64 e38_cols,.sl 4 (Nd.encs e38_kids)] = r39:=(hr39.trans (zAA Nd.encs_eq he38).2.1).symm
        obtain ⟨⟨e40_kind,e40_text,e40_cols,e40_kids⟩,he40,h⟩:=zAc h
        refine And.intro (zAA Nd.encs_eq he40).1 ?_
        intro r41 hr41
        obtain rfl : [.int .i64 e40_kind,.str e40_text,.int .i64 e40_cols,.sl 4 (Nd.encs e40_kids)] = r41:=(hr41.trans (zAA Nd.encs_eq he40).2.1).symm
        obtain ⟨⟨e42_kind,e42_text,e42_cols,e42_kids⟩,he42,h⟩:=zAc h
        refine And.intro (zAA Nd.encs_eq he42).1 ?_
        intro r43 hr43
        obtain rfl : [.int .i64 e42_kind,.str e42_text,.int .i64 e42_cols,.sl 4 (Nd.encs e42_kids)] = r43:=(hr43.trans (zAA Nd.encs_eq he42).2.1).symm
        obtain ⟨⟨⟨y44_kind,y44_text,y44_cols,y44_kids⟩,⟨w45_side,w45_l⟩⟩,hy44,h⟩:=zAc h
        refine ⟨_,_,⟨_,_,_,_,_,_,_,_,hy44,rfl,rfl,rfl,rfl⟩,?_⟩
        intro r46 hr46
        obtain rfl : Nd.encs [Nd.mk y44_kind y44_text y44_cols y44_kids] = r46:=(hr46.trans (by simp [List.map_append,List.map_take,List.map_drop,irow,brow,zAC,List.map_cons,List.map_nil,zAz,Nd.encs_eq,Nd.enc,zAg,zAe,zAh,zAo,zAw,zAl,zAt,zAd,zAu,zAm,zAO,zAy])).symm
        obtain ⟨hq,h⟩:=zAF h
        refine And.intro (show ((Nd.encs (l16 ++ y36)).length + (Nd.encs [Nd.mk y44_kind y44_text y44_cols y44_kids]).length) * 56 ≤ 140737488355328 ∧ (Nd.encs (l16 ++ y36)).length + (Nd.encs [Nd.mk y44_kind y44_text y44_cols y44_kids]).length ≤ 9223372036854775807 from by simp only [List.length_append,List.length_cons,List.length_nil,List.length_map,rlen Nd.encs_eq] at hq ⊢; omega) ?_
        show Tri _ _ _ _
        refine zAk (Le.rename [(0,0),(4,2),(5,3)] [(0,.op 0 0),(1,.s (.sl 1 ((List.map (irow .i64)) a2))),(2,.s (.sl 4 (Nd.encs a3))),(3,.s (.sl 4 (Nd.encs a4))),(4,.s (.sl 4 (Nd.encs a5))),(11,.s (.sl 2 ((List.map zAt) y6))),(12,.s (.sl 2 ((List.map zAt) y7))),(13,.orow 3),(17,.s (.int .i64 x14)),(18,.s (.int .i64 y30)),(19,.s (.int .i64 y31))] [(0,.box 62 [.s (.int .i64 w45_side),.orow 2]),(2,.row 52 5 ((List.map zAd) w45_l)),(3,.row 24 4 (Nd.encs ((l16 ++ y36) ++ [Nd.mk y44_kind y44_text y44_cols y44_kids])))] 4 ⟨rfl,rfl,rfl,rfl,rfl,rfl,rfl,rfl,rfl,rfl,rfl,trivial⟩ ⟨rfl,⟨_,rfl,rfl⟩,rfl,⟨_,rfl,rfl⟩,rfl,⟨_,rfl,congrArg (Ob.row 24 4) (by simp [List.map_append,List.map_take,List.map_drop,irow,brow,zAC,List.map_cons,List.map_nil,zAz,Nd.encs_eq,Nd.enc,zAg,zAe,zAh,zAo,zAw,zAl,zAt,zAd,zAu,zAm,zAO,zAy])⟩,trivial⟩ rfl rfl rfl rfl rfl) ?_
        refine zAa (by exact tokW) (by exact gok) [] [] rfl ?_
        cases h
        exact (Le.rename [(0,0),(2,2),(3,3)] _ _ _ ⟨rfl,rfl,rfl,rfl,rfl,rfl,rfl,rfl,rfl,rfl,rfl,rfl,trivial⟩ ⟨rfl,⟨_,rfl,rfl⟩,rfl,⟨_,rfl,rfl⟩,rfl,⟨_,rfl,rfl⟩,trivial⟩ rfl rfl rfl rfl rfl)
     ·show Tri _ _ _ _
      refine zAk hle ?_
      refine zAa (by exact tokW) (by exact gok) [] [] rfl ?_
      refine ⟨(k,x27,x24,x25,x26,IntKind.i64.wrap (x14 + 1),l28,l29),h,(Le.rename [(0,0),(2,2),(3,3)] _ _ _ ⟨rfl,rfl,rfl,rfl,rfl,rfl,rfl,rfl,rfl,rfl,rfl,rfl,trivial⟩ ⟨rfl,⟨_,rfl,rfl⟩,rfl,⟨_,rfl,rfl⟩,rfl,⟨_,rfl,rfl⟩,trivial⟩ rfl rfl rfl rfl rfl),Nat.lt_succ_self k⟩
    ·replace h:=zAr hb h
     refine zAK ?_
     cases h
     exact (Le.rename [(0,0),(2,2),(3,3)] _ _ _ ⟨rfl,rfl,rfl,rfl,rfl,rfl,rfl,rfl,rfl,trivial⟩ ⟨rfl,⟨_,rfl,rfl⟩,rfl,⟨_,rfl,rfl⟩,rfl,⟨_,rfl,rfl⟩,trivial⟩ rfl rfl rfl rfl rfl)
 ·show Tri _ _ _ _
  refine zAk hle ?_
  refine zAb ?_
  refine zAD (by exact tokW) (by exact gok) (by exact mixed) [101] [93,96,99] [13,14] rfl (by decide +kernel) ?_
  obtain ⟨hq,h⟩:=zAF h
  refine And.intro ⟨hq.1,Int.le_trans hq.2.1 (Int.ofNat_le.2 (Nat.le_of_eq (rlen Nd.encs_eq _).symm)),Int.le_refl _⟩ ?_
  intro r47 hr47
  obtain rfl : Nd.encs ((a3.take (a3.length : Int).toNat).drop x17.toNat) = r47:=(hr47.trans ((congrArg (fun m : Nat => ((Nd.encs a3).take m).drop x17.toNat) (rlen Nd.encs_eq _)).trans (rcut Nd.encs_eq _ _ _))).symm
  obtain ⟨hq,h⟩:=zAF h
  refine And.intro ⟨hq.1,Int.le_trans hq.2.1 (Int.ofNat_le.2 (Nat.le_of_eq (rlen Nd.encs_eq _).symm)),Int.le_refl _⟩ ?_
  intro r48 hr48
  obtain rfl : Nd.encs ((a4.take (a4.length : Int).toNat).drop x18.toNat) = r48:=(hr48.trans ((congrArg (fun m : Nat => ((Nd.encs a4).take m).drop x18.toNat) (rlen Nd.encs_eq _)).trans (rcut Nd.encs_eq _ _ _))).symm
  obtain ⟨hq,h⟩:=zAF h
  refine And.intro ⟨hq.1,Int.le_trans hq.2.1 (Int.ofNat_le.2 (Nat.le_of_eq (rlen Nd.encs_eq _).symm)),Int.le_refl _⟩ ?_
  intro r49 hr49
  obtain rfl : Nd.encs ((a5.take (a5.length : Int).toNat).drop x19.toNat) = r49:=(hr49.trans ((congrArg (fun m : Nat => ((Nd.encs a5).take m).drop x19.toNat) (rlen Nd.encs_eq _)).trans (rcut Nd.encs_eq _ _ _))).symm
  obtain ⟨⟨y50,⟨w51_side,w51_l⟩⟩,hy50,h⟩:=zAc h
  refine ⟨_,_,⟨_,_,_,_,_,_,_,_,_,hy50,rfl,rfl,rfl,rfl⟩,?_⟩
  obtain ⟨hq,h⟩:=zAF h
  refine And.intro (show ((Nd.encs l22).length + (Nd.encs y50).length) * 56 ≤ 140737488355328 ∧ (Nd.encs l22).length + (Nd.encs y50).length ≤ 9223372036854775807 from by simp only [List.length_append,List.length_cons,List.length_nil,List.length_map,rlen Nd.encs_eq] at hq ⊢; omega) ?_
  show Tri _ _ _ _
  refine zAk (Le.rename [(0,0),(4,2),(5,3)] [(10,.orow 3)] [(0,.box 62 [.s (.int .i64 w51_side),.orow 2]),(2,.row 52 5 ((List.map zAd) w51_l)),(3,.row 24 4 (Nd.encs (l22 ++ y50)))] 4 ⟨rfl,trivial⟩ ⟨rfl,⟨_,rfl,rfl⟩,rfl,⟨_,rfl,rfl⟩,rfl,⟨_,rfl,congrArg (Ob.row 24 4) (by simp [List.map_append,List.map_take,List.map_drop,irow,brow,zAC,List.map_cons,List.map_nil,zAz,Nd.encs_eq,Nd.enc,zAg,zAe,zAh,zAo,zAw,zAl,zAt,zAd,zAu,zAm,zAO,zAy])⟩,trivial⟩ rfl rfl rfl rfl rfl) ?_
  refine zAv ?_
  obtain ⟨hj1,hk1⟩:=Prod.mk.inj (Option.some.inj h)
  subst hj1
  subst hk1
  unfold zBy
  exact ⟨_,(Le.rename [(0,0),(2,2),(3,3)] [(10,.orow 3)] [(0,.box 62 [.s (.int .i64 w51_side),.orow 2]),(2,.row 52 5 ((List.map zAd) w51_l)),(3,.row 24 4 (Nd.encs (l22 ++ y50)))] 4 ⟨rfl,trivial⟩ ⟨rfl,⟨_,rfl,rfl⟩,rfl,⟨_,rfl,rfl⟩,rfl,⟨_,rfl,rfl⟩,trivial⟩ rfl rfl rfl rfl rfl),rfl,rfl,rfl,rfl,rfl,rfl,rfl,rfl,trivial⟩
theorem zG6 : ∀ n,PSound Tryz.prog 46 (zBN (zCu n)) ∧ PSound Tryz.prog 30 (zBN (zCc n)):=by
 intro n
 induction n with
 | zero =>
  refine ⟨?_,?_⟩
  ·exact zFc Tryz.call46 (fun xs os x os' h => by obtain ⟨_,_,_,_,_,_,_,_,h,_⟩:=h; rw [zBn] at h; cases h) _
  ·exact zFc Tryz.call30 (fun xs os x os' h => by obtain ⟨_,_,_,_,_,_,_,h,_⟩:=h; rw [zBd] at h; cases h) _
 | succ n ih =>
  obtain ⟨ih_r17_merger_item,ih_r17_merger_row⟩:=ih
  exact ⟨zHd n ih_r17_merger_item ih_r17_merger_row,zHU n ih_r17_merger_item ih_r17_merger_row⟩
def zGl : zAB:=zBN (fun xs os x os' => ∃ n,zCc n xs os x os')
theorem zIN : PSound Tryz.prog 30 zGl:=zIP (fun n => (zG6 n).2) _
def zPj (n : Nat) (xs : List AV) (r : Ret) : Prop:=∃ (a0 : Nd) (a1 : Nd) (a2 : Nd) (a3 : Int) (y0 : Nd) (y1 : List (List Int × Int × Int × List Nd × List Nd)) (y2 : Int),zEe n a0 a1 a2 a3 = some (y0,y1,y2) ∧ xs = [.agg ((Nd.enc a0).map .s),.agg ((Nd.enc a1).map .s),.agg ((Nd.enc a2).map .s),.s (.int .i64 a3)] ∧ r = .val (.tup [.agg ((Nd.enc y0).map .s),.s (.sl 5 ((List.map zAd) y1)),.s (.int .i64 y2)])
def zJ9 : zAB:=zAJ fun xs r => ∃ n,zPj n xs r
theorem zOz : PSound Tryz.prog 21 zJ9:=by
 have gok : ∀ f s,look? f [(25,zJ5),(30,zGl),(29,zHA)] = some s → PSound Tryz.prog f s:=zAE (by
  simp only [List.forall_mem_cons]
  exact ⟨zOw,zIN,zJo,by simp⟩)
 refine zAT tokW Tryz.call21 Tryz.func21 rfl (fun xs r h => by obtain ⟨n,_,_,_,_,_,_,_,_,rfl,_⟩:=h; show 4 ≤ 48; decide) 48 rfl ?_
 rintro xs r w0 G0 ⟨n,⟨base1_kind,base1_text,base1_cols,base1_kids⟩,⟨x2_kind,x2_text,x2_cols,x2_kids⟩,⟨y3_kind,y3_text,y3_cols,y3_kids⟩,side4,y0,y1,y2,h,rfl,rfl⟩ _
 rw [zEe] at h
 refine zAb ?_
 refine zAa (by exact tokW) (by exact gok) [8] [] rfl ?_
 show Tri _ _ _ _
 refine zAb ?_
 refine zAb ?_
 obtain ⟨x5,hj,h⟩:=zAc h
 refine zAp ⟨ofL [(3,.s (.int .i64 side4)),(4,.s (.pt [.int .i64 base1_kind,.str base1_text,.int .i64 base1_cols,.sl 4 (Nd.encs base1_kids)])),(5,.s (.pt [.int .i64 x2_kind,.str x2_text,.int .i64 x2_cols,.sl 4 (Nd.encs x2_kids)])),(6,.s (.pt [.int .i64 y3_kind,.str y3_text,.int .i64 y3_cols,.sl 4 (Nd.encs y3_kids)])),(8,.op 0 0),(25,.s (.bool x5))],ofH [(0,.box 24 [.s (.int .i64 0),.s (.str []),.s (.int .i64 0),.nl 4])],1⟩ ?_ (fun σ' hle => ?_)
 ·replace h:=hj
  refine zAa (by exact tokW) (by exact gok) [] [16,21] rfl ?_
  obtain ⟨y6,hy6,h⟩:=zAc h
  refine ⟨_,⟨_,_,_,hy6,rfl,rfl⟩,?_⟩
  intro b hb
  cases b with
  | true =>
   replace h:=zAs hb.symm h
   intro b hb
   subst hb
   cases h
   exact (Le.rename [(0,0)] _ _ _ ⟨rfl,rfl,rfl,rfl,rfl,rfl,trivial⟩ ⟨rfl,⟨_,rfl,rfl⟩,trivial⟩ rfl rfl rfl rfl rfl)
  | false =>
   replace h:=zAr hb.symm h
   obtain ⟨y7,hy7,h⟩:=zAc h
   refine ⟨_,⟨_,_,_,hy7,rfl,rfl⟩,?_⟩
   intro b hb
   cases b with
   | true =>
    replace h:=zAs hb.symm h
    cases h
    exact (Le.rename [(0,0)] _ _ _ ⟨rfl,rfl,rfl,rfl,rfl,rfl,trivial⟩ ⟨rfl,⟨_,rfl,rfl⟩,trivial⟩ rfl rfl rfl rfl rfl)
   | false =>
    replace h:=zAr hb.symm h
    obtain ⟨y8,hy8,h⟩:=zAc h
    refine ⟨_,⟨_,_,_,hy8,rfl,rfl⟩,?_⟩
    cases h
    exact (Le.rename [(0,0)] _ _ _ ⟨rfl,rfl,rfl,rfl,rfl,rfl,trivial⟩ ⟨rfl,⟨_,rfl,rfl⟩,trivial⟩ rfl rfl rfl rfl rfl)
 ·show Tri _ _ _ _
  refine zAk hle ?_
  refine zAf rfl (fun hb => ?_) (fun hb => ?_)
  ·replace h:=zAs hb h
   refine zAb ?_
   refine zAa (by exact tokW) (by exact gok) [] [] rfl ?_
   show Tri _ _ _ _
   refine zAv ?_
   obtain ⟨hj1,hk1⟩:=Prod.mk.inj (Option.some.inj h)
   subst hj1
   obtain ⟨hj2,hk2⟩:=Prod.mk.inj hk1
   subst hj2
   subst hk2
   unfold zAQ
   exact ⟨_,Le.refl _ _,rfl,rfl⟩
  ·replace h:=zAr hb h
   refine zAj ?_
   show Tri _ _ _ _
   refine zAb ?_
   refine zAa (by exact tokW) (by exact gok) [29] [] rfl ?_
   show Tri _ _ _ _
   refine zAk (Le.trans (Le.rename [(0,0),(1,1)] [(4,.s (.pt [.int .i64 base1_kind,.str base1_text,.int .i64 base1_cols,.sl 4 (Nd.encs base1_kids)])),(5,.s (.pt [.int .i64 x2_kind,.str x2_text,.int .i64 x2_cols,.sl 4 (Nd.encs x2_kids)])),(6,.s (.pt [.int .i64 y3_kind,.str y3_text,.int .i64 y3_cols,.sl 4 (Nd.encs y3_kids)])),(8,.op 0 0),(11,.op 1 0)] [(0,.box 24 [.s (.int .i64 0),.s (.str []),.s (.int .i64 0),.nl 4]),(1,.box 62 [.s (.int .i64 side4),.nl 5])] 2 ⟨rfl,rfl,rfl,rfl,rfl,trivial⟩ ⟨rfl,⟨_,rfl,rfl⟩,rfl,⟨_,rfl,rfl⟩,trivial⟩ rfl rfl rfl rfl rfl) (Le.takeNil 1 1 52 rfl rfl (by decide))) ?_
   refine zAb ?_
   refine zAa (by exact tokW) (by exact gok) [12] [] rfl ?_
   obtain ⟨⟨y9,⟨w10_side,w10_l⟩⟩,hy9,h⟩:=zAc h
   refine ⟨_,_,⟨_,_,_,_,_,_,_,_,hy9,rfl,rfl,rfl,rfl⟩,?_⟩
   obtain ⟨⟨y11_kind,y11_text,y11_cols,y11_kids⟩,hy11,h⟩:=zAc h
   refine ⟨_,⟨_,_,hy11,rfl,rfl⟩,?_⟩
   show Tri _ _ _ _
   refine zAk (Le.giveBox 5 [.int .i64 y11_kind,.str y11_text,.int .i64 y11_cols,.sl 4 (Nd.encs y11_kids)] rfl rfl) ?_
   refine zAb ?_
   refine zAb ?_
   refine zAa (by exact tokW) (by exact gok) [] [] rfl ?_
   obtain ⟨y12,hy12,h⟩:=zAc h
   refine ⟨_,⟨_,_,_,hy12,rfl,rfl⟩,?_⟩
   show Tri _ _ _ _
   refine zAf rfl (fun hb => ?_) (fun hb => ?_)
   ·replace h:=zAs hb h
    refine zAb ?_
    refine zAa (by exact tokW) (by exact gok) [] [] rfl ?_
    show Tri _ _ _ _
    refine zAv ?_
    obtain ⟨hj1,hk1⟩:=Prod.mk.inj (Option.some.inj h)
    subst hj1
    obtain ⟨hj2,hk2⟩:=Prod.mk.inj hk1
    subst hj2
    subst hk2
    unfold zAQ
    exact ⟨_,Le.refl _ _,rfl,rfl⟩
   ·replace h:=zAr hb h
    refine zAj ?_
    show Tri _ _ _ _
    refine zAb ?_
    refine zAk (Le.trans (Le.rename [(0,0),(1,1),(3,2)] [(8,.op 0 0),(11,.op 1 0),(12,.s (.pt [.int .i64 y11_kind,.str y11_text,.int .i64 y11_cols,.sl 4 (Nd.encs y11_kids)]))] [(0,.box 24 [.s (.int .i64 0),.s (.str []),.s (.int .i64 0),.nl 4]),(1,.box 62 [.s (.int .i64 w10_side),.orow 2]),(2,.row 52 5 ((List.map zAd) w10_l))] 3 ⟨rfl,rfl,rfl,trivial⟩ ⟨rfl,⟨_,rfl,rfl⟩,rfl,⟨_,rfl,rfl⟩,rfl,⟨_,rfl,rfl⟩,trivial⟩ rfl rfl rfl rfl rfl) (Le.giveRow 2 rfl)) ?_
    refine zAk (Le.trans (Le.rename [(0,0),(1,1)] [(8,.op 0 0),(11,.op 1 0),(12,.s (.pt [.int .i64 y11_kind,.str y11_text,.int .i64 y11_cols,.sl 4 (Nd.encs y11_kids)]))] [(0,.box 24 [.s (.int .i64 0),.s (.str []),.s (.int .i64 0),.nl 4]),(1,.box 62 [.s (.int .i64 w10_side),.s (.sl 5 ((List.map zAd) w10_l))])] 2 ⟨rfl,rfl,rfl,trivial⟩ ⟨rfl,⟨_,rfl,rfl⟩,rfl,⟨_,rfl,rfl⟩,trivial⟩ rfl rfl rfl rfl rfl) (Le.giveBox 1 [.int .i64 w10_side,.sl 5 ((List.map zAd) w10_l)] rfl rfl)) ?_
    refine zAD (by exact tokW) (by exact gok) (by exact mixed) [] [] [5] rfl (by decide +kernel) ?_
    show Tri _ _ _ _
    refine zAv ?_
    obtain ⟨hj1,hk1⟩:=Prod.mk.inj (Option.some.inj h)
    subst hj1
    obtain ⟨hj2,hk2⟩:=Prod.mk.inj hk1
    subst hj2
    subst hk2
    unfold zAQ
    exact ⟨_,Le.refl _ _,rfl,rfl⟩
end Go.Proofs.YtgfneloodabafaaGreatDoor
namespace Go.Proofs.YtgfneloodabafaaGreatDoor
open Go.Abs
def zK4 (n : Nat) (xs : List AV) (r : Ret) : Prop:=∃ (a0 : Nd) (a1 : Nd) (a2 : Nd) (a3 : Bool) (y0 : Nd) (y1 : Int),zCl n a0 a1 a2 a3 = some (y0,y1) ∧ xs = [.agg ((Nd.enc a0).map .s),.agg ((Nd.enc a1).map .s),.agg ((Nd.enc a2).map .s),.s (.bool a3)] ∧ r = .val (.tup [.agg ((Nd.enc y0).map .s),.s (.int .i64 y1)])
def zHf : zAB:=zAJ fun xs r => ∃ n,zK4 n xs r
theorem zKB : PSound Tryz.prog 17 zHf:=by
 have gok : ∀ f s,look? f [(20,zDA)] = some s → PSound Tryz.prog f s:=zAE (by
  simp only [List.forall_mem_cons]
  exact ⟨zEE,by simp⟩)
 refine zAT tokW Tryz.call17 Tryz.func17 rfl (fun xs r h => by obtain ⟨n,_,_,_,_,_,_,_,rfl,_⟩:=h; show 4 ≤ 24; decide) 24 rfl ?_
 rintro xs r w0 G0 ⟨n,⟨base1_kind,base1_text,base1_cols,base1_kids⟩,⟨x2_kind,x2_text,x2_cols,x2_kids⟩,⟨y3_kind,y3_text,y3_cols,y3_kids⟩,left4,y0,y1,h,rfl,rfl⟩ _
 rw [zCl] at h
 refine zAb ?_
 refine zAa (by exact tokW) (by exact gok) [8] [] rfl ?_
 show Tri _ _ _ _
 refine zAb ?_
 refine zAa (by exact tokW) (by exact gok) [12] [] rfl ?_
 show Tri _ _ _ _
 refine zAk (Le.trans (Le.rename [(0,0),(1,1)] [(3,.s (.bool left4)),(4,.s (.pt [.int .i64 base1_kind,.str base1_text,.int .i64 base1_cols,.sl 4 (Nd.encs base1_kids)])),(5,.s (.pt [.int .i64 x2_kind,.str x2_text,.int .i64 x2_cols,.sl 4 (Nd.encs x2_kids)])),(6,.s (.pt [.int .i64 y3_kind,.str y3_text,.int .i64 y3_cols,.sl 4 (Nd.encs y3_kids)])),(8,.op 0 0),(10,.op 1 0)] [(0,.box 24 [.s (.int .i64 0),.s (.str []),.s (.int .i64 0),.nl 4]),(1,.box 47 [.s (.int .i64 2),.nl 5])] 2 ⟨rfl,rfl,rfl,rfl,rfl,rfl,trivial⟩ ⟨rfl,⟨_,rfl,rfl⟩,rfl,⟨_,rfl,rfl⟩,trivial⟩ rfl rfl rfl rfl rfl) (Le.takeNil 1 1 52 rfl rfl (by decide))) ?_
 refine zAb ?_
 refine zAb ?_
 refine zAa (by exact tokW) (by exact gok) [] [] rfl ?_
 show Tri _ _ _ _
 obtain ⟨x5,hj,h⟩:=zAc h
 refine zAp ⟨ofL [(4,.s (.pt [.int .i64 base1_kind,.str base1_text,.int .i64 base1_cols,.sl 4 (Nd.encs base1_kids)])),(5,.s (.pt [.int .i64 x2_kind,.str x2_text,.int .i64 x2_cols,.sl 4 (Nd.encs x2_kids)])),(6,.s (.pt [.int .i64 y3_kind,.str y3_text,.int .i64 y3_cols,.sl 4 (Nd.encs y3_kids)])),(8,.op 0 0),(10,.op 1 0)],ofH [(0,.box 24 [.s (.int .i64 0),.s (.str []),.s (.int .i64 0),.nl 4]),(1,.box 47 [.s (.int .i64 x5),.orow 2]),(2,.row 52 5 ((List.map zAd) []))],3⟩ ?_ (fun σ' hle => ?_)
 ·replace h:=hj
  refine zAf rfl (fun hb => ?_) (fun hb => ?_)
  ·replace h:=zAs hb h
   refine zAa (by exact tokW) (by exact gok) [] [] rfl ?_
   cases h
   exact (Le.rename [(0,0),(1,1),(2,2)] _ _ _ ⟨rfl,rfl,rfl,rfl,rfl,trivial⟩ ⟨rfl,⟨_,rfl,rfl⟩,rfl,⟨_,rfl,rfl⟩,rfl,⟨_,rfl,rfl⟩,trivial⟩ rfl rfl rfl rfl rfl)
  ·replace h:=zAr hb h
   refine zAj ?_
   cases h
   exact (Le.rename [(0,0),(1,1),(2,2)] _ _ _ ⟨rfl,rfl,rfl,rfl,rfl,trivial⟩ ⟨rfl,⟨_,rfl,rfl⟩,rfl,⟨_,rfl,rfl⟩,rfl,⟨_,rfl,rfl⟩,trivial⟩ rfl rfl rfl rfl rfl)
 ·show Tri _ _ _ _
  refine zAk hle ?_
  refine zAb ?_
  refine zAa (by exact tokW) (by exact gok) [] [] rfl ?_
  obtain ⟨⟨⟨y6_kind,y6_text,y6_cols,y6_kids⟩,y7,⟨w8_take,w8_conflicts⟩⟩,hy6,h⟩:=zAc h
  refine ⟨_,_,⟨_,_,_,_,_,_,_,_,hy6,rfl,rfl,rfl,rfl⟩,?_⟩
  show Tri _ _ _ _
  refine zAv ?_
  obtain ⟨hj1,hk1⟩:=Prod.mk.inj (Option.some.inj h)
  subst hj1
  subst hk1
  unfold zAQ
  exact ⟨_,Le.refl _ _,rfl,rfl⟩
def zNN (n : Nat) (xs : List AV) (r : Ret) : Prop:=∃ (a0 : Nd) (a1 : Nd) (a2 : Nd) (a3 : Bool) (y0 : Nd) (y1 : Int),zC9 n a0 a1 a2 a3 = some (y0,y1) ∧ xs = [.agg ((Nd.enc a0).map .s),.agg ((Nd.enc a1).map .s),.agg ((Nd.enc a2).map .s),.s (.bool a3)] ∧ r = .val (.tup [.agg ((Nd.enc y0).map .s),.s (.int .i64 y1)])
def zJe : zAB:=zAJ fun xs r => ∃ n,zNN n xs r
theorem zM6 : PSound Tryz.prog 18 zJe:=by
 have gok : ∀ f s,look? f [(21,zJ9)] = some s → PSound Tryz.prog f s:=zAE (by
  simp only [List.forall_mem_cons]
  exact ⟨zOz,by simp⟩)
 refine zAT tokW Tryz.call18 Tryz.func18 rfl (fun xs r h => by obtain ⟨n,_,_,_,_,_,_,_,rfl,_⟩:=h; show 4 ≤ 26; decide) 26 rfl ?_
 rintro xs r w0 G0 ⟨n,⟨base1_kind,base1_text,base1_cols,base1_kids⟩,⟨x2_kind,x2_text,x2_cols,x2_kids⟩,⟨y3_kind,y3_text,y3_cols,y3_kids⟩,left4,y0,y1,h,rfl,rfl⟩ _
 rw [zC9] at h
 refine zAb ?_
 refine zAa (by exact tokW) (by exact gok) [8] [] rfl ?_
 show Tri _ _ _ _
 refine zAb ?_
 refine zAa (by exact tokW) (by exact gok) [] [] rfl ?_
 show Tri _ _ _ _
 refine zAb ?_
 refine zAb ?_
 refine zAa (by exact tokW) (by exact gok) [] [] rfl ?_
 show Tri _ _ _ _
 obtain ⟨side5,hj,h⟩:=zAc h
 refine zAp ⟨ofL [(4,.s (.pt [.int .i64 base1_kind,.str base1_text,.int .i64 base1_cols,.sl 4 (Nd.encs base1_kids)])),(5,.s (.pt [.int .i64 x2_kind,.str x2_text,.int .i64 x2_cols,.sl 4 (Nd.encs x2_kids)])),(6,.s (.pt [.int .i64 y3_kind,.str y3_text,.int .i64 y3_cols,.sl 4 (Nd.encs y3_kids)])),(8,.op 0 0),(10,.s (.int .i64 side5))],ofH [(0,.box 24 [.s (.int .i64 0),.s (.str []),.s (.int .i64 0),.nl 4])],1⟩ ?_ (fun σ' hle => ?_)
 ·replace h:=hj
  refine zAf rfl (fun hb => ?_) (fun hb => ?_)
  ·replace h:=zAs hb h
   refine zAa (by exact tokW) (by exact gok) [] [] rfl ?_
   cases h
   exact (Le.rename [(0,0)] _ _ _ ⟨rfl,rfl,rfl,rfl,rfl,trivial⟩ ⟨rfl,⟨_,rfl,rfl⟩,trivial⟩ rfl rfl rfl rfl rfl)
  ·replace h:=zAr hb h
   refine zAj ?_
   cases h
   exact (Le.rename [(0,0)] _ _ _ ⟨rfl,rfl,rfl,rfl,rfl,trivial⟩ ⟨rfl,⟨_,rfl,rfl⟩,trivial⟩ rfl rfl rfl rfl rfl)
 ·show Tri _ _ _ _
  refine zAk hle ?_
  refine zAb ?_
  refine zAa (by exact tokW) (by exact gok) [11] [] rfl ?_
  obtain ⟨⟨⟨y6_kind,y6_text,y6_cols,y6_kids⟩,y7,y8⟩,hy6,h⟩:=zAc h
  refine ⟨_,⟨_,_,_,_,_,_,_,_,hy6,rfl,rfl⟩,?_⟩
  show Tri _ _ _ _
  refine zAk (Le.giveBox 1 [.int .i64 y6_kind,.str y6_text,.int .i64 y6_cols,.sl 4 (Nd.encs y6_kids)] rfl rfl) ?_
  refine zAb ?_
  refine zAa (by exact tokW) (by exact gok) [] [] rfl ?_
  show Tri _ _ _ _
  refine zAv ?_
  obtain ⟨hj1,hk1⟩:=Prod.mk.inj (Option.some.inj h)
  subst hj1
  subst hk1
  unfold zAQ
  exact ⟨_,Le.refl _ _,rfl,rfl⟩
def zHV (n : Nat) (xs : List AV) (r : Ret) : Prop:=∃ (a0 : Nd) (a1 : Nd) (a2 : Nd) (y0 : Bool),zCU n a0 a1 a2 = some y0 ∧ xs = [.agg ((Nd.enc a0).map .s),.agg ((Nd.enc a1).map .s),.agg ((Nd.enc a2).map .s)] ∧ r = .val (.s (.bool y0))
def zH0 : zAB:=zAJ fun xs r => ∃ n,zHV n xs r
theorem zHK : PSound Tryz.prog 5 zH0:=by
 have gok : ∀ f s,look? f [(6,zJ0),(7,zNP),(17,zHf),(18,zJe),(10,zHz)] = some s → PSound Tryz.prog f s:=zAE (by
  simp only [List.forall_mem_cons]
  exact ⟨zOq,zQX,zKB,zM6,zJn,by simp⟩)
 refine zAT tokW Tryz.call5 Tryz.func5 rfl (fun xs r h => by obtain ⟨n,_,_,_,_,_,rfl,_⟩:=h; show 3 ≤ 68; decide) 68 rfl ?_
 rintro xs r w0 G0 ⟨n,⟨a1_kind,a1_text,a1_cols,a1_kids⟩,⟨a2_kind,a2_text,a2_cols,a2_kids⟩,⟨a3_kind,a3_text,a3_cols,a3_kids⟩,y0,h,rfl,rfl⟩ _
 rw [zCU] at h
 refine zAb ?_
 refine zAa (by exact tokW) (by exact gok) [] [] rfl ?_
 show Tri _ _ _ _
 refine zAb ?_
 refine zAb ?_
 refine zAa (by exact tokW) (by exact gok) [] [] rfl ?_
 obtain ⟨y4,hy4,h⟩:=zAc h
 refine ⟨_,⟨_,_,hy4,rfl,rfl⟩,?_⟩
 show Tri _ _ _ _
 refine zAf rfl (fun hb => ?_) (fun hb => ?_)
 ·replace h:=zAs hb h
  refine zAb ?_
  refine zAa (by exact tokW) (by exact gok) [] [] rfl ?_
  show Tri _ _ _ _
  refine zAv ?_
  have hy:=Option.some.inj h
  subst hy
  unfold zAQ
  exact ⟨_,Le.refl _ _,rfl,rfl⟩
 ·replace h:=zAr hb h
  refine zAj ?_
  show Tri _ _ _ _
  refine zAb ?_
  refine zAb ?_
  refine zAa (by exact tokW) (by exact gok) [] [] rfl ?_
  obtain ⟨y5,hy5,h⟩:=zAc h
  refine ⟨_,⟨_,_,_,_,_,hy5,rfl,rfl⟩,?_⟩
  show Tri _ _ _ _
  refine zAf rfl (fun hb => ?_) (fun hb => ?_)
  ·replace h:=zAs hb h
   refine zAb ?_
   refine zAa (by exact tokW) (by exact gok) [] [] rfl ?_
   show Tri _ _ _ _
   refine zAv ?_
   have hy:=Option.some.inj h
   subst hy
   unfold zAQ
   exact ⟨_,Le.refl _ _,rfl,rfl⟩
  ·replace h:=zAr hb h
   refine zAj ?_
   show Tri _ _ _ _
   refine zAb ?_
   refine zAa (by exact tokW) (by exact gok) [7] [] rfl ?_
   obtain ⟨⟨⟨y6_kind,y6_text,y6_cols,y6_kids⟩,y7⟩,hy6,h⟩:=zAc h
   refine ⟨_,⟨_,_,_,_,_,_,_,hy6,rfl,rfl⟩,?_⟩
   show Tri _ _ _ _
   refine zAk (Le.giveBox 0 [.int .i64 y6_kind,.str y6_text,.int .i64 y6_cols,.sl 4 (Nd.encs y6_kids)] rfl rfl) ?_
   refine zAb ?_
   refine zAa (by exact tokW) (by exact gok) [9] [] rfl ?_
   obtain ⟨⟨⟨y8_kind,y8_text,y8_cols,y8_kids⟩,y9⟩,hy8,h⟩:=zAc h
   refine ⟨_,⟨_,_,_,_,_,_,_,hy8,rfl,rfl⟩,?_⟩
   show Tri _ _ _ _
   refine zAk (Le.giveBox 1 [.int .i64 y8_kind,.str y8_text,.int .i64 y8_cols,.sl 4 (Nd.encs y8_kids)] rfl rfl) ?_
   refine zAb ?_
   refine zAa (by exact tokW) (by exact gok) [11] [] rfl ?_
   obtain ⟨⟨⟨y10_kind,y10_text,y10_cols,y10_kids⟩,y11⟩,hy10,h⟩:=zAc h
   refine ⟨_,⟨_,_,_,_,_,_,_,hy10,rfl,rfl⟩,?_⟩
   show Tri _ _ _ _
   refine zAk (Le.giveBox 2 [.int .i64 y10_kind,.str y10_text,.int .i64 y10_cols,.sl 4 (Nd.encs y10_kids)] rfl rfl) ?_
   refine zAb ?_
   refine zAa (by exact tokW) (by exact gok) [13] [] rfl ?_
   obtain ⟨⟨⟨y12_kind,y12_text,y12_cols,y12_kids⟩,y13⟩,hy12,h⟩:=zAc h
   refine ⟨_,⟨_,_,_,_,_,_,_,hy12,rfl,rfl⟩,?_⟩
   show Tri _ _ _ _
   refine zAk (Le.giveBox 3 [.int .i64 y12_kind,.str y12_text,.int .i64 y12_cols,.sl 4 (Nd.encs y12_kids)] rfl rfl) ?_
   refine zAb ?_
   obtain ⟨x14,hj,h⟩:=zAc h
   refine zAp ⟨ofL [(6,.s (.bool x14))],fun _ => none,0⟩ ?_ (fun σ' hle => ?_)
   ·replace h:=hj
    refine zAa (by exact tokW) (by exact gok) [] [53,58,63] rfl ?_
    intro b hb
    cases b with
    | true =>
     replace h:=zAs hb.symm h
     intro b hb
     cases b with
     | true =>
      replace h:=zAs hb.symm h
      obtain ⟨y15,hy15,h⟩:=zAc h
      refine ⟨_,⟨_,_,_,_,hy15,rfl,rfl⟩,?_⟩
      intro b hb
      cases b with
      | true =>
       replace h:=zAs hb.symm h
       obtain ⟨y16,hy16,h⟩:=zAc h
       refine ⟨_,⟨_,_,_,_,hy16,rfl,rfl⟩,?_⟩
       cases h
       exact (Le.rename [] _ [] 0 ⟨rfl,trivial⟩ trivial rfl rfl rfl rfl rfl)
      | false =>
       replace h:=zAr hb.symm h
       cases h
       exact (Le.rename [] _ [] 0 ⟨rfl,trivial⟩ trivial rfl rfl rfl rfl rfl)
     | false =>
      replace h:=zAr hb.symm h
      intro b hb
      subst hb
      cases h
      exact (Le.rename [] _ [] 0 ⟨rfl,trivial⟩ trivial rfl rfl rfl rfl rfl)
    | false =>
     replace h:=zAr hb.symm h
     intro b hb
     subst hb
     intro b hb
     subst hb
     cases h
     exact (Le.rename [] _ [] 0 ⟨rfl,trivial⟩ trivial rfl rfl rfl rfl rfl)
   ·show Tri _ _ _ _
    refine zAk hle ?_
    refine zAv ?_
    have hy:=Option.some.inj h
    subst hy
    unfold zAQ
    exact ⟨_,Le.refl _ _,rfl,rfl⟩
end Go.Proofs.YtgfneloodabafaaGreatDoor
namespace Go.Proofs.YtgfneloodabafaaGreatDoor
open Go.Abs
theorem zNs {n : Nat} {ss : List S} (h : Typed T n 24 ss) : ∃ t : Nd,ss = t.enc ∧ t.rng :=
 zQ7 (T:=T) (e:=24) (s:=22) (ki:=3) (st:=9) rfl rfl rfl rfl rfl rfl rfl rfl rfl n h
end Go.Proofs.YtgfneloodabafaaGreatDoor
namespace Go.Proofs.YtgfneloodabafaaGreatDoor
open Go.Abs
theorem zBi {φ : Prop} [Decidable φ] (h : φ) : decide φ = true:=decide_eq_true h
theorem zA8 {φ : Prop} [Decidable φ] (h : ¬ φ) : decide φ = false:=decide_eq_false h
theorem zHr {F : Nd → Option Int} {ks : List Nd} (hF : ∀ v ∈ ks,F v = some (v.cnt : Int)) :
  ∀ (k i : Nat) (o : Nat),ks.length - i < k → i ≤ ks.length → o + Nd.cnts (ks.drop i) ≤ 1073741824 → ks.length ≤ 1073741824 → zCo F ks k (o : Int) (i : Int) = some ((o + Nd.cnts (ks.drop i) : Nat) : Int)
 | 0,_,_,h,_,_,_ => by omega
 | k + 1,i,o,hk,hi,ho,hl => by
  unfold zCo
  by_cases h : i < ks.length
  ·rw [zBi (Int.ofNat_lt.2 h),cond_true,zBA h]
   have hd:=Nd.cnts_drop h
   have hf:=hF _ (List.getElem_mem h)
   rcases e : ks[i] with ⟨a,b,c,d⟩
   rw [e] at hd hf
   simp only [Option.bind_some,hf]
   rw [wrap64_in (by omega) (by omega),zAM (by omega),← Int.natCast_add,zHr hF k (i + 1) _ (by omega) (by omega) (by omega) hl,hd]
   congr 2; omega
  ·rw [zA8 (by omega),cond_false]
   obtain rfl : i = ks.length:=by omega
   simp [Nd.cnts]
theorem zDN : ∀ (n : Nat) (t : Nd),t.cnt < n → t.cnt ≤ 67108864 → zBo n t = some (t.cnt : Int)
 | 0,_,h,_ => by omega
 | n + 1,.mk a b c ks,h,hb => by
  simp only [Nd.cnt] at h hb
  have hl:=Nd.cnts_len ks
  unfold zBo
  have:=zHr (F:=zBo n) (ks:=ks) (fun v hv => zDN n v (by have:=Nd.cnts_mem hv; omega) (by have:=Nd.cnts_mem hv; omega)) n 0 1 (by omega) (by omega) (by simp; omega) (by omega)
  rw [show ((0 : Nat) : Int) = 0 from rfl,show ((1 : Nat) : Int) = 1 from rfl] at this
  rw [this]
  simp only [Option.bind_some,List.drop_zero,Nd.cnt]
  congr 2; omega
def scnt : List (Nd × Int) → Nat
 | [] => 0
 | p :: l => p.1.cnt + scnt l
theorem zHR : ∀ a b : List (Nd × Int),scnt (a ++ b) = scnt a + scnt b
 | [],b => by simp [scnt]
 | v :: a,b => by simp only [List.cons_append,scnt,zHR a b]; omega
theorem zNi : ∀ a : List (Nd × Int),a.length ≤ scnt a
 | [] => Nat.le_refl _
 | v :: a => by have:=zNi a; have:=v.1.cnt_pos; simp only [scnt,List.length_cons]; omega
theorem zLM {ks : List Nd} {d : Int} : ∀ (k i : Nat) (l : List (Nd × Int)),ks.length - i < k → i ≤ ks.length → scnt l + Nd.cnts (ks.drop i) ≤ 1073741824 → ks.length ≤ 1073741824 →
  ∃ l',zCn ks d k (i : Int) l = some l' ∧ scnt l' = scnt l + Nd.cnts (ks.drop i)
 | 0,_,_,h,_,_,_ => by omega
 | k + 1,i,l,hk,hi,ho,hl => by
  unfold zCn
  by_cases h : i < ks.length
  ·rw [zBi (Int.ofNat_lt.2 h),cond_true,zBA h]
   have hd:=Nd.cnts_drop h
   rcases e : ks[i] with ⟨a,b,c,e4⟩
   rw [e] at hd
   have hp:=(Nd.mk a b c e4).cnt_pos
   have hll:=zNi l
   simp only [Option.bind_some]
   rw [zBl (by simp only [List.length_singleton]; omega),zAM (by omega)]
   have hs : scnt (l ++ [(Nd.mk a b c e4,IntKind.i64.wrap (d + 1))]) = scnt l + (Nd.mk a b c e4).cnt:=by rw [zHR]; simp [scnt]
   obtain ⟨l',h1,h2⟩:=zLM (ks:=ks) (d:=d) k (i + 1) (l ++ [(Nd.mk a b c e4,IntKind.i64.wrap (d + 1))]) (by omega) (by omega) (by omega) hl
   exact ⟨l',h1,by omega⟩
  ·rw [zA8 (by omega),cond_false]
   obtain rfl : i = ks.length:=by omega
   exact ⟨l,rfl,by simp [Nd.cnts]⟩
theorem zLL (n : Nat) : ∀ (k : Nat) (x : Nat) (l : List (Nd × Int)),scnt l < k → scnt l < n → x + scnt l ≤ 67108864 → zCm n k (x : Int) l = some ((x + scnt l : Nat) : Int)
 | 0,_,_,h,_,_ => by omega
 | k + 1,x,l,hk,hn,hx => by
  unfold zCm
  rcases List.eq_nil_or_concat l with rfl | ⟨l,p,rfl⟩
  ·simp [scnt]
  ·rw [List.concat_eq_append] at *
   obtain ⟨⟨a,b,c,ks⟩,d⟩:=p
   have hs : scnt (l ++ [(Nd.mk a b c ks,d)]) = scnt l + (Nd.cnts ks + 1):=by rw [zHR]; simp [scnt,Nd.cnt]
   have hll:=zNi l
   have hlk:=Nd.cnts_len ks
   have hlen : ((l ++ [(Nd.mk a b c ks,d)]).length : Int) = (l.length : Int) + 1:=by simp
   have hw : IntKind.i64.wrap (((l ++ [(Nd.mk a b c ks,d)]).length : Int) - 1) = (l.length : Int):=by rw [hlen,wrap64_in (by omega) (by omega)]; omega
   rw [zBi (by omega),cond_true,hw,zBA (by simp)]
   simp only [List.getElem_concat_length,Option.bind_some]
   rw [zBl (by omega)]
   simp only [zEj,Option.bind_some,Int.toNat_natCast,List.take_left]
   obtain ⟨l',h1,h2⟩:=zLM (ks:=ks) (d:=d) n 0 l (by omega) (by omega) (by simp; omega) (by omega)
   rw [List.drop_zero] at h2
   rw [show ((0 : Nat) : Int) = 0 from rfl] at h1
   rw [h1,Option.bind_some,zAM (by omega),zLL n k (x + 1) l' (by omega) (by omega) (by omega)]
   congr 2; omega
theorem zMQ (n : Nat) (t : Nd) (h : t.cnt < n) (hb : t.cnt ≤ 67108864) : zEt n t = some (t.cnt : Int):=by
 obtain ⟨a,b,c,ks⟩:=t
 have:=zLL n n 0 [(.mk a b c ks,1)] (by simpa [scnt] using h) (by simpa [scnt] using h) (by simp only [scnt]; omega)
 rw [show ((0 : Nat) : Int) = 0 from rfl] at this
 simp only [zEt,zGb,this,Option.bind_some,scnt]
 congr 2; omega
theorem zOg {F : Nd → Int → Option Int} {ks : List Nd} {b : Nat} (hF : ∀ (v : Nd) (m : Nat),m ≤ b → ∃ r,F v (m : Int) = some r ∧ -1 ≤ r ∧ r < m ∧ (0 ≤ r → r + v.cnt = m)) :
  ∀ (k i : Nat) (m : Int),m + 1 < k → -1 ≤ m → m ≤ b → i ≤ ks.length → (i : Int) + m < 4611686018427387904 → ∃ r,zCj F ks k m (i : Int) = some r ∧ -1 ≤ r ∧ r ≤ m ∧ (0 ≤ r → r + Nd.cnts (ks.drop i) = m)
 | 0,_,_,h,_,_,_,_ => by omega
 | k + 1,i,m,hk,hm,hb,hi,hx => by
  unfold zCj
  by_cases h : i < ks.length
  ·rw [zBi (Int.ofNat_lt.2 h),cond_true]
   simp only [Option.bind_some]
   by_cases h0 : 0 ≤ m
   ·rw [zBi h0,cond_true,zBA h]
    have hd:=Nd.cnts_drop h
    rcases e : ks[i] with ⟨e1,e2,e3,e4⟩
    rw [e] at hd
    simp only [Option.bind_some]
    obtain ⟨m',rfl⟩:=Int.eq_ofNat_of_zero_le h0
    obtain ⟨r,h1,h2,h3,h4⟩:=hF (.mk e1 e2 e3 e4) m' (by omega)
    rw [h1,Option.bind_some,zAM (by omega)]
    obtain ⟨r',g1,g2,g3,g4⟩:=zOg (ks:=ks) hF k (i + 1) r (by omega) h2 (by omega) (by omega) (by omega)
    exact ⟨r',g1,g2,by omega,fun g => by have:=g4 g; have:=h4 (by omega); omega⟩
   ·rw [zA8 h0,cond_false]
    exact ⟨m,rfl,hm,Int.le_refl _,fun g => by omega⟩
  ·rw [zA8 (by omega),cond_false]
   simp only [Option.bind_some,cond_false]
   obtain rfl : i = ks.length:=by omega
   exact ⟨m,rfl,hm,Int.le_refl _,fun _ => by simp [Nd.cnts]⟩
theorem left_eq : ∀ (n : Nat) (t : Nd) (m : Nat),m + 1 < n → m ≤ 67108864 → ∃ r,zDo n t (m : Int) = some r ∧ -1 ≤ r ∧ r < m ∧ (0 ≤ r → r + t.cnt = m)
 | 0,_,_,h,_ => by omega
 | n + 1,.mk a b c ks,m,h,hm => by
  unfold zDo
  rw [wrap64_in (by omega) (by omega)]
  cases m with
  | zero =>
   cases n with
   | zero => omega
   | succ n =>
    refine ⟨-1,?_,by omega,by omega,fun h => by omega⟩
    unfold zCj
    cases decide (((0 : Nat) : Int) < (ks.length : Int)) <;> simp <;> rfl
  | succ m =>
   obtain ⟨r,h1,h2,h3,h4⟩:=zOg (F:=zDo n) (ks:=ks) (b:=m) (fun v q hq => left_eq n v q (by omega) (by omega)) n 0 (m : Int) (by omega) (by omega) (by omega) (by omega) (by omega)
   rw [show ((0 : Nat) : Int) = 0 from rfl] at h1
   rw [show ((m + 1 : Nat) : Int) - 1 = (m : Int) by omega,h1]
   exact ⟨r,rfl,h2,by omega,fun g => by have:=h4 g; rw [List.drop_zero] at this; simp only [Nd.cnt]; omega⟩
theorem zRa (n : Nat) (t : Nd) (m : Nat) (h : m + 1 < n) (hm : m ≤ 67108864) : ∃ b,zFb n t (m : Int) = some b ∧ (b = true → t.cnt ≤ m):=by
 obtain ⟨a,b,c,ks⟩:=t
 obtain ⟨r,h1,h2,h3,h4⟩:=left_eq n (.mk a b c ks) m h hm
 refine ⟨decide (0 ≤ r),by simp [zFb,h1],fun g => by have g0:=of_decide_eq_true g; have:=h4 g0; omega⟩
end Go.Proofs.YtgfneloodabafaaGreatDoor
namespace Go.Proofs.YtgfneloodabafaaGreatDoor
open Go.Abs
def zMy {α : Type} (p : α → Bool) (l : List α) : Fl Bool Unit:=if l.all p then .go () else .ret false
theorem zSA {α : Type} {p : α → Bool} {l : List α} {i : Nat} (h : i < l.length) : (l.drop i).all p = (p l[i] && (l.drop (i + 1)).all p):=by
 rw [List.drop_eq_getElem_cons h]; rfl
theorem zSB {α : Type} {p : α → Bool} {l : List α} {i : Nat} (h : i < l.length) : (l.drop i).any p = (p l[i] || (l.drop (i + 1)).any p):=by
 rw [List.drop_eq_getElem_cons h]; rfl
theorem zG2 {α : Type} {p : α → Bool} {l : List α} (L : Nat → Int → Option (Fl Bool Unit)) (hb : l.length ≤ 1073741824)
  (h1 : ∀ (k i : Nat) (h : i < l.length),L (k + 1) (i : Int) = if p l[i] then L k (((i + 1 : Nat)) : Int) else some (.ret false)) (h2 : ∀ k,L (k + 1) (l.length : Int) = some (.go ())) :
  ∀ (k i : Nat),l.length - i < k → i ≤ l.length → L k (i : Int) = some (zMy p (l.drop i))
 | 0,_,h,_ => by omega
 | k + 1,i,hk,hi => by
  by_cases h : i < l.length
  ·rw [h1 k i h,zG2 L hb h1 h2 k (i + 1) (by omega) (by omega)]
   unfold zMy
   rw [zSA h]
   cases p l[i] <;> simp
  ·obtain rfl : i = l.length:=by omega
   rw [h2]; simp [zMy]
theorem zMO {α : Type} {p : α → Bool} {l : List α} (L : Nat → Int → Option (Fl Bool Unit)) (hb : l.length ≤ 1073741824)
  (h1 : ∀ (k i : Nat) (h : i < l.length),L (k + 1) (i : Int) = if p l[i] then some (.ret true) else L k (((i + 1 : Nat)) : Int)) (h2 : ∀ k,L (k + 1) (l.length : Int) = some (.go ())) :
  ∀ (k i : Nat),l.length - i < k → i ≤ l.length → L k (i : Int) = some (if (l.drop i).any p then .ret true else .go ())
 | 0,_,h,_ => by omega
 | k + 1,i,hk,hi => by
  by_cases h : i < l.length
  ·rw [h1 k i h,zMO L hb h1 h2 k (i + 1) (by omega) (by omega),zSB h]
   cases p l[i] <;> simp
  ·obtain rfl : i = l.length:=by omega
   rw [h2]; simp
theorem zJy {P : UInt8 → Bool} (h : (List.range 256).all (fun n => P n.toUInt8) = true) (b : UInt8) : P b = true:=by
 have : P (UInt8.ofNat b.toNat) = true:=List.all_eq_true.1 h b.toNat (List.mem_range.2 b.toNat_lt)
 rwa [UInt8.ofNat_toNat] at this
def zC0 (b : UInt8) : Bool:=(decide (97 ≤ b.toNat) && decide (b.toNat ≤ 122)) || (decide (65 ≤ b.toNat) && decide (b.toNat ≤ 90))
def zDu (b : UInt8) : Bool:=decide (48 ≤ b.toNat) && decide (b.toNat ≤ 57)
def zFY (b : UInt8) : Bool:=decide (32 ≤ b.toNat) && decide (b.toNat ≤ 126)
theorem zNY (b : UInt8) : (bif decide ((zKf .or .u8 (b.toNat : Int) 32) < 97) then some true else some (decide (122 < (zKf .or .u8 (b.toNat : Int) 32)))) = some (!zC0 b) :=
 of_decide_eq_true (zJy (P:=fun b => decide ((bif decide ((zKf .or .u8 (b.toNat : Int) 32) < 97) then some true else some (decide (122 < (zKf .or .u8 (b.toNat : Int) 32)))) = some (!zC0 b))) (by decide +kernel) b)
theorem zJi (b : UInt8) : zDL (b.toNat : Int) = some (zC0 b) :=
 of_decide_eq_true (zJy (P:=fun b => decide (zDL (b.toNat : Int) = some (zC0 b))) (by decide +kernel) b)
theorem zPp (b : UInt8) : zFa (b.toNat : Int) = some (zDu b) :=
 of_decide_eq_true (zJy (P:=fun b => decide (zFa (b.toNat : Int) = some (zDu b))) (by decide +kernel) b)
theorem zKA (n : Nat) (s : List UInt8) (h : s.length < n) (hb : s.length ≤ 1073741824) : zCR n s = some (s.all zC0):=by
 have:=zG2 (p:=zC0) (l:=s) (zBw s) hb (fun k i h => by
  rw [zBw,zBi (Int.ofNat_lt.2 h),cond_true,zBA h]
  simp only [Option.bind_some,zNY]
  rw [zAM (by omega)]
  cases zC0 s[i] <;> rfl) (fun k => by rw [zBw,zA8 (by omega)]; rfl) n 0 (by omega) (by omega)
 rw [show ((0 : Nat) : Int) = 0 from rfl,List.drop_zero] at this
 rw [zCR,this]
 unfold zMy
 cases s.all zC0 <;> rfl
theorem zLo (n : Nat) (s : List UInt8) (h : s.length < n) (hb : s.length ≤ 1073741824) : zBE s n 0 = some (zMy zC0 s):=by
 have:=zG2 (p:=zC0) (l:=s) (zBE s) hb (fun k i h => by
  rw [zBE,zBi (Int.ofNat_lt.2 h),cond_true,zBA h]
  simp only [Option.bind_some,zJi]
  rw [zAM (by omega)]
  cases zC0 s[i] <;> rfl) (fun k => by rw [zBE,zA8 (by omega)]; rfl) n 0 (by omega) (by omega)
 rwa [show ((0 : Nat) : Int) = 0 from rfl,List.drop_zero] at this
theorem zL6 (n : Nat) (s : List UInt8) (c : Int) (h : s.length < n) (hb : s.length ≤ 1073741824) : zC7 n s c = some (s.any fun b => (b.toNat : Int) == c):=by
 have:=zMO (p:=fun b => (b.toNat : Int) == c) (l:=s) (zCB s c) hb (fun k i h => by
  rw [zCB,zBi (Int.ofNat_lt.2 h),cond_true,zBA h]
  simp only [Option.bind_some]
  rw [zAM (by omega)]
  cases ((s[i].toNat : Int) == c) <;> rfl) (fun k => by rw [zCB,zA8 (by omega)]; rfl) n 0 (by omega) (by omega)
 rw [show ((0 : Nat) : Int) = 0 from rfl,List.drop_zero] at this
 rw [zC7,this]
 cases s.any fun b => (b.toNat : Int) == c <;> rfl
theorem zKN (n : Nat) (l : List (List UInt8)) (s : List UInt8) (h : l.length < n) (hb : l.length ≤ 1073741824) : zEk n l s = some (l.any fun e => e == s):=by
 have:=zMO (p:=fun e => e == s) (l:=l) (zC4 l s) hb (fun k i h => by
  rw [zC4,zBi (Int.ofNat_lt.2 h),cond_true,zBA h]
  simp only [Option.bind_some]
  rw [zAM (by omega)]
  cases (l[i] == s) <;> rfl) (fun k => by rw [zC4,zA8 (by omega)]; rfl) n 0 (by omega) (by omega)
 rw [show ((0 : Nat) : Int) = 0 from rfl,List.drop_zero] at this
 rw [zEk,this]
 cases l.any fun e => e == s <;> rfl
theorem zFy (n : Nat) (s : List UInt8) (h : s.length < n) (hb : s.length ≤ 1073741824) : zDl n s = some (s.all zDu && !(s == [])):=by
 have:=zG2 (p:=zDu) (l:=s) (zBI s) hb (fun k i h => by
  rw [zBI,zBi (Int.ofNat_lt.2 h),cond_true,zBA h]
  simp only [Option.bind_some]
  rw [zAM (by omega)]
  unfold zDu
  by_cases a : 48 ≤ s[i].toNat
  ·by_cases b : s[i].toNat ≤ 57
   ·simp [a,b,show ¬ ((s[i].toNat : Int) < 48) by omega,show ¬ (57 < (s[i].toNat : Int)) by omega]
   ·simp [a,b,show ¬ ((s[i].toNat : Int) < 48) by omega,show (57 < (s[i].toNat : Int)) by omega]
  ·simp [a,show ((s[i].toNat : Int) < 48) by omega]) (fun k => by rw [zBI,zA8 (by omega)]; rfl) n 0 (by omega) (by omega)
 rw [show ((0 : Nat) : Int) = 0 from rfl,List.drop_zero] at this
 rw [zDl,this]
 unfold zMy
 cases s.all zDu <;> rfl
theorem zOM (b : UInt8) : (bif decide ((b.toNat : Int) < 32) then some true else some (decide (126 < (b.toNat : Int))) : Option Bool) = some (!zFY b):=by
 unfold zFY
 by_cases a : 32 ≤ b.toNat
 ·by_cases c : b.toNat ≤ 126
  ·simp [a,c,show ¬ ((b.toNat : Int) < 32) by omega,show ¬ (126 < (b.toNat : Int)) by omega]
  ·simp [a,c,show ¬ ((b.toNat : Int) < 32) by omega,show (126 < (b.toNat : Int)) by omega]
 ·simp [a,show ((b.toNat : Int) < 32) by omega]
theorem zMS (n : Nat) (s : List UInt8) (h : s.length < n) (hb : s.length ≤ 1073741824) : zEv n s = some (s.all zFY && decide ((s.length : Int) ≤ 200)):=by
 have:=zG2 (p:=zFY) (l:=s) (zBR s) hb (fun k i h => by
  rw [zBR,zBi (Int.ofNat_lt.2 h),cond_true,zBA h]
  simp only [Option.bind_some,zOM]
  rw [zAM (by omega)]
  cases zFY s[i] <;> rfl) (fun k => by rw [zBR,zA8 (by omega)]; rfl) n 0 (by omega) (by omega)
 rw [show ((0 : Nat) : Int) = 0 from rfl,List.drop_zero] at this
 rw [zEv,this]
 unfold zMy
 cases s.all zFY <;> rfl
theorem zJK (n : Nat) (s : List UInt8) (h : s.length < n) (hb : s.length ≤ 1073741824) : zC5 n s = some (s.all zFY):=by
 have:=zG2 (p:=zFY) (l:=s) (zBq s) hb (fun k i h => by
  rw [zBq,zBi (Int.ofNat_lt.2 h),cond_true,zBA h]
  simp only [Option.bind_some,zOM]
  rw [zAM (by omega)]
  cases zFY s[i] <;> rfl) (fun k => by rw [zBq,zA8 (by omega)]; rfl) n 0 (by omega) (by omega)
 rw [show ((0 : Nat) : Int) = 0 from rfl,List.drop_zero] at this
 rw [zC5,this]
 unfold zMy
 cases s.all zFY <;> rfl
end Go.Proofs.YtgfneloodabafaaGreatDoor
namespace Go.Proofs.YtgfneloodabafaaGreatDoor
open Go.Abs
def spL : List UInt8:=[43,45,42,47,61,60,62,44,59,58,33,124,39,63,126,64]
def fsL : List UInt8:=[40,41,91,93,123,125,60,62,47,124,46]
def kwL : List (List UInt8):=[[102,114,97,99],[114,111,111,116],[109,97,116,114,105,120],[102,101,110,99,101]]
def acL : List (List UInt8):=[[104,97,116],[98,97,114],[118,101,99],[100,111,116],[116,105,108,100,101],[99,104,101,99,107]]
def spB (c : UInt8) : Bool:=decide (0 ≤ Lib.indexByte spL c)
def fsB (c : UInt8) : Bool:=decide (0 ≤ Lib.indexByte fsL c)
theorem zTx (c : UInt8) : (spL.any fun b => (b.toNat : Int) == (c.toNat : Int)) = spB c :=
 of_decide_eq_true (zJy (P:=fun c => decide ((spL.any fun b => (b.toNat : Int) == (c.toNat : Int)) = spB c)) (by decide +kernel) c)
theorem zTw (c : UInt8) : (([40,41,91,93,123,125,124,60,62,47,46] : List UInt8).any fun b => (b.toNat : Int) == (c.toNat : Int)) = fsB c :=
 of_decide_eq_true (zJy (P:=fun c => decide ((([40,41,91,93,123,125,124,60,62,47,46] : List UInt8).any fun b => (b.toNat : Int) == (c.toNat : Int)) = fsB c)) (by decide +kernel) c)
theorem zSE (c : UInt8) : Lib.indexByte fsL ((c.toNat : Int).toNat.toUInt8) = Lib.indexByte fsL c:=by
 rw [Int.toNat_natCast]; congr 1; exact UInt8.ofNat_toNat
theorem zLb (e s : List UInt8) : (e == s) = (s == e):=by
 rw [Bool.eq_iff_iff]; simp only [beq_iff_eq]; exact eq_comm
theorem zKz (s : List UInt8) : zDy s = some (kwL.any fun e => e == s):=by
 simp only [zDy,kwL,List.any_cons,List.any_nil,zLb [102,114,97,99] s,zLb [114,111,111,116] s,zLb [109,97,116,114,105,120] s,zLb [102,101,110,99,101] s]
 generalize (s == [102,114,97,99]) = b1
 generalize (s == [114,111,111,116]) = b2
 generalize (s == [109,97,116,114,105,120]) = b3
 generalize (s == [102,101,110,99,101]) = b4
 cases b1 <;> cases b2 <;> cases b3 <;> cases b4 <;> rfl
theorem zHo (s : List UInt8) : zDk s = some (acL.any fun e => e == s):=by
 simp only [zDk,acL,List.any_cons,List.any_nil,zLb [104,97,116] s,zLb [98,97,114] s,zLb [118,101,99] s,zLb [100,111,116] s,zLb [116,105,108,100,101] s,zLb [99,104,101,99,107] s]
 generalize (s == [104,97,116]) = b1
 generalize (s == [98,97,114]) = b2
 generalize (s == [118,101,99]) = b3
 generalize (s == [100,111,116]) = b4
 generalize (s == [116,105,108,100,101]) = b5
 generalize (s == [99,104,101,99,107]) = b6
 cases b1 <;> cases b2 <;> cases b3 <;> cases b4 <;> cases b5 <;> cases b6 <;> rfl
def symB (s : List UInt8) : Bool :=
 if s.length = 1 then s.all zC0 || s.all spB
 else s.all zC0 && (decide (2 ≤ s.length) && (decide (s.length ≤ 16) && (!(kwL.any fun e => e == s) && !(acL.any fun e => e == s))))
theorem len1 (s : List UInt8) : ((s.length : Int) == 1) = decide (s.length = 1):=by
 by_cases h : s.length = 1
 ·simp [h]
 ·rw [zA8 h]
  cases e : ((s.length : Int) == 1) with
  | false => rfl
  | true => have:=eq_of_beq e; omega
theorem zE6 (a b : Nat) : decide ((a : Int) ≤ (b : Int)) = decide (a ≤ b):=by
 by_cases h : a ≤ b
 ·rw [zBi h,zBi (by omega)]
 ·rw [zA8 h,zA8 (by omega)]
theorem zRk (a b : Nat) : decide ((a : Int) < (b : Int)) = decide (a < b):=by
 by_cases h : a < b
 ·rw [zBi h,zBi (by omega)]
 ·rw [zA8 h,zA8 (by omega)]
theorem zLf (n : Nat) (s : List UInt8) (h : s.length + 40 < n) (hb : s.length ≤ 1073741824) : zDS n s = some (symB s):=by
 rw [zDS,len1,zKA n s (by omega) hb]
 unfold symB
 by_cases h1 : s.length = 1
 ·rw [zBi h1,if_pos h1]
  obtain ⟨c,rfl⟩:=List.length_eq_one_iff.1 h1
  have : zDV [43,45,42,47,61,60,62,44,59,58,33,124,39,63,126,64] [c] = some (spB c):=rfl
  simp only [cond_true,Option.bind_some,this,List.all_cons,List.all_nil,Bool.and_true]
  cases zC0 c <;> rfl
 ·rw [zA8 h1,if_neg h1]
  have e2:=zE6 2 s.length
  have e16:=zE6 s.length 16
  rw [show ((2 : Nat) : Int) = 2 from rfl] at e2
  rw [show ((16 : Nat) : Int) = 16 from rfl] at e16
  simp only [cond_false,Option.bind_some,zKz,zHo,e2,e16]
  cases s.all zC0 <;> cases decide (2 ≤ s.length) <;> cases decide (s.length ≤ 16) <;> cases (kwL.any fun e => e == s) <;> rfl
theorem zNd (n : Nat) (s : List UInt8) (h : s.length + 40 < n) (hb : s.length ≤ 1073741824) : zEy n s = some (symB s):=by
 rw [zEy,len1,zLo n s (by omega) hb]
 unfold symB
 by_cases h1 : s.length = 1
 ·rw [zBi h1,if_pos h1]
  obtain ⟨c,rfl⟩:=List.length_eq_one_iff.1 h1
  have e1 : at? [c] (0 : Int) = some c:=rfl
  have e2 : zC7 n [43,45,42,47,61,60,62,44,59,58,33,124,39,63,126,64] (c.toNat : Int) = some (spB c):=by
   rw [zL6 n _ _ (by simp only [List.length_cons,List.length_nil]; omega) (by simp only [List.length_cons,List.length_nil]; omega)]
   exact congrArg some (zTx c)
  simp only [cond_true,Option.bind_some,e1,zDT,zJi,e2,List.all_cons,List.all_nil,Bool.and_true]
  cases zC0 c <;> rfl
 ·rw [zA8 h1,if_neg h1]
  have e2:=zE6 2 s.length
  have e16:=zE6 s.length 16
  rw [show ((2 : Nat) : Int) = 2 from rfl] at e2
  rw [show ((16 : Nat) : Int) = 16 from rfl] at e16
  have ek : zEk n kwL s = some (kwL.any fun e => e == s):=zKN n kwL s (by simp only [kwL,List.length_cons,List.length_nil]; omega) (by simp [kwL])
  have ea : zEk n acL s = some (acL.any fun e => e == s):=zKN n acL s (by simp only [acL,List.length_cons,List.length_nil]; omega) (by simp [acL])
  have k1 : zEl = some kwL:=rfl
  have a1 : zDm = some acL:=rfl
  unfold zMy
  simp only [cond_false,Option.bind_some,k1,a1,ek,ea,e2,e16]
  cases s.all zC0 <;> cases decide (2 ≤ s.length) <;> cases decide (s.length ≤ 16) <;> cases (kwL.any fun e => e == s) <;> rfl
def fenB (s : List UInt8) : Bool:=decide (s.length = 2) && s.all fsB
theorem len2 (s : List UInt8) : ((s.length : Int) == 2) = decide (s.length = 2):=by
 by_cases h : s.length = 2
 ·simp [h]
 ·rw [zA8 h]
  cases e : ((s.length : Int) == 2) with
  | false => rfl
  | true => have:=eq_of_beq e; omega
theorem zMR (s : List UInt8) : zEu s = some (fenB s):=by
 rw [zEu,len2]
 unfold fenB
 by_cases h1 : s.length = 2
 ·rw [zBi h1]
  match s,h1 with
  | [c,d],_ =>
   have e0 : at? [c,d] (0 : Int) = some c:=rfl
   have e1 : at? [c,d] (1 : Int) = some d:=rfl
   have f : ∀ c : UInt8,zCJ [40,41,91,93,123,125,60,62,47,124,46] (c.toNat : Int) = some (Lib.indexByte fsL c):=fun c => congrArg some (zSE c)
   have g : ∀ c : UInt8,decide (0 ≤ Lib.indexByte fsL c) = fsB c:=fun c => rfl
   simp only [cond_true,e0,e1,f,Option.bind_some,g,List.all_cons,List.all_nil,Bool.and_true,Bool.true_and]
   cases fsB c <;> rfl
 ·rw [zA8 h1]; rfl
theorem zON (n : Nat) (s : List UInt8) (h : 40 < n) : (bif ((s.length : Int) == 2) then (
        (at? s 0).bind fun c9 =>
        (zC7 n [40,41,91,93,123,125,124,60,62,47,46] (c9.toNat : Int)).bind fun y11 =>
        bif y11 then (
         (at? s 1).bind fun c12 =>
         (zC7 n [40,41,91,93,123,125,124,60,62,47,46] (c12.toNat : Int)).bind fun y14 =>
         some y14
        ) else (
         some false
        )
       ) else (
        some false
       )) = some (fenB s):=by
 rw [len2]
 unfold fenB
 by_cases h1 : s.length = 2
 ·rw [zBi h1]
  match s,h1 with
  | [c,d],_ =>
   have e0 : at? [c,d] (0 : Int) = some c:=rfl
   have e1 : at? [c,d] (1 : Int) = some d:=rfl
   have f : ∀ c : UInt8,zC7 n [40,41,91,93,123,125,124,60,62,47,46] (c.toNat : Int) = some (fsB c):=fun c => by
    rw [zL6 n _ _ (by simp only [List.length_cons,List.length_nil]; omega) (by simp only [List.length_cons,List.length_nil]; omega)]
    exact congrArg some (zTw c)
   simp only [cond_true,e0,e1,f,Option.bind_some,List.all_cons,List.all_nil,Bool.and_true,Bool.true_and]
   cases fsB c <;> rfl
 ·rw [zA8 h1]; rfl
def okL (L : Nat) : Nat → List UInt8 → Bool
 | _,[] => true
 | i,c :: r => ((c == 46 && (decide (0 < i) && decide (i + 1 < L))) || zDu c) && okL L (i + 1) r
def numB (s : List UInt8) : Bool:=okL s.length 0 s && (decide (0 < s.length) && (decide (s.length ≤ 20) && decide (s.count 46 ≤ 1)))
theorem zTY (c : UInt8) : ((c.toNat : Int) == 46) = (c == 46) :=
 of_decide_eq_true (zJy (P:=fun c => decide (((c.toNat : Int) == 46) = (c == 46))) (by decide +kernel) c)
theorem zTz : zDu 46 = false:=by decide
theorem zMT (s : List UInt8) (hb : s.length ≤ 1073741824) : ∀ (k i p : Nat),s.length - i < k → i ≤ s.length → p ≤ i →
  zCb s k (p : Int) (i : Int) = some (if okL s.length i (s.drop i) then .go ((p + (s.drop i).count 46 : Nat) : Int) else .ret false)
 | 0,_,_,h,_,_ => by omega
 | k + 1,i,p,hk,hi,hp => by
  unfold zCb
  by_cases h : i < s.length
  ·rw [zBi (Int.ofNat_lt.2 h),cond_true,zBA h,List.drop_eq_getElem_cons h]
   generalize s[i] = c
   simp only [Option.bind_some,zTY,zPp,okL,List.count_cons]
   rw [zAM (by omega),zAM (by omega),wrap64_in (by omega) (by omega)]
   have d1 : decide ((0 : Int) < (i : Int)) = decide (0 < i):=zRk 0 i
   have d2 : decide ((i : Int) < (s.length : Int) - 1) = decide (i + 1 < s.length):=by
    by_cases h : i + 1 < s.length
    ·rw [zBi h,zBi (by omega)]
    ·rw [zA8 h,zA8 (by omega)]
   rw [d1,d2]
   cases e : c == 46 with
   | true =>
    obtain rfl : c = 46:=eq_of_beq e
    simp only [cond_true,zTz,Bool.true_and,Bool.or_false]
    cases decide (0 < i) with
    | false => rfl
    | true =>
     simp only [cond_true,Option.bind_some,Bool.true_and]
     cases decide (i + 1 < s.length) with
     | false => rfl
     | true =>
      simp only [cond_true,Option.bind_some,Bool.true_and]
      rw [zMT s hb k (i + 1) (p + 1) (by omega) (by omega) (by omega)]
      simp only [if_true]
      rw [show p + 1 + (s.drop (i + 1)).count 46 = p + ((s.drop (i + 1)).count 46 + 1) by omega]
   | false =>
    simp only [cond_false,Option.bind_some,Bool.false_and,Bool.false_or]
    cases zDu c with
    | false => rfl
    | true =>
     simp only [Bool.not_true,cond_false,Option.bind_some,Bool.true_and]
     rw [zMT s hb k (i + 1) p (by omega) (by omega) (by omega)]
     simp
  ·rw [zA8 (by omega),cond_false]
   obtain rfl : i = s.length:=by omega
   simp [okL]
theorem zNb (n : Nat) (s : List UInt8) (h : s.length < n) (hb : s.length ≤ 1073741824) : zEw n s = some (numB s):=by
 have:=zMT s hb n 0 0 (by omega) (by omega) (by omega)
 rw [show ((0 : Nat) : Int) = 0 from rfl,List.drop_zero] at this
 rw [zEw,this]
 unfold numB
 have e0:=zRk 0 s.length
 have e20:=zE6 s.length 20
 have e1:=zE6 (s.count 46) 1
 rw [show ((0 : Nat) : Int) = 0 from rfl] at e0
 rw [show ((20 : Nat) : Int) = 20 from rfl] at e20
 rw [show ((1 : Nat) : Int) = 1 from rfl] at e1
 cases okL s.length 0 s with
 | false => rfl
 | true =>
  simp only [if_true,Option.bind_some,e0,e20,Nat.zero_add,e1]
  cases decide (0 < s.length) <;> cases decide (s.length ≤ 20) <;> rfl
theorem zN0 : ∀ s : List UInt8,(s.count 46 = 0 ∧ Lib.indexByte s 46 = -1) ∨ ∃ a b,s = a ++ 46 :: b ∧ a.count 46 = 0 ∧ Lib.indexByte s 46 = (a.length : Int)
 | [] => .inl ⟨rfl,rfl⟩
 | c :: s => by
  by_cases h : c = 46
  ·subst h
   exact .inr ⟨[],s,rfl,rfl,by simp [Lib.indexByte]⟩
  ·have hc : (c == 46) = false:=by simpa using h
   rcases zN0 s with ⟨h1,h2⟩ | ⟨a,b,rfl,h1,h2⟩
   ·exact .inl ⟨by rw [List.count_cons,h1,hc]; rfl,by simp [Lib.indexByte,hc,h2]⟩
   ·refine .inr ⟨c :: a,b,rfl,by rw [List.count_cons,h1,hc]; rfl,?_⟩
    have h3 : ((a.length : Int) == -1) = false:=by
     cases e : ((a.length : Int) == -1) with
     | false => rfl
     | true => have:=eq_of_beq e; omega
    simp [Lib.indexByte,hc,h2,h3]
theorem zGK (L : Nat) : ∀ (i : Nat) (a : List UInt8),a.count 46 = 0 → okL L i a = a.all zDu
 | _,[],_ => rfl
 | i,c :: a,h => by
  have hc : (c == 46) = false:=by
   cases e : c == 46 with
   | false => rfl
   | true => rw [List.count_cons,e] at h; simp at h
  rw [List.count_cons,hc] at h
  rw [okL,hc,zGK L (i + 1) a (by simpa using h)]
  simp
theorem zLX (L : Nat) : ∀ (i : Nat) (a b : List UInt8),okL L i (a ++ b) = (okL L i a && okL L (i + a.length) b)
 | _,[],b => by simp [okL]
 | i,c :: a,b => by
  simp only [List.cons_append,okL,zLX L (i + 1) a b,List.length_cons,Bool.and_assoc,show i + 1 + a.length = i + (a.length + 1) by omega]
theorem zMJ : ∀ a : List UInt8,a.all zDu = true → a.count 46 = 0
 | [],_ => rfl
 | c :: a,h => by
  simp only [List.all_cons,Bool.and_eq_true] at h
  have hc : (c == 46) = false:=by
   cases e : c == 46 with
   | false => rfl
   | true => obtain rfl : c = 46:=eq_of_beq e; simp [zTz] at h
  rw [List.count_cons,hc,zMJ a h.2]; rfl
theorem zTH (a b : List UInt8) (ha : a.count 46 = 0) : numB (a ++ 46 :: b) = (decide ((a ++ 46 :: b).length ≤ 20) && ((a.all zDu && !(a == [])) && (b.all zDu && !(b == [])))):=by
 unfold numB
 have hl : (a ++ 46 :: b).length = a.length + (b.length + 1):=by simp
 rw [zLX,zGK _ _ a ha,hl]
 simp only [okL,zTz,Bool.or_false,List.count_append,List.count_cons,ha,beq_self_eq_true,Bool.true_and,if_true,Nat.zero_add]
 have e1 : decide (0 < a.length) = !(a == []):=by cases a <;> rfl
 have e2 : decide (a.length + 1 < a.length + (b.length + 1)) = !(b == []):=by
  cases b with
  | nil => simp
  | cons c b => simp
 have e3 : decide (0 < a.length + (b.length + 1)) = true:=zBi (by omega)
 rw [e1,e2,e3]
 cases hb : b.all zDu with
 | true =>
  rw [zGK _ _ b (zMJ b hb),hb,zMJ b hb]
  cases a.all zDu <;> cases a == [] <;> cases b == [] <;> cases decide (a.length + (b.length + 1) ≤ 20) <;> rfl
 | false =>
  cases hc : decide (b.count 46 + 1 ≤ 1) with
  | true =>
   have : b.count 46 = 0:=by have:=of_decide_eq_true hc; omega
   rw [zGK _ _ b this,hb]
   cases a.all zDu <;> cases a == [] <;> cases b == [] <;> cases decide (a.length + (b.length + 1) ≤ 20) <;> rfl
  | false =>
   generalize okL _ _ b = z
   cases z <;> cases a.all zDu <;> cases a == [] <;> cases b == [] <;> cases decide (a.length + (b.length + 1) ≤ 20) <;> rfl
theorem zRN (s : List UInt8) (h : s.count 46 = 0) : numB s = (decide (s.length ≤ 20) && (s.all zDu && !(s == []))):=by
 unfold numB
 rw [zGK _ _ s h,h]
 have e1 : decide (0 < s.length) = !(s == []):=by cases s <;> rfl
 rw [e1]
 cases s.all zDu <;> cases s == [] <;> cases decide (s.length ≤ 20) <;> rfl
theorem zLe (n : Nat) (s : List UInt8) (h : s.length < n) (hb : s.length ≤ 1073741824) : zDj n s = some (numB s):=by
 have e20:=zE6 s.length 20
 rw [show ((20 : Nat) : Int) = 20 from rfl] at e20
 have hi : zDD s [46] = some (Lib.indexByte s 46):=rfl
 rcases zN0 s with ⟨h1,h2⟩ | ⟨a,b,rfl,h1,h2⟩
 ·rw [zRN s h1]
  simp only [zDj,zDW,zCw,hi,h2,Option.bind_some,show decide ((0 : Int) ≤ -1) = false from rfl,cond_false,e20,zFy n s h hb]
  cases decide (s.length ≤ 20) <;> cases (s.all zDu && !(s == [])) <;> rfl
 ·have hl : (a ++ 46 :: b).length = a.length + (b.length + 1):=by simp
  rw [zTH a b h1]
  have w1 : IntKind.i64.wrap ((a.length : Int) + (([46] : List UInt8).length : Int)) = ((a.length + 1 : Nat) : Int):=zAM (by omega)
  have t1 : ((a ++ 46 :: b).take ((a.length : Int)).toNat).drop (0 : Int).toNat = a:=by simp
  have t2 : ((a ++ 46 :: b).take (((a ++ 46 :: b).length : Int)).toNat).drop (((a.length + 1 : Nat) : Int)).toNat = b:=by
   rw [Int.toNat_natCast,Int.toNat_natCast,List.take_length,List.drop_append]
   simp
  simp only [zDj,zDW,zCw,hi,h2,Option.bind_some,w1]
  rw [zBi (by omega),cond_true,zBl (by omega),zBl (by omega),t1,t2]
  simp only [Option.bind_some,e20,zFy n a (by omega) (by omega),zFy n b (by omega) (by omega)]
  cases decide ((a ++ 46 :: b).length ≤ 20) <;> cases (a.all zDu && !(a == [])) <;> cases (b.all zDu && !(b == [])) <;> rfl
end Go.Proofs.YtgfneloodabafaaGreatDoor
namespace Go.Proofs.YtgfneloodabafaaGreatDoor
open Go.Abs
def Nd.kind : Nd → Int | .mk k _ _ _ => k
def zQ6 (k : Int) (t : List UInt8) : Bool :=
 if k = 2 then symB t else if k = 3 then numB t else if k = 4 then (decide (t.length ≤ 200) && t.all zFY) else if k = 10 then acL.any (fun e => e == t) else if k = 11 then fenB t else t == []
def zFR (k c : Int) (m : Int) : Bool :=
 if k = 12 then decide (1 ≤ c) && (decide (c ≤ 16) && (decide (1 ≤ m) && (decide (m ≤ 256) && (m.tmod c == 0))))
 else (c == 0) && (if k = 1 then decide (m ≤ 200) else if k = 2 then m == 0 else if k = 3 then m == 0 else if k = 4 then m == 0 else if k = 5 then m == 2 else if k = 6 then m == 2 else if k = 7 then m == 2 else if k = 8 then m == 2
  else if k = 9 then m == 3 else if k = 10 then m == 1 else if k = 11 then m == 1 else false)
mutual
def zGE : Nd → Bool
 | .mk k t c ks => (zQ6 k t && zFR k c (ks.length : Int)) && zE8 k ks
def zE8 : Int → List Nd → Bool
 | _,[] => true
 | k,v :: vs => (!((v.kind == 1) == (k == 1)) && zGE v) && zE8 k vs
end
mutual
def Nd.dep : Nd → Nat
 | .mk _ _ _ ks => Nd.deps ks + 1
def Nd.deps : List Nd → Nat
 | [] => 0
 | v :: vs => Nat.max v.dep (Nd.deps vs)
end
theorem zLN {k : Int} {a : List Nd} {i : Nat} (h : i < a.length) : zE8 k (a.drop i) = ((!((a[i].kind == 1) == (k == 1)) && zGE a[i]) && zE8 k (a.drop (i + 1))):=by
 rw [List.drop_eq_getElem_cons h]; rfl
theorem zN1 {a : List Nd} {i : Nat} (h : i < a.length) : Nd.deps (a.drop i) = Nat.max (a[i]).dep (Nd.deps (a.drop (i + 1))):=by
 rw [List.drop_eq_getElem_cons h]; rfl
mutual
theorem Nd.dep_cnt : ∀ v : Nd,v.dep ≤ v.cnt
 | .mk _ _ _ ks => by have:=Nd.deps_cnts ks; simp only [Nd.dep,Nd.cnt]; omega
theorem Nd.deps_cnts : ∀ vs : List Nd,Nd.deps vs ≤ Nd.cnts vs
 | [] => Nat.le_refl _
 | v :: vs => by
  have:=Nd.dep_cnt v; have:=Nd.deps_cnts vs
  simp only [Nd.deps,Nd.cnts]
  exact Nat.max_le.2 ⟨by omega,by omega⟩
end
mutual
theorem Nd.cnt_w : ∀ v : Nd,v.cnt ≤ v.w
 | .mk _ t _ ks => by have:=Nd.cnts_ws ks; simp only [Nd.cnt,Nd.w]; omega
theorem Nd.cnts_ws : ∀ vs : List Nd,Nd.cnts vs ≤ Nd.ws vs
 | [] => Nat.le_refl _
 | v :: vs => by have:=Nd.cnt_w v; have:=Nd.cnts_ws vs; simp only [Nd.cnts,Nd.ws]; omega
end
theorem zGJ {a b : Int} (h : a ≠ b) : (a == b) = false:=by
 cases e : (a == b) with
 | false => rfl
 | true => exact absurd (eq_of_beq e) h
theorem zPL (n : Nat) (k : Int) (t : List UInt8) (c : Int) (ks : List Nd) (h : t.length + 40 < n) (hb : t.length ≤ 1073741824) : zFU n (.mk k t c ks) = some (zQ6 k t):=by
 have e200:=zE6 t.length 200
 rw [show ((200 : Nat) : Int) = 200 from rfl] at e200
 have ea : zEk n acL t = some (acL.any fun e => e == t):=zKN n acL t (by simp only [acL,List.length_cons,List.length_nil]; omega) (by simp [acL])
 have a1 : zDm = some acL:=rfl
 unfold zFU zQ6
 dsimp only
 by_cases h2 : k = 2
 ·subst h2; simp only [beq_self_eq_true,cond_true,zNd n t h hb,Option.bind_some,if_true]
 rw [zGJ h2,if_neg h2,cond_false]
 by_cases h3 : k = 3
 ·subst h3; simp only [beq_self_eq_true,cond_true,zNb n t (by omega) hb,Option.bind_some,if_true]
 rw [zGJ h3,if_neg h3,cond_false]
 by_cases h4 : k = 4
 ·subst h4; simp only [beq_self_eq_true,cond_true,zJK n t (by omega) hb,Option.bind_some,if_true,e200]
  cases decide (t.length ≤ 200) <;> rfl
 rw [zGJ h4,if_neg h4,cond_false]
 by_cases h10 : k = 10
 ·subst h10; simp only [beq_self_eq_true,cond_true,a1,ea,Option.bind_some,if_true]
 rw [zGJ h10,if_neg h10,cond_false]
 by_cases h11 : k = 11
 ·subst h11; rw [if_pos rfl,beq_self_eq_true,cond_true,zON n t (by omega)]; rfl
 rw [zGJ h11,if_neg h11,cond_false]
theorem kinds (k : Int) : k = 1 ∨ k = 2 ∨ k = 3 ∨ k = 4 ∨ k = 5 ∨ k = 6 ∨ k = 7 ∨ k = 8 ∨ k = 9 ∨ k = 10 ∨ k = 11 ∨ k = 12 ∨ (k < 1 ∨ 12 < k):=by omega
theorem zPK (k : Int) (t : List UInt8) (c : Int) (ks : List Nd) : zFT (.mk k t c ks) = some (zFR k c (ks.length : Int)):=by
 unfold zFT
 dsimp only
 generalize (ks.length : Int) = m
 rcases kinds k with rfl | rfl | rfl | rfl | rfl | rfl | rfl | rfl | rfl | rfl | rfl | rfl | h
 ·simp only [bne,zFR]; generalize (c == 0) = z; generalize decide (m ≤ 200) = y; cases z <;> rfl
 ·simp only [bne,zFR]; generalize (c == 0) = z; generalize (m == 0) = y; cases z <;> rfl
 ·simp only [bne,zFR]; generalize (c == 0) = z; generalize (m == 0) = y; cases z <;> rfl
 ·simp only [bne,zFR]; generalize (c == 0) = z; generalize (m == 0) = y; cases z <;> rfl
 ·simp only [bne,zFR]; generalize (c == 0) = z; generalize (m == 2) = y; cases z <;> rfl
 ·simp only [bne,zFR]; generalize (c == 0) = z; generalize (m == 2) = y; cases z <;> rfl
 ·simp only [bne,zFR]; generalize (c == 0) = z; generalize (m == 2) = y; cases z <;> rfl
 ·simp only [bne,zFR]; generalize (c == 0) = z; generalize (m == 2) = y; cases z <;> rfl
 ·simp only [bne,zFR]; generalize (c == 0) = z; generalize (m == 3) = y; cases z <;> rfl
 ·simp only [bne,zFR]; generalize (c == 0) = z; generalize (m == 1) = y; cases z <;> rfl
 ·simp only [bne,zFR]; generalize (c == 0) = z; generalize (m == 1) = y; cases z <;> rfl
 ·unfold zFR
  rw [if_pos rfl,beq_self_eq_true,cond_true]
  by_cases h1 : 1 ≤ c
  ·rw [zBi h1,zBl (by omega)]
   generalize (m.tmod c == 0) = y
   cases decide (c ≤ 16) <;> cases decide (1 ≤ m) <;> cases decide (m ≤ 256) <;> rfl
  ·rw [zA8 h1]; rfl
 ·have e : ∀ i : Int,1 ≤ i → i ≤ 12 → (k == i) = false:=fun i h1 h2 => zGJ (by omega)
  have f : ∀ i : Int,1 ≤ i → i ≤ 12 → k ≠ i:=fun i h1 h2 => by omega
  unfold zFR
  rw [if_neg (f 12 (by decide) (by decide)),if_neg (f 1 (by decide) (by decide)),if_neg (f 2 (by decide) (by decide)),if_neg (f 3 (by decide) (by decide)),if_neg (f 4 (by decide) (by decide)),if_neg (f 5 (by decide) (by decide)),
   if_neg (f 6 (by decide) (by decide)),if_neg (f 7 (by decide) (by decide)),if_neg (f 8 (by decide) (by decide)),if_neg (f 9 (by decide) (by decide)),if_neg (f 10 (by decide) (by decide)),if_neg (f 11 (by decide) (by decide))]
  rw [e 12 (by decide) (by decide),e 1 (by decide) (by decide),e 2 (by decide) (by decide),e 3 (by decide) (by decide),e 4 (by decide) (by decide),e 5 (by decide) (by decide),
   e 6 (by decide) (by decide),e 7 (by decide) (by decide),e 8 (by decide) (by decide),e 9 (by decide) (by decide),e 10 (by decide) (by decide),e 11 (by decide) (by decide)]
  cases (c == 0) <;> cases (c != 0) <;> rfl
theorem zT6 (n : Nat) (x : Int) (k : Int) (t : List UInt8) (c : Int) (ks : List Nd) (h : t.length + 40 < n) (hb : t.length ≤ 1073741824) :
  zCi n ((),x) (.mk k t c ks) = some (zQ6 k t && zFR k c (ks.length : Int),((),x)):=by
 have e200:=zE6 t.length 200
 rw [show ((200 : Nat) : Int) = 200 from rfl] at e200
 unfold zCi
 dsimp only
 generalize (ks.length : Int) = m
 have em : zB4 t = some (t == []):=rfl
 rcases kinds k with rfl | rfl | rfl | rfl | rfl | rfl | rfl | rfl | rfl | rfl | rfl | rfl | h
 ·simp only [em]
  show _ = some ((t == []) && ((c == 0) && decide (m ≤ 200)),((),x))
  cases t == [] <;> cases c == 0 <;> rfl
 ·simp only [zLf n t h hb]
  show _ = some (symB t && ((c == 0) && (m == 0)),((),x))
  cases symB t <;> cases c == 0 <;> rfl
 ·simp only [zLe n t (by omega) hb]
  show _ = some (numB t && ((c == 0) && (m == 0)),((),x))
  cases numB t <;> cases c == 0 <;> rfl
 ·simp only [zMS n t (by omega) hb,e200]
  show _ = some ((decide (t.length ≤ 200) && t.all zFY) && ((c == 0) && (m == 0)),((),x))
  cases decide (t.length ≤ 200) <;> cases t.all zFY <;> cases c == 0 <;> rfl
 ·simp only [em]
  show _ = some ((t == []) && ((c == 0) && (m == 2)),((),x))
  cases t == [] <;> cases c == 0 <;> rfl
 ·simp only [em]
  show _ = some ((t == []) && ((c == 0) && (m == 2)),((),x))
  cases t == [] <;> cases c == 0 <;> rfl
 ·simp only [em]
  show _ = some ((t == []) && ((c == 0) && (m == 2)),((),x))
  cases t == [] <;> cases c == 0 <;> rfl
 ·simp only [em]
  show _ = some ((t == []) && ((c == 0) && (m == 2)),((),x))
  cases t == [] <;> cases c == 0 <;> rfl
 ·simp only [em]
  show _ = some ((t == []) && ((c == 0) && (m == 3)),((),x))
  cases t == [] <;> cases c == 0 <;> rfl
 ·simp only [zHo]
  show _ = some ((acL.any fun e => e == t) && ((c == 0) && (m == 1)),((),x))
  cases (acL.any fun e => e == t) <;> cases c == 0 <;> rfl
 ·simp only [zMR]
  show _ = some (fenB t && ((c == 0) && (m == 1)),((),x))
  cases fenB t <;> cases c == 0 <;> rfl
 ·simp only [em]
  show _ = some ((t == []) && (decide (1 ≤ c) && (decide (c ≤ 16) && (decide (1 ≤ m) && (decide (m ≤ 256) && (m.tmod c == 0))))),((),x))
  by_cases h1 : 1 ≤ c
  ·rw [zBi h1,zBl (by omega)]
   generalize (m.tmod c == 0) = y
   cases t == [] <;> cases decide (c ≤ 16) <;> cases decide (1 ≤ m) <;> cases decide (m ≤ 256) <;> rfl
  ·rw [zA8 h1]
   cases t == [] <;> rfl
 ·have f : ∀ i : Int,1 ≤ i → i ≤ 12 → k ≠ i:=fun i h1 h2 => by omega
  have hk : zFR k c m = false:=by
   unfold zFR
   rw [if_neg (f 12 (by decide) (by decide)),if_neg (f 1 (by decide) (by decide)),if_neg (f 2 (by decide) (by decide)),if_neg (f 3 (by decide) (by decide)),if_neg (f 4 (by decide) (by decide)),if_neg (f 5 (by decide) (by decide)),
    if_neg (f 6 (by decide) (by decide)),if_neg (f 7 (by decide) (by decide)),if_neg (f 8 (by decide) (by decide)),if_neg (f 9 (by decide) (by decide)),if_neg (f 10 (by decide) (by decide)),if_neg (f 11 (by decide) (by decide))]
   exact Bool.and_false _
  rw [hk,Bool.and_false]
  by_cases h1 : k < 1
  ·rw [zBi h1]; rfl
  ·rw [zA8 h1,zBi (show 12 < k by omega)]; rfl
theorem zIs {F : Nd → Option Bool} {k : Int} {ks : List Nd} (hF : ∀ v ∈ ks,F v = some (zGE v)) (hl : ks.length ≤ 1073741824) :
  ∀ (q i : Nat),ks.length - i < q → i ≤ ks.length → zCH F k ks q (i : Int) = some (if zE8 k (ks.drop i) then .go () else .ret false)
 | 0,_,h,_ => by omega
 | q + 1,i,hq,hi => by
  unfold zCH
  by_cases h : i < ks.length
  ·rw [zBi (Int.ofNat_lt.2 h),cond_true,zBA h]
   have hf:=hF _ (List.getElem_mem h)
   have g1:=zLN (k:=k) h
   rcases e : ks[i] with ⟨a,b,c,d⟩
   rw [e] at hf g1
   simp only [Nd.kind] at g1
   generalize zE8 k (ks.drop i) = g at g1 ⊢
   subst g1
   simp only [Option.bind_some,hf]
   rw [zAM (by omega),zIs hF hl q (i + 1) (by omega) (by omega)]
   cases ((a == 1) == (k == 1)) <;> cases zGE (Nd.mk a b c d) <;> simp
  ·rw [zA8 (by omega),cond_false]
   obtain rfl : i = ks.length:=by omega
   simp [zE8]
theorem zKO : ∀ (n : Nat) (t : Nd),t.w + 45 < n → t.w ≤ 1073741824 → zDn n t = some (zGE t)
 | 0,_,h,_ => by omega
 | n + 1,.mk k t c ks,h,hb => by
  simp only [Nd.w] at h hb
  have hl:=Nd.ws_len ks
  unfold zDn
  rw [zPL n k t c ks (by omega) (by omega),zPK]
  have:=zIs (F:=zDn n) (k:=k) (ks:=ks) (fun v hv => zKO n v (by have:=Nd.w_mem hv; omega) (by have:=Nd.w_mem hv; omega)) (by omega) n 0 (by omega) (by omega)
  rw [show ((0 : Nat) : Int) = 0 from rfl,List.drop_zero] at this
  simp only [Option.bind_some,this,zGE]
  cases zQ6 k t <;> cases zFR k c (ks.length : Int) <;> cases zE8 k ks <;> rfl
theorem zHs {F : Nd → Option Int} {ks : List Nd} (hF : ∀ v ∈ ks,F v = some (v.dep : Int)) (hl : ks.length ≤ 1073741824) :
  ∀ (q i o : Nat),ks.length - i < q → i ≤ ks.length → zCp F ks q (o : Int) (i : Int) = some ((Nat.max o (Nd.deps (ks.drop i)) : Nat) : Int)
 | 0,_,_,h,_ => by omega
 | q + 1,i,o,hq,hi => by
  unfold zCp
  by_cases h : i < ks.length
  ·rw [zBi (Int.ofNat_lt.2 h),cond_true,zBA h,zN1 h]
   have hf:=hF _ (List.getElem_mem h)
   rcases e : ks[i] with ⟨a,b,c,d⟩
   rw [e] at hf
   simp only [Option.bind_some,hf]
   have hm : (if (o : Int) < ((Nd.mk a b c d).dep : Int) then ((Nd.mk a b c d).dep : Int) else (o : Int)) = ((Nat.max o (Nd.mk a b c d).dep : Nat) : Int):=by
    by_cases g : (o : Int) < ((Nd.mk a b c d).dep : Int)
    ·rw [if_pos g]; congr 1; exact (Nat.max_eq_right (by omega)).symm
    ·rw [if_neg g]; congr 1; exact (Nat.max_eq_left (by omega)).symm
   rw [zAM (by omega),hm,zHs hF hl q (i + 1) _ (by omega) (by omega)]
   congr 2
   exact Nat.max_assoc _ _ _
  ·rw [zA8 (by omega),cond_false]
   obtain rfl : i = ks.length:=by omega
   rw [List.drop_length]
   congr 2
   exact (Nat.max_eq_left (Nat.zero_le _)).symm
theorem zJt : ∀ (n : Nat) (t : Nd),t.cnt < n → t.cnt ≤ 67108864 → zCF n t = some (t.dep : Int)
 | 0,_,h,_ => by omega
 | n + 1,.mk k t c ks,h,hb => by
  simp only [Nd.cnt] at h hb
  have hl:=Nd.cnts_len ks
  have hd:=Nd.deps_cnts ks
  unfold zCF
  have:=zHs (F:=zCF n) (ks:=ks) (fun v hv => zJt n v (by have:=Nd.cnts_mem hv; omega) (by have:=Nd.cnts_mem hv; omega)) (by omega) n 0 0 (by omega) (by omega)
  rw [show ((0 : Nat) : Int) = 0 from rfl,List.drop_zero] at this
  rw [this,Option.bind_some,show Nat.max 0 (Nd.deps ks) = Nd.deps ks from Nat.max_eq_right (Nat.zero_le _),zAM (by omega)]
  rfl
def zBG (t : Nd) : Bool:=(t.kind == 1) && (zGE t && (decide (t.cnt ≤ 1000) && decide (t.dep ≤ 24)))
theorem zFs (n : Nat) (t : Nd) (h : t.w + 45 < n) (hb : t.w ≤ 67108864) : zC6 n t = some (zBG t):=by
 have hc:=Nd.cnt_w t
 have e1:=zKO n t h (by omega)
 have e2:=zDN n t (by omega) (by omega)
 have e3:=zJt n t (by omega) (by omega)
 have e4:=zE6 t.cnt 1000
 rw [show ((1000 : Nat) : Int) = 1000 from rfl] at e4
 have e5:=zE6 t.dep 24
 rw [show ((24 : Nat) : Int) = 24 from rfl] at e5
 obtain ⟨k,s,c,ks⟩:=t
 unfold zC6 zBG
 simp only [e1,e2,e3,Option.bind_some,e4,e5,Nd.kind]
 cases k == 1 <;> cases zGE (.mk k s c ks) <;> cases decide ((Nd.mk k s c ks).cnt ≤ 1000) <;> rfl
abbrev okN (t : Nd) (x d : Nat) : Prop:=zGE t = true ∧ x + t.cnt ≤ 1000 ∧ d + t.dep ≤ 25
abbrev okNs (k : Int) (vs : List Nd) (x d : Nat) : Prop:=zE8 k vs = true ∧ x + Nd.cnts vs ≤ 1000 ∧ d + Nd.deps vs ≤ 24
theorem zLJ {F : (Unit × Int) → Nd → Int → Option (Bool × (Unit × Int))} {k : Int} {ks : List Nd} {d : Nat} (hd : d ≤ 24)
  (hF : ∀ v ∈ ks,∀ x : Nat,x ≤ 1000 → ∃ y,F ((),(x : Int)) v ((d + 1 : Nat) : Int) = some (decide (okN v x (d + 1)),((),y)) ∧ (okN v x (d + 1) → y = ((x + v.cnt : Nat) : Int))) (hl : ks.length ≤ 1073741824) :
  ∀ (q i x : Nat),ks.length - i < q → i ≤ ks.length → x ≤ 1000 →
   (okNs k (ks.drop i) x d ∧ zA3 F k ks (d : Int) q (x : Int) (i : Int) = some (.go ((x + Nd.cnts (ks.drop i) : Nat) : Int))) ∨
   (¬ okNs k (ks.drop i) x d ∧ ∃ z,zA3 F k ks (d : Int) q (x : Int) (i : Int) = some (.ret (false,((),z))))
 | 0,_,_,h,_,_ => by omega
 | q + 1,i,x,hq,hi,hx => by
  unfold zA3
  by_cases h : i < ks.length
  ·rw [zBi (Int.ofNat_lt.2 h),cond_true,zBA h]
   obtain ⟨y,hf,hy⟩:=hF _ (List.getElem_mem h) x hx
   have g1:=zLN (k:=k) h
   have g2:=Nd.cnts_drop h
   have g3:=zN1 h
   rcases e : ks[i] with ⟨a,b,c,ds⟩
   rw [e] at hf hy g1 g2 g3
   simp only [Option.bind_some]
   rw [zAM (by omega),zAM (by omega),hf]
   simp only [Option.bind_some]
   have g4 : Nd.deps (ks.drop i) = Nat.max (Nd.mk a b c ds).dep (Nd.deps (ks.drop (i + 1))):=g3
   have g5 : (Nd.mk a b c ds).dep ≤ Nd.deps (ks.drop i):=by rw [g4]; exact Nat.le_max_left _ _
   have g6 : Nd.deps (ks.drop (i + 1)) ≤ Nd.deps (ks.drop i):=by rw [g4]; exact Nat.le_max_right _ _
   rw [show ((k == 1) == (a == 1)) = ((a == 1) == (k == 1)) by cases k == 1 <;> cases a == 1 <;> rfl]
   cases hkk : ((a == 1) == (k == 1)) with
   | true =>
    simp only [cond_true,Option.bind_some]
    refine .inr ⟨fun ⟨h1,_⟩ => ?_,_,rfl⟩
    rw [g1] at h1
    simp [Nd.kind,hkk] at h1
   | false =>
    simp only [cond_false,Option.bind_some]
    by_cases hok : okN (Nd.mk a b c ds) x (d + 1)
    ·rw [zBi hok]
     simp only [Bool.not_true,cond_false]
     rw [hy hok]
     have hp:=(Nd.mk a b c ds).cnt_pos
     rcases zLJ hd hF hl q (i + 1) (x + (Nd.mk a b c ds).cnt) (by omega) (by omega) hok.2.1 with ⟨hr,hr2⟩ | ⟨hr,z,hr2⟩
     ·refine .inl ⟨⟨?_,?_,?_⟩,?_⟩
      ·rw [g1,hr.1,hok.1]; simp [Nd.kind,hkk]
      ·have:=hr.2.1; omega
      ·have:=hr.2.2
       have:=hok.2.2
       have : Nd.deps (ks.drop i) ≤ 24 - d:=by rw [g4]; exact Nat.max_le.2 ⟨by omega,by omega⟩
       omega
      ·rw [hr2,g2]; congr 3; omega
     ·refine .inr ⟨fun ⟨h1,h2,h3⟩ => hr ⟨?_,by omega,by omega⟩,z,hr2⟩
      rw [g1] at h1
      simp only [Bool.and_eq_true] at h1
      exact h1.2
    ·rw [zA8 hok]
     simp only [Bool.not_false,cond_true]
     refine .inr ⟨fun ⟨h1,h2,h3⟩ => hok ⟨?_,by omega,by omega⟩,y,rfl⟩
     rw [g1] at h1
     simp only [Bool.and_eq_true] at h1
     exact h1.1.2
  ·rw [zA8 (by omega),cond_false]
   obtain rfl : i = ks.length:=by omega
   rw [List.drop_length]
   exact .inl ⟨⟨rfl,hx,hd⟩,rfl⟩
theorem zP0 : ∀ (n : Nat) (t : Nd) (x d : Nat),t.w + 45 < n → t.w ≤ 67108864 → x ≤ 1000 → d ≤ 25 →
  ∃ y,zBa n ((),(x : Int)) t (d : Int) = some (decide (okN t x d),((),y)) ∧ (okN t x d → y = ((x + t.cnt : Nat) : Int))
 | 0,_,_,_,h,_,_,_ => by omega
 | n + 1,.mk k t c ks,x,d,h,hb,hx,hd => by
  simp only [Nd.w] at h hb
  have hl:=Nd.ws_len ks
  unfold zBa
  rw [zAM (by omega)]
  by_cases h1 : 1000 < ((x + 1 : Nat) : Int)
  ·rw [zBi h1]
   simp only [cond_true,Option.bind_some]
   have hn : ¬ okN (.mk k t c ks) x d:=fun ⟨_,h2,_⟩ => by simp only [Nd.cnt] at h2; omega
   exact ⟨_,by rw [zA8 hn],fun h => absurd h hn⟩
  ·rw [zA8 h1,cond_false]
   by_cases h2 : 24 < (d : Int)
   ·rw [zBi h2]
    simp only [cond_true,Option.bind_some]
    have hn : ¬ okN (.mk k t c ks) x d:=fun ⟨_,_,h2⟩ => by simp only [Nd.dep] at h2; omega
    exact ⟨_,by rw [zA8 hn],fun h => absurd h hn⟩
   ·rw [zA8 h2,cond_false,zT6 n _ k t c ks (by omega) (by omega)]
    simp only [Option.bind_some]
    cases ho : (zQ6 k t && zFR k c (ks.length : Int)) with
    | false =>
     simp only [Bool.not_false,cond_true]
     have hn : ¬ okN (.mk k t c ks) x d:=fun ⟨h1,_⟩ => by rw [zGE,ho] at h1; cases h1
     exact ⟨_,by rw [zA8 hn],fun h => absurd h hn⟩
    | true =>
     simp only [Bool.not_true,cond_false]
     have:=zLJ (F:=zBa n) (k:=k) (ks:=ks) (d:=d) (by omega) (fun v hv z hz => zP0 n v z (d + 1) (by have:=Nd.w_mem hv; omega) (by have:=Nd.w_mem hv; omega) hz (by omega)) (by omega) n 0 (x + 1) (by omega) (by omega) (by omega)
     rw [show ((0 : Nat) : Int) = 0 from rfl,List.drop_zero] at this
     rcases this with ⟨hr,hr2⟩ | ⟨hr,z,hr2⟩
     ·have hy : okN (.mk k t c ks) x d:=⟨by rw [zGE,ho,hr.1]; rfl,by have:=hr.2.1; simp only [Nd.cnt]; omega,by have:=hr.2.2; simp only [Nd.dep]; omega⟩
      rw [hr2]
      exact ⟨_,by rw [zBi hy]; rfl,fun _ => by simp only [Nd.cnt]; omega⟩
     ·have hn : ¬ okN (.mk k t c ks) x d:=fun ⟨g1,g2,g3⟩ => hr ⟨by rw [zGE,ho] at g1; exact g1,by simp only [Nd.cnt] at g2; omega,by simp only [Nd.dep] at g3; omega⟩
      rw [hr2]
      exact ⟨_,by rw [zA8 hn]; rfl,fun h => absurd h hn⟩
theorem zDq (n : Nat) (t : Nd) (h : t.w + 45 < n) (hb : t.w ≤ 67108864) : zB3 n t = some (zBG t):=by
 obtain ⟨y,h1,_⟩:=zP0 n t 0 1 h hb (by omega) (by omega)
 rw [show ((0 : Nat) : Int) = 0 from rfl,show ((1 : Nat) : Int) = 1 from rfl] at h1
 obtain ⟨k,s,c,ks⟩:=t
 unfold zB3 zBG
 have hk : zDK = some ():=rfl
 simp only [hk,h1,Option.bind_some,Nd.kind]
 cases k == 1 with
 | false => rfl
 | true =>
  simp only [cond_true,Option.bind_some,Bool.true_and,Option.some.injEq,okN]
  cases zGE (.mk k s c ks) with
  | false => simp
  | true =>
   by_cases g1 : (Nd.mk k s c ks).cnt ≤ 1000
   ·by_cases g2 : (Nd.mk k s c ks).dep ≤ 24
    ·rw [zBi g1,zBi g2,zBi ⟨rfl,by omega,by omega⟩]; rfl
    ·rw [zBi g1,zA8 g2,zA8 (fun h => g2 (by omega))]; rfl
   ·rw [zA8 g1,zA8 (fun h => g1 (by omega))]; rfl
end Go.Proofs.YtgfneloodabafaaGreatDoor
namespace Go.Proofs.YtgfneloodabafaaGreatDoor
open Go.Abs
def Nd.text : Nd → List UInt8 | .mk _ t _ _ => t
def Nd.cols : Nd → Int | .mk _ _ c _ => c
theorem Nd.cnt_kids : ∀ x : Nd,x.cnt = Nd.cnts x.kids + 1
 | .mk _ _ _ _ => rfl
def zBH (x y : Nd) : Bool:=(x.kind == y.kind) && (((x.kids.length : Int) == (y.kids.length : Int)) && (x.cols == y.cols))
def rowD (P : Nd → Nd → Nat) (x : Nd) (f : List Nd → Nat) : List Nd → Nat
 | [] => x.cnt + f []
 | y :: ys => if zBH x y then min (min (x.cnt + f (y :: ys)) (y.cnt + rowD P x f ys)) (P x y + f ys) else min (x.cnt + f (y :: ys)) (y.cnt + rowD P x f ys)
def TD (P : Nd → Nd → Nat) : List Nd → List Nd → Nat
 | [] => Nd.cnts
 | x :: xs => rowD P x (TD P xs)
def sumD (f : List Nd → List Nd → Nat) : List Nd → List Nd → Nat
 | u :: us,v :: vs => f u.kids v.kids + sumD f us vs
 | _,_ => 0
def txt (x y : Nd) : Nat:=bif x.text == y.text then 0 else 1
def PD : Nat → Nd → Nd → Nat
 | 0,_,_ => 0
 | n + 1,x,y => txt x y + sumD (TD (PD n)) x.kids y.kids
def D (x y : Nd) : Nat:=PD x.cnt x y
def DL (a b : List Nd) : Nat:=TD D a b
theorem zMb {P P' : Nd → Nd → Nat} {x : Nd} {f : List Nd → Nat} (h : ∀ y,P x y = P' x y) : ∀ b,rowD P x f b = rowD P' x f b
 | [] => rfl
 | y :: ys => by simp only [rowD,zMb h ys,h]
theorem zMx {P P' : Nd → Nd → Nat} : ∀ {a : List Nd},(∀ x ∈ a,∀ y,P x y = P' x y) → TD P a = TD P' a
 | [],_ => rfl
 | x :: xs,h => by
  rw [TD,TD,zMx fun x hx => h x (List.mem_cons_of_mem _ hx)]
  exact funext (zMb (h x List.mem_cons_self))
theorem zI0 {f g : List Nd → List Nd → Nat} : ∀ {us : List Nd} (vs : List Nd),(∀ u ∈ us,f u.kids = g u.kids) → sumD f us vs = sumD g us vs
 | [],vs,_ => by cases vs <;> rfl
 | u :: us,[],_ => rfl
 | u :: us,v :: vs,h => by
  rw [sumD,sumD,h u List.mem_cons_self,zI0 vs fun u hu => h u (List.mem_cons_of_mem _ hu)]
theorem zNv : ∀ (n m : Nat) (x y : Nd),x.cnt ≤ n → x.cnt ≤ m → PD n x y = PD m x y
 | 0,_,x,_,h,_ => by have:=x.cnt_pos; omega
 | _ + 1,0,x,_,_,h => by have:=x.cnt_pos; omega
 | n + 1,m + 1,x,y,h1,h2 => by
  rw [PD,PD]
  congr 1
  refine zI0 _ fun u hu => zMx fun x' hx' y' => ?_
  have e1:=x.cnt_kids
  have e2:=u.cnt_kids
  have e3:=Nd.cnts_mem hu
  have e4:=Nd.cnts_mem hx'
  exact zNv n m x' y' (by omega) (by omega)
theorem D_eq (x y : Nd) : D x y = txt x y + sumD DL x.kids y.kids:=by
 unfold D DL
 have e1:=x.cnt_kids
 rw [e1,PD]
 congr 1
 refine zI0 _ fun u hu => zMx fun x' hx' y' => ?_
 have e2:=u.cnt_kids
 have e3:=Nd.cnts_mem hu
 have e4:=Nd.cnts_mem hx'
 exact zNv _ _ x' y' (by omega) (Nat.le_refl _)
theorem zPO {P : Nd → Nd → Nat} {x : Nd} {f : List Nd → Nat} {c : Nat} (h : ∀ b,f b ≤ c + Nd.cnts b) : ∀ b,rowD P x f b ≤ x.cnt + c + Nd.cnts b
 | [] => by have:=h []; simp only [rowD]; omega
 | y :: ys => by
  have h1:=h (y :: ys)
  have : rowD P x f (y :: ys) ≤ x.cnt + f (y :: ys):=by
   simp only [rowD]
   split
   ·exact Nat.le_trans (Nat.min_le_left _ _) (Nat.min_le_left _ _)
   ·exact Nat.min_le_left _ _
  omega
theorem zJB {P : Nd → Nd → Nat} : ∀ a b : List Nd,TD P a b ≤ Nd.cnts a + Nd.cnts b
 | [],b => by simp [TD,Nd.cnts]
 | x :: xs,b => by
  have:=zPO (P:=P) (x:=x) (zJB (P:=P) xs) b
  simp only [TD,Nd.cnts]; omega
theorem zNo : ∀ us vs : List Nd,sumD DL us vs ≤ Nd.cnts us + Nd.cnts vs
 | [],vs => by cases vs <;> simp [sumD]
 | u :: us,[] => by simp [sumD]
 | u :: us,v :: vs => by
  have h1:=zNo us vs
  have h2 : DL u.kids v.kids ≤ _:=zJB u.kids v.kids
  have e1:=u.cnt_kids
  have e2:=v.cnt_kids
  simp only [sumD,Nd.cnts]; omega
theorem zSp (x y : Nd) : txt x y ≤ 1:=by
 unfold txt
 cases x.text == y.text
 ·exact Nat.le_refl _
 ·exact Nat.zero_le _
theorem D_le (x y : Nd) : D x y ≤ x.cnt + y.cnt:=by
 have h1:=zNo x.kids y.kids
 have h2:=zSp x y
 have e1:=x.cnt_kids
 have e2:=y.cnt_kids
 rw [D_eq]; omega
def sufs (f : List Nd → Nat) : List Nd → List Int
 | [] => [(f [] : Int)]
 | y :: ys => (f (y :: ys) : Int) :: sufs f ys
theorem zIz (f : List Nd → Nat) : ∀ b,∃ r,sufs f b = (f b : Int) :: r
 | [] => ⟨_,rfl⟩
 | y :: ys => ⟨_,rfl⟩
theorem zG4 (f : List Nd → Nat) (b : List Nd) : (sufs f b).headD 0 = (f b : Int):=by
 obtain ⟨r,h⟩:=zIz f b; rw [h]; rfl
def tabD (P : Nd → Nd → Nat) : List Nd → List Nd → List (List Int)
 | [],b => [sufs (TD P []) b]
 | x :: xs,b => sufs (TD P (x :: xs)) b :: tabD P xs b
theorem zKY (P : Nd → Nd → Nat) : ∀ a b,∃ r,tabD P a b = sufs (TD P a) b :: r
 | [],b => ⟨_,rfl⟩
 | x :: xs,b => ⟨_,rfl⟩
theorem zT8 (P : Nd → Nd → Nat) (a b : List Nd) : ∃ r,at? (tabD P a b) 0 = some r ∧ at? r 0 = some (TD P a b : Int):=by
 obtain ⟨r,h⟩:=zKY P a b
 obtain ⟨r',h'⟩:=zIz (TD P a) b
 exact ⟨sufs (TD P a) b,by rw [h]; rfl,by rw [h']; rfl⟩
theorem zQx {C : Nd → Option Int} : ∀ (b : List Nd),(∀ y ∈ b,C y = some (y.cnt : Int)) → Nd.cnts b ≤ 1048576 → zAY C b = some (sufs (TD D []) b)
 | [],_,_ => rfl
 | y :: ys,h,hb => by
  simp only [Nd.cnts] at hb
  have hf : TD D [] ys = Nd.cnts ys:=rfl
  rw [zAY,zQx ys (fun y hy => h y (List.mem_cons_of_mem _ hy)) (by omega),Option.bind_some,h y List.mem_cons_self,Option.bind_some,zG4,hf,wrap64_in (by omega) (by omega)]
  rfl
theorem zMP (a b : Nat) : (if (a : Int) < (b : Int) then (a : Int) else (b : Int)) = ((min a b : Nat) : Int):=by
 by_cases h : (a : Int) < (b : Int)
 ·rw [if_pos h,Nat.min_eq_left (by omega)]
 ·rw [if_neg h,Nat.min_eq_right (by omega)]
theorem zSo {C : Nd → Option Int} {A : Nd → Nd → Option Bool} {Q : Nd → Nd → Option Int} {x : Nd} {f : List Nd → Nat} {c : Nat} (hx : x.cnt ≤ 1048576) (hc : c ≤ 1048576) (hf : ∀ b,f b ≤ c + Nd.cnts b) :
  ∀ (b : List Nd),(∀ y ∈ b,C y = some (y.cnt : Int)) → (∀ y ∈ b,A x y = some (zBH x y)) → (∀ y ∈ b,zBH x y = true → Q x y = some (D x y : Int)) → Nd.cnts b ≤ 1048576 →
  zAN C A Q x (x.cnt : Int) b (sufs f b) = some (sufs (rowD D x f) b)
 | [],_,_,_,_ => by
  have:=hf []
  simp only [Nd.cnts] at this
  simp only [sufs,zAN,rowD]
  rw [wrap64_in (by omega) (by omega)]; rfl
 | y :: ys,h1,h2,h3,hb => by
  simp only [Nd.cnts] at hb
  have g1:=hf (y :: ys)
  simp only [Nd.cnts] at g1
  have g2:=hf ys
  have g3:=zPO (P:=D) (x:=x) hf ys
  have g4:=D_le x y
  have ih:=zSo (C:=C) (A:=A) (Q:=Q) hx hc hf ys (fun y hy => h1 y (List.mem_cons_of_mem _ hy)) (fun y hy => h2 y (List.mem_cons_of_mem _ hy)) (fun y hy => h3 y (List.mem_cons_of_mem _ hy)) (by omega)
  obtain ⟨r,hr⟩:=zIz f ys
  rw [sufs,hr,zAN,← hr,ih,Option.bind_some,h1 y List.mem_cons_self,Option.bind_some,h2 y List.mem_cons_self,Option.bind_some,zG4]
  dsimp only
  rw [wrap64_in (by omega) (by omega),wrap64_in (n:=(y.cnt : Int) + _) (by omega) (by omega),zA8 (by omega),Bool.false_or]
  have e1 : (bif decide ((y.cnt : Int) + (rowD D x f ys : Int) < (x.cnt : Int) + (f (y :: ys) : Int)) then (y.cnt : Int) + (rowD D x f ys : Int) else (x.cnt : Int) + (f (y :: ys) : Int)) = ((min (x.cnt + f (y :: ys)) (y.cnt + rowD D x f ys) : Nat) : Int):=by
   by_cases h : (y.cnt : Int) + (rowD D x f ys : Int) < (x.cnt : Int) + (f (y :: ys) : Int)
   ·rw [zBi h,Nat.min_eq_right (by omega)]; rfl
   ·rw [zA8 h,Nat.min_eq_left (by omega)]; rfl
  rw [e1]
  cases ha : zBH x y with
  | false => simp only [cond_false,sufs,rowD,ha]; simp
  | true =>
   rw [cond_true,h3 y List.mem_cons_self ha,Option.bind_some]
   rw [wrap64_in (by omega) (by omega),← Int.natCast_add,zMP,Nat.min_comm]
   simp only [sufs,rowD,ha,if_true]
theorem zQz {C : Nd → Option Int} {A : Nd → Nd → Option Bool} {Q : Nd → Nd → Option Int} {b : List Nd} (hb : Nd.cnts b ≤ 1048576) (hC : ∀ y ∈ b,C y = some (y.cnt : Int)) :
  ∀ (a : List Nd),(∀ x ∈ a,C x = some (x.cnt : Int)) → (∀ x ∈ a,∀ y ∈ b,A x y = some (zBH x y)) → (∀ x ∈ a,∀ y ∈ b,zBH x y = true → Q x y = some (D x y : Int)) → Nd.cnts a ≤ 1048576 →
  zAP C A Q b a = some (tabD D a b)
 | [],_,_,_,_ => by rw [zAP,zQx b hC hb]; rfl
 | x :: xs,h1,h2,h3,ha => by
  simp only [Nd.cnts] at ha
  rw [zAP,zQz hb hC xs (fun y hy => h1 y (List.mem_cons_of_mem _ hy)) (fun y hy => h2 y (List.mem_cons_of_mem _ hy)) (fun y hy => h3 y (List.mem_cons_of_mem _ hy)) (by omega),Option.bind_some,h1 x List.mem_cons_self,Option.bind_some]
  obtain ⟨r,hr⟩:=zKY D xs b
  rw [hr]
  dsimp only
  rw [zSo (c:=Nd.cnts xs) (by omega) (by omega) (zJB xs) b hC (h2 x List.mem_cons_self) (h3 x List.mem_cons_self) hb,Option.bind_some,← hr]
  rfl
theorem zPW (x y : Nd) : zC8 x y = some (zBH x y):=by
 obtain ⟨a,b,c,d⟩:=x
 obtain ⟨a',b',c',d'⟩:=y
 unfold zC8 zBH
 simp only [Nd.kind,Nd.kids,Nd.cols]
 cases a == a' <;> cases ((d.length : Int) == (d'.length : Int)) <;> rfl
theorem zQw {f : List Nd → List Nd → Nat} {a b : List Nd} {i : Nat} (h : i < a.length) (h' : i < b.length) : sumD f (a.drop i) (b.drop i) = f a[i].kids b[i].kids + sumD f (a.drop (i + 1)) (b.drop (i + 1)):=by
 rw [List.drop_eq_getElem_cons h,List.drop_eq_getElem_cons h']; rfl
theorem zOI {F : List Nd → List Nd → Option (List (List Int))} {a b : List Nd} (hF : ∀ u ∈ a,∀ v ∈ b,F u.kids v.kids = some (tabD D u.kids v.kids)) (hl : a.length = b.length) (ha : Nd.cnts a ≤ 1048576) (hb : Nd.cnts b ≤ 1048576) :
  ∀ (q i o : Nat),a.length - i < q → i ≤ a.length → o + sumD DL (a.drop i) (b.drop i) ≤ 4000000 → zCI F a b q (o : Int) (i : Int) = some ((o + sumD DL (a.drop i) (b.drop i) : Nat) : Int)
 | 0,_,_,h,_,_ => by omega
 | q + 1,i,o,hq,hi,ho => by
  have l1:=Nd.cnts_len a
  unfold zCI
  by_cases h : i < a.length
  ·have h' : i < b.length:=by omega
   rw [zBi (Int.ofNat_lt.2 h),cond_true,zBA h,zBA h']
   have hf:=hF _ (List.getElem_mem h) _ (List.getElem_mem h')
   have hs:=zQw (f:=DL) h h'
   rcases e : a[i] with ⟨x1,x2,x3,x4⟩
   rcases e' : b[i] with ⟨y1,y2,y3,y4⟩
   rw [e,e'] at hf hs
   simp only [Nd.kids] at hf hs
   obtain ⟨r,r1,r2⟩:=zT8 D x4 y4
   have hd : TD D x4 y4 = DL x4 y4:=rfl
   rw [hd] at r2
   simp only [Option.bind_some,hf,r1,r2]
   rw [zAM (by omega),wrap64_in (by omega) (by omega),← Int.natCast_add,zOI hF hl ha hb q (i + 1) _ (by omega) (by omega) (by omega)]
   congr 2; omega
  ·rw [zA8 (by omega),cond_false]
   obtain rfl : i = a.length:=by omega
   rw [List.drop_length]
   cases List.drop a.length b <;> rfl
theorem zFJ {x y : Nd} (h : zBH x y = true) : x.kids.length = y.kids.length:=by
 unfold zBH at h
 simp only [Bool.and_eq_true] at h
 have:=eq_of_beq h.2.1
 omega
theorem zR1 : ∀ N : Nat,(∀ x y : Nd,zBH x y = true → 2 * x.cnt + 2 * y.cnt < N → x.cnt ≤ 1048576 → y.cnt ≤ 1048576 → zCe N x y = some (D x y : Int)) ∧
  (∀ a b : List Nd,2 * Nd.cnts a + 2 * Nd.cnts b + 2 < N → Nd.cnts a ≤ 1048576 → Nd.cnts b ≤ 1048576 → zCq N a b = some (tabD D a b))
 | 0 => ⟨fun _ _ _ h _ _ => by omega,fun _ _ h _ _ => by omega⟩
 | n + 1 => by
  obtain ⟨ih1,ih2⟩:=zR1 n
  refine ⟨fun x y hal h hx hy => ?_,fun a b h ha hb => ?_⟩
  ·have e1:=x.cnt_kids
   have e2:=y.cnt_kids
   have hl:=zFJ hal
   have hle:=zNo x.kids y.kids
   have hD:=D_eq x y
   have l1:=Nd.cnts_len x.kids
   have hF : ∀ u ∈ x.kids,∀ v ∈ y.kids,zCq n u.kids v.kids = some (tabD D u.kids v.kids):=fun u hu v hv => by
    have:=Nd.cnts_mem hu
    have:=Nd.cnts_mem hv
    have:=u.cnt_kids
    have:=v.cnt_kids
    exact ih2 _ _ (by omega) (by omega) (by omega)
   have ht:=zSp x y
   have:=zOI hF hl (by omega) (by omega) n 0 (txt x y) (by omega) (by omega) (by simp only [List.drop_zero]; omega)
   rw [show ((0 : Nat) : Int) = 0 from rfl,List.drop_zero,List.drop_zero,← hD] at this
   obtain ⟨a,b,c,d⟩:=x
   obtain ⟨a',b',c',d'⟩:=y
   unfold zCe
   have e : (bif (!(b == b')) then some 1 else some 0 : Option Int) = some (txt (.mk a b c d) (.mk a' b' c' d') : Int):=by
    unfold txt
    simp only [Nd.text]
    cases b == b' <;> rfl
   rw [e]
   simp only [Option.bind_some]
   simp only [Nd.kids] at this
   rw [this]; rfl
  ·have l1:=Nd.cnts_len a
   have l2:=Nd.cnts_len b
   rw [zCq,zBl ⟨by omega,by omega⟩]
   refine zQz hb (fun y hy => ?_) a (fun x hx => ?_) (fun x _ y _ => zPW x y) (fun x hx y hy hal => ?_) ha
   ·have:=Nd.cnts_mem hy; exact zDN n y (by omega) (by omega)
   ·have:=Nd.cnts_mem hx; exact zDN n x (by omega) (by omega)
   ·have:=Nd.cnts_mem hy
    have:=Nd.cnts_mem hx
    exact ih1 x y hal (by omega) (by omega) (by omega)
end Go.Proofs.YtgfneloodabafaaGreatDoor
namespace Go.Proofs.YtgfneloodabafaaGreatDoor
open Go.Abs
def zPx : List (List UInt8):=[[114,111,119],[115,121,109],[110,117,109],[116,101,120,116],[102,114,97,99],[114,111,111,116],[115,117,98],[115,117,112],
 [98,111,116,104],[97,99,99,101,110,116],[102,101,110,99,101],[109,97,116,114,105,120]]
def kindName (k : Int) : List UInt8:=if 1 ≤ k ∧ k ≤ 12 then zPx.getD (k.toNat - 1) [] else [110,111,100,101] ++ Lib.itoa k
def escL : List UInt8 → List UInt8
 | [] => []
 | c :: r => if c = 34 ∨ c = 92 then 92 :: c :: escL r else c :: escL r
def zHe (t : List UInt8) : List UInt8:=if t = [] then [] else 58 :: 34 :: (escL t ++ [34])
def zLc (c : Int) : List UInt8:=if c = 0 then [] else 42 :: Lib.itoa c
def zKr (k : Int) (t : List UInt8) (c : Int) : List UInt8:=kindName k ++ (zHe t ++ zLc c)
def zPt : List UInt8 → List UInt8
 | [] => []
 | _ :: r => 40 :: (r ++ [41])
mutual
def zDP : Nd → List UInt8
 | .mk k t c ks => zKr k t c ++ zPt (zDv ks)
def zDv : List Nd → List UInt8
 | [] => []
 | v :: vs => 32 :: (zDP v ++ zDv vs)
end
theorem zQS : ∀ i < 12,zPx.getD i [] ≠ []:=by decide
theorem zPu (k : Int) : kindName k ≠ []:=by
 unfold kindName
 split
 ·exact zQS _ (by omega)
 ·simp
def hd (l : List UInt8) (s : List UInt8) : Prop:=∀ b r,l = b :: r → b ∈ s
theorem zGZ : ∀ t : List UInt8,(escL t).length ≤ 2 * t.length
 | [] => Nat.le_refl _
 | c :: r => by
  have:=zGZ r
  simp only [escL]
  split <;> simp only [List.length_cons] <;> omega
theorem zGF {k : Int} (h : zLd k) : (kindName k).length ≤ 25:=by
 unfold kindName
 split
 ·have : ∀ i < 12,(zPx.getD i []).length ≤ 25:=by decide
  exact this _ (by omega)
 ·have:=Lib.itoa_length_le k h.1 h.2
  simp; omega
theorem zRw {k : Int} {t : List UInt8} {c : Int} (hk : zLd k) (hc : zLd c) : (zKr k t c).length ≤ 55 + 2 * t.length:=by
 have h1:=zGF hk
 have h2:=zGZ t
 have h3:=Lib.itoa_length_le c hc.1 hc.2
 have h4 : (zHe t).length ≤ 3 + 2 * t.length:=by unfold zHe; split <;> simp; omega
 have h5 : (zLc c).length ≤ 22:=by unfold zLc; split <;> simp; omega
 simp only [zKr,List.length_append]; omega
theorem zRD (l : List UInt8) : (zPt l).length ≤ l.length + 1:=by cases l <;> simp [zPt]
mutual
theorem zN4 : ∀ v : Nd,v.rng → (zDP v).length ≤ 60 * v.w
 | .mk k t c ks,h => by
  have h1:=zRw (t:=t) h.1 h.2.1
  have h2:=zIG ks h.2.2
  have h3:=zRD (zDv ks)
  simp only [zDP,List.length_append,Nd.w]; omega
theorem zIG : ∀ vs : List Nd,Nd.rngs vs → (zDv vs).length ≤ 60 * Nd.ws vs
 | [],_ => by simp [zDv]
 | v :: vs,h => by
  have h1:=zN4 v h.1
  have h2:=zIG vs h.2
  simp only [zDv,List.length_cons,List.length_append,Nd.ws]; omega
end
theorem zO5 (c : UInt8) (l : List UInt8) (h : l.length < 4294967296) : zAL c l = some ((),l ++ [c]):=by
 unfold zAL zA6
 simp only [Option.bind_some]
 rw [zBl (by simp; omega)]
theorem zTP (s l : List UInt8) (h : l.length + s.length ≤ 4294967296) : zAq s l = some ((s.length : Int),(),l ++ s):=by
 unfold zAq zA6
 simp only [Option.bind_some]
 rw [zBl h]
theorem zTo {n : Int} (h : zLd n) : zDz n = some (Lib.itoa n):=by
 unfold zDz
 exact zBl (show -9223372036854775808 ≤ n ∧ n ≤ 9223372036854775807 from h)
theorem zPZ (c : UInt8) : ((c.toNat : Int) == 34) = (c == 34) ∧ ((c.toNat : Int) == 92) = (c == 92) :=
 ⟨of_decide_eq_true (zJy (P:=fun c => decide (((c.toNat : Int) == 34) = (c == 34))) (by decide +kernel) c),of_decide_eq_true (zJy (P:=fun c => decide (((c.toNat : Int) == 92) = (c == 92))) (by decide +kernel) c)⟩
theorem zN5 {t : List UInt8} {i : Nat} (h : i < t.length) : escL (t.drop i) = if t[i] = 34 ∨ t[i] = 92 then 92 :: t[i] :: escL (t.drop (i + 1)) else t[i] :: escL (t.drop (i + 1)):=by
 rw [List.drop_eq_getElem_cons h]; rfl
theorem zIh (t : List UInt8) (ht : t.length ≤ 1073741824) : ∀ (k i : Nat) (l : List UInt8),t.length - i < k → i ≤ t.length → l.length + 2 * (t.length - i) < 4294967296 →
  zAX t k (i : Int) l = some (l ++ escL (t.drop i))
 | 0,_,_,h,_,_ => by omega
 | k + 1,i,l,hk,hi,hl => by
  unfold zAX
  by_cases h : i < t.length
  ·rw [zBi (Int.ofNat_lt.2 h),cond_true,zBA h,zN5 h]
   simp only [Option.bind_some,(zPZ t[i]).1,(zPZ t[i]).2]
   rw [zAM (by omega)]
   have e92 : b8of 92 = 92:=rfl
   by_cases h1 : t[i] = 34
   ·rw [if_pos (.inl h1),show (t[i] == 34) = true from beq_iff_eq.2 h1,cond_true]
    simp only [Option.bind_some,cond_true]
    rw [e92,zO5 _ _ (by omega)]
    simp only [Option.bind_some]
    rw [zO5 _ _ (by simp; omega)]
    simp only [Option.bind_some]
    rw [zIh t ht k (i + 1) _ (by omega) (by omega) (by simp; omega)]
    simp
   ·rw [show (t[i] == 34) = false from beq_eq_false_iff_ne.2 h1,cond_false]
    simp only [Option.bind_some]
    by_cases h2 : t[i] = 92
    ·rw [if_pos (.inr h2),show (t[i] == 92) = true from beq_iff_eq.2 h2,cond_true]
     try simp only [Option.bind_some,cond_true]
     rw [e92,zO5 _ _ (by omega)]
     simp only [Option.bind_some]
     rw [zO5 _ _ (by simp; omega)]
     simp only [Option.bind_some]
     rw [zIh t ht k (i + 1) _ (by omega) (by omega) (by simp; omega)]
     simp [h2]
    ·rw [if_neg (by intro h; exact h.elim h1 h2),show (t[i] == 92) = false from beq_eq_false_iff_ne.2 h2,cond_false]
     simp only [Option.bind_some]
     rw [zO5 _ _ (by omega)]
     simp only [Option.bind_some]
     rw [zIh t ht k (i + 1) _ (by omega) (by omega) (by simp; omega)]
     simp
  ·rw [zA8 (by omega),cond_false]
   obtain rfl : i = t.length:=by omega
   simp [escL]
theorem zJk (k : Int) : kindName k = if k = 1 then [114,111,119] else if k = 2 then [115,121,109] else if k = 3 then [110,117,109] else if k = 4 then [116,101,120,116]
 else if k = 5 then [102,114,97,99] else if k = 6 then [114,111,111,116] else if k = 7 then [115,117,98] else if k = 8 then [115,117,112]
 else if k = 9 then [98,111,116,104] else if k = 10 then [97,99,99,101,110,116] else if k = 11 then [102,101,110,99,101]
 else if k = 12 then [109,97,116,114,105,120] else [110,111,100,101] ++ Lib.itoa k:=by
 rcases kinds k with rfl | rfl | rfl | rfl | rfl | rfl | rfl | rfl | rfl | rfl | rfl | rfl | hk
 all_goals first | rfl | skip
 unfold kindName
 rw [if_neg (by omega),if_neg (by omega),if_neg (by omega),if_neg (by omega),if_neg (by omega),if_neg (by omega),if_neg (by omega),if_neg (by omega),if_neg (by omega),if_neg (by omega),if_neg (by omega),if_neg (by omega),if_neg (by omega)]
theorem zRE (k : Int) : (bif decide (1 ≤ k) then some (decide (k ≤ 12)) else some false : Option Bool) = some (decide (1 ≤ k ∧ k ≤ 12)):=by
 by_cases h : 1 ≤ k
 ·rw [zBi h,cond_true]; congr 1; by_cases h2 : k ≤ 12 <;> simp [h,h2]
 ·rw [zA8 h,cond_false]; congr 1; simp [h]
theorem head_eq (n : Nat) (k : Int) (t : List UInt8) (c : Int) (ks : List Nd) (l : List UInt8) (hn : t.length < n) (ht : t.length ≤ 1073741824) (hk : zLd k) (hc : zLd c) (hl : l.length + 2 * t.length + 60 < 4294967296) :
  zBp n (.mk k t c ks) l = some (l ++ zKr k t c):=by
 unfold zBp
 have hki:=Lib.itoa_length_le k hk.1 hk.2
 have hci:=Lib.itoa_length_le c hc.1 hc.2
 have h1 : ∀ X : Option (List UInt8),X = some (l ++ kindName k) → ∀ K : List UInt8 → Option (List UInt8),X.bind K = K (l ++ kindName k):=fun X h K => by rw [h]; rfl
 simp only [zRE,Option.bind_some]
 have hlen:=zGF hk
 rw [h1 _ ?_]
 ·have h2 : ∀ X : Option (List UInt8),X = some ((l ++ kindName k) ++ zHe t) → ∀ K : List UInt8 → Option (List UInt8),X.bind K = K ((l ++ kindName k) ++ zHe t):=fun X h K => by rw [h]; rfl
  rw [h2 _ ?_]
  ·unfold zKr zLc
   have htx : (zHe t).length ≤ 3 + 2 * t.length:=by have:=zGZ t; unfold zHe; split <;> simp; omega
   by_cases h0 : c = 0
   ·subst h0
    rw [if_pos rfl,show ((0 : Int) != 0) = false from rfl,cond_false]
    simp
   ·rw [if_neg h0,show (c != 0) = true from bne_iff_ne.2 h0,cond_true,zTo hc]
    simp only [Option.bind_some]
    rw [zBl (by simp; omega),zTP _ _ (by simp; omega)]
    simp
  ·unfold zHe
   by_cases h0 : t = []
   ·subst h0
    simp
   ·rw [if_neg h0,show (!(t == [])) = true from by simp [h0],cond_true,zTP _ _ (by simp; omega)]
    simp only [Option.bind_some]
    have:=zIh t ht n 0 ((l ++ kindName k) ++ [58,34]) (by omega) (by omega) (by simp; omega)
    rw [show ((0 : Nat) : Int) = 0 from rfl] at this
    rw [this]
    have he:=zGZ t
    simp only [Option.bind_some,List.drop_zero]
    rw [show b8of 34 = 34 from rfl,zO5 _ _ (by simp; omega)]
    simp
 ·rw [zJk]
  have go : ∀ s : List UInt8,s.length ≤ 25 → ((zAq s l).bind fun x => match x with | (_,_,b) => some b) = some (l ++ s):=fun s hs => by
   rw [zTP _ _ (by omega)]; rfl
  rcases kinds k with rfl | rfl | rfl | rfl | rfl | rfl | rfl | rfl | rfl | rfl | rfl | rfl | hk'
  all_goals first | exact go _ (by decide) | skip
  rw [show decide (1 ≤ k ∧ k ≤ 12) = false from decide_eq_false (by omega),cond_false,zTo hk]
  simp only [Option.bind_some]
  rw [zBl (by simp; omega),if_neg (by omega),if_neg (by omega),if_neg (by omega),if_neg (by omega),if_neg (by omega),if_neg (by omega),if_neg (by omega),if_neg (by omega),if_neg (by omega),if_neg (by omega),if_neg (by omega),if_neg (by omega)]
  exact go _ (by simp; omega)
def remK (ks : List Nd) (i : Nat) : List UInt8:=if i = 0 then zPt (zDv ks) else zDv (ks.drop i) ++ [41]
def outS : List (Nd × Nat) → List UInt8
 | [] => []
 | p :: r => outS r ++ remK p.1.kids p.2
def itS : List (Nd × Nat) → Nat
 | [] => 0
 | p :: r => itS r + (1 + 2 * Nd.cnts (p.1.kids.drop p.2))
theorem zFW (p : Nd × Nat) : ∀ L,outS (L ++ [p]) = remK p.1.kids p.2 ++ outS L
 | [] => by simp [outS]
 | q :: r => by simp only [List.cons_append,outS,zFW p r,List.append_assoc]
theorem zG0 (p : Nd × Nat) : ∀ L,itS (L ++ [p]) = itS L + (1 + 2 * Nd.cnts (p.1.kids.drop p.2))
 | [] => by simp [itS]
 | q :: r => by simp only [List.cons_append,itS,zG0 p r]; omega
theorem zPs : ∀ L,L.length ≤ itS L
 | [] => Nat.le_refl _
 | q :: r => by have:=zPs r; simp only [itS,List.length_cons]; omega
theorem zR7 {ks : List Nd} {i : Nat} (h : i < ks.length) : remK ks i = (if i = 0 then 40 else 32) :: (zDP ks[i] ++ remK ks (i + 1)):=by
 unfold remK
 rw [if_neg (by omega : ¬ i + 1 = 0)]
 by_cases h0 : i = 0
 ·subst h0
  rw [if_pos rfl,if_pos rfl]
  match ks,h with
  | v :: vs,_ => simp [zDv,zPt]
 ·rw [if_neg h0,if_neg h0,List.drop_eq_getElem_cons h]
  simp [zDv]
theorem zTa (ks : List Nd) : remK ks ks.length = if ks.length = 0 then [] else [41]:=by
 unfold remK
 by_cases h : ks.length = 0
 ·rw [if_pos h,if_pos h,List.length_eq_zero_iff.1 h]; rfl
 ·rw [if_neg h,if_neg h,List.drop_length]; rfl
theorem zIf (k : Int) (t : List UInt8) (c : Int) (ks : List Nd) : zDP (.mk k t c ks) = zKr k t c ++ remK ks 0:=by
 simp [zDP,remK]
theorem zNt (k : Int) (t : List UInt8) (c : Int) (ks : List Nd) : (Nd.mk k t c ks).w = t.length + Nd.ws ks + 1:=rfl
def entI (p : Nd × Nat) : Nd × Int:=(p.1,(p.2 : Int))
theorem zJT (n : Nat) : ∀ (k : Nat) (L : List (Nd × Nat)) (b : List UInt8),itS L < k → itS L ≤ 1000000000 → (∀ p ∈ L,p.2 ≤ p.1.kids.length ∧ p.1.rng ∧ p.1.w ≤ 16777216 ∧ p.1.w < n) → b.length + (outS L).length ≤ 4000000000 →
  zB2 n k b (L.map entI) = some (b ++ outS L)
 | 0,_,_,h,_,_,_ => by omega
 | k + 1,L,b,hk,hit,hL,hb => by
  unfold zB2
  rcases List.eq_nil_or_concat L with rfl | ⟨L,⟨v,i⟩,rfl⟩
  ·simp [outS]
  ·rw [List.concat_eq_append] at *
   obtain ⟨hi,hr,hw,hwn⟩:=hL (v,i) (by simp)
   obtain ⟨k0,t,c,ks⟩:=v
   replace hr : (Nd.mk k0 t c ks).rng:=hr
   replace hw : (Nd.mk k0 t c ks).w ≤ 16777216:=hw
   replace hwn : (Nd.mk k0 t c ks).w < n:=hwn
   have hlen : ((List.map entI (L ++ [(Nd.mk k0 t c ks,i)])).length : Int) = (L.length : Int) + 1:=by simp
   have hll:=zPs (L ++ [(Nd.mk k0 t c ks,i)])
   rw [List.length_append,List.length_singleton] at hll
   have hwr : IntKind.i64.wrap (((List.map entI (L ++ [(Nd.mk k0 t c ks,i)])).length : Int) - 1) = (L.length : Int):=by rw [hlen,wrap64_in (by omega) (by omega)]; omega
   have hat : at? (List.map entI (L ++ [(Nd.mk k0 t c ks,i)])) (L.length : Int) = some (Nd.mk k0 t c ks,(i : Int)):=by
    rw [zBA (by simp)]; simp [entI]
   rw [zBi (by omega),cond_true,hwr,hat]
   simp only [Option.bind_some,Nd.kids] at hi ⊢
   rw [zFW] at hb ⊢
   rw [zG0] at hk hit
   simp only [Nd.kids] at hb hk hit ⊢
   by_cases he : i = ks.length
   ·subst he
    rw [show ((ks.length : Int) == (ks.length : Int)) = true from beq_self_eq_true _,cond_true]
    have hre:=zTa ks
    have hx : (bif decide (0 < (ks.length : Int)) then (zAL (b8of 41) b).bind (fun x => match x with | (_,b14) => some b14) else some b) = some (b ++ remK ks ks.length):=by
     rw [hre]
     by_cases h0 : ks.length = 0
     ·rw [zA8 (by omega),cond_false,if_pos h0]; simp
     ·rw [zBi (by omega),cond_true,if_neg h0,zO5 _ _ (by omega)]; rfl
    have hx' : ∀ X : Option (List UInt8),X = some (b ++ remK ks ks.length) → ∀ K : List UInt8 → Option (List UInt8),X.bind K = K (b ++ remK ks ks.length):=fun X h K => by rw [h]; rfl
    rw [hx' _ hx,zBl (by omega),Int.toNat_natCast]
    have ht : List.take L.length (List.map entI (L ++ [(Nd.mk k0 t c ks,ks.length)])) = L.map entI:=by simp
    rw [ht,zJT n k L _ (by omega) (by omega) (fun p hp => hL p (by simp [hp])) (by simp only [List.length_append] at hb ⊢; omega)]
    simp
   ·have h : i < ks.length:=by omega
    rw [zGJ (by omega : (i : Int) ≠ (ks.length : Int)),cond_false,zBA h]
    have hd:=Nd.cnts_drop h
    have hrs:=zR7 h
    rw [hrs] at hb ⊢
    have hkr : (ks[i]).rng:=Nd.rng_mem hr.2.2 (List.getElem_mem h)
    have hkw : (ks[i]).w < Nd.ws ks:=Nd.w_mem (List.getElem_mem h)
    have hwt:=zNt k0 t c ks
    rcases e : ks[i] with ⟨e1,e2,e3,e4⟩
    rw [e] at hd hkr hkw hb
    have hwt2:=zNt e1 e2 e3 e4
    have hct:=Nd.cnt_kids (.mk e1 e2 e3 e4)
    simp only [Nd.kids] at hct
    rw [zIf] at hb
    simp only [Option.bind_some]
    have hsep : at? ([40,32] : List UInt8) (if 1 < (i : Int) then 1 else (i : Int)) = some (if i = 0 then 40 else 32):=by
     by_cases h0 : i = 0
     ·subst h0; rfl
     ·rw [if_neg h0]
      by_cases h1 : i = 1
      ·subst h1; rfl
      ·rw [if_pos (by omega)]; rfl
    rw [hsep]
    simp only [Option.bind_some]
    simp only [List.length_append,List.length_cons] at hb
    rw [zO5 _ _ (by omega)]
    simp only [Option.bind_some]
    rw [head_eq n e1 e2 e3 e4 _ (by omega) (by omega) hkr.1 hkr.2.1 (by simp; omega)]
    simp only [Option.bind_some]
    have hset : (List.map entI (L ++ [(Nd.mk k0 t c ks,i)])).set (L.length : Int).toNat (Nd.mk k0 t c ks,IntKind.i64.wrap ((i : Int) + 1)) ++ [(Nd.mk e1 e2 e3 e4,0)] = (L ++ [(Nd.mk k0 t c ks,i + 1)] ++ [(Nd.mk e1 e2 e3 e4,0)]).map entI:=by
     have hlk:=Nd.ws_len ks
     rw [wrap64_in (by omega) (by omega)]
     simp [entI]
    have hll2:=zPs L
    rw [zBl (by simp; omega),hset]
    rw [zJT n k _ _ (by rw [zG0,zG0]; simp only [Nd.kids,List.drop_zero]; omega) (by rw [zG0,zG0]; simp only [Nd.kids,List.drop_zero]; omega) ?_ ?_]
    ·rw [zFW,zFW,zIf]
     simp [Nd.kids]
    ·intro p hp
     rcases List.mem_append.1 hp with hp | hp
     ·rcases List.mem_append.1 hp with hp | hp
      ·exact hL p (by simp [hp])
      ·simp only [List.mem_singleton] at hp; subst hp
       exact ⟨h,hr,hw,hwn⟩
     ·simp only [List.mem_singleton] at hp; subst hp
      exact ⟨Nat.zero_le _,hkr,(show (Nd.mk e1 e2 e3 e4).w ≤ 16777216 by omega),(show (Nd.mk e1 e2 e3 e4).w < n by omega)⟩
    ·rw [zFW,zFW]
     simp only [Nd.kids,List.length_append,List.length_cons,List.length_nil]
     omega
theorem zSJ (t : Nd) : zDP t ≠ []:=by
 obtain ⟨k,t,c,ks⟩:=t
 rw [zIf]
 unfold zKr
 have:=zPu k
 simp [this]
theorem zJm (n : Nat) (t : Nd) (h : 2 * t.w < n) (hw : t.w ≤ 16777216) (hr : t.rng) : zEb n t = some (zDP t):=by
 have hlen:=zN4 t hr
 have hne:=zSJ t
 have hcw:=Nd.cnt_w t
 have hck:=Nd.cnt_kids t
 obtain ⟨k,tx,c,ks⟩:=t
 have hwt:=zNt k tx c ks
 simp only [Nd.kids] at hck
 unfold zEb zDK
 simp only [Option.bind_some]
 rw [head_eq n k tx c ks [] (by omega) (by omega) hr.1 hr.2.1 (by simp; omega)]
 simp only [Option.bind_some,List.nil_append]
 have hl:=zJT n n [(.mk k tx c ks,0)] (zKr k tx c) (by simp [itS,Nd.kids]; omega) (by simp [itS,Nd.kids]; omega) (fun p hp => by simp only [List.mem_singleton] at hp; subst hp; exact ⟨Nat.zero_le _,hr,hw,(show (Nd.mk k tx c ks).w < n by omega)⟩) (by
  rw [zIf] at hlen
  simp only [outS,Nd.kids,List.length_append,List.nil_append] at hlen ⊢; omega)
 have e : List.map entI [(Nd.mk k tx c ks,0)] = [(Nd.mk k tx c ks,0)]:=rfl
 rw [e] at hl
 rw [hl,Option.bind_some]
 have e2 : zKr k tx c ++ outS [(Nd.mk k tx c ks,0)] = zDP (.mk k tx c ks):=by rw [zIf]; simp [outS,Nd.kids]
 rw [e2]
 unfold zCv
 rw [zBl ⟨hne,by omega⟩,Option.bind_some]
theorem zN2 (r : Nat) (h : r < 10) : b8of (IntKind.u8.wrap (IntKind.i64.wrap (48 + (r : Int)))) = UInt8.ofNat (48 + r):=by
 have : ∀ r < 10,b8of (IntKind.u8.wrap (IntKind.i64.wrap (48 + ((r : Nat) : Int)))) = UInt8.ofNat (48 + r):=by decide
 exact this r h
theorem zRr (r : Nat) (h : r < 10) : b8of (IntKind.u8.wrap (IntKind.i64.wrap (48 - -(r : Int)))) = UInt8.ofNat (48 + r):=by
 have : ∀ r < 10,b8of (IntKind.u8.wrap (IntKind.i64.wrap (48 - -((r : Nat) : Int)))) = UInt8.ofNat (48 + r):=by decide
 exact this r h
theorem zP8 : ∀ (k u : Nat) (s : List UInt8),u < 10 ^ k → u < 9223372036854775808 → s.length + k ≤ 1000 → ∃ (q : Nat) (r : List UInt8),zBS (k + 1) (u : Int) s = some ((q : Int),r) ∧ q < 10 ∧ r.length ≤ s.length + k ∧ UInt8.ofNat (48 + q) :: r = Lib.decDigits u ++ s
 | k,u,s,hk,hu,hs => by
  unfold zBS
  by_cases h : u < 10
  ·rw [zA8 (by omega),cond_false]
   exact ⟨u,s,rfl,h,by omega,by rw [Lib.decDigits,dif_pos h]; rfl⟩
  ·rw [zBi (by omega),cond_true]
   match k,hk with
   | 0,hk => simp at hk; omega
   | k + 1,hk =>
    have e1 : (u : Int).tmod 10 = ((u % 10 : Nat) : Int):=by rw [Int.tmod_eq_emod_of_nonneg (by omega)]; rfl
    have e2 : IntKind.i64.wrap ((u : Int).tdiv 10) = ((u / 10 : Nat) : Int):=by
     rw [Int.tdiv_eq_ediv_of_nonneg (by omega),wrap64_in (by omega) (by omega)]; rfl
    rw [e1,e2,zN2 _ (Nat.mod_lt _ (by decide)),zBl (by simp; omega)]
    obtain ⟨q,r,h1,h2,h3,h4⟩:=zP8 k (u / 10) ([UInt8.ofNat (48 + u % 10)] ++ s) (by rw [Nat.pow_succ] at hk; omega) (by omega) (by simp; omega)
    refine ⟨q,r,h1,h2,by simp at h3; omega,?_⟩
    rw [h4,Lib.decDigits.eq_def u,dif_neg h]
    simp
theorem zL5 (n u : Nat) (h : 25 ≤ n) (hu : u < 9223372036854775808) : zDU (n + 1) (u : Int) = some (Lib.decDigits u):=by
 unfold zDU
 rw [zA8 (by omega),cond_false]
 obtain ⟨q,r,h1,h2,h3,h4⟩:=zP8 (min (n - 1) 900) u [] (by
  have : (10 : Nat) ^ 24 ≤ 10 ^ (min (n - 1) 900):=Nat.pow_le_pow_right (by decide) (by omega)
  have : (9223372036854775808 : Nat) ≤ 10 ^ 24:=by decide
  omega) hu (by simp; omega)
 have hl : ∀ (k m : Nat) (x : Int) (s : List UInt8) y,zBS k x s = some y → zBS (k + m) x s = some y:=by
  intro k
  induction k with
  | zero => intro m x s y h; simp [zBS] at h
  | succ k ih =>
   intro m x s y h
   rw [show k + 1 + m = (k + m) + 1 by omega]
   unfold zBS at h ⊢
   by_cases hx : 10 ≤ x
   ·rw [zBi hx,cond_true] at h ⊢
    obtain ⟨hq,h⟩:=zAF h
    rw [zBl hq]
    exact ih m _ _ _ h
   ·rw [zA8 hx,cond_false] at h ⊢
    exact h
 have:=hl _ (n - (min (n - 1) 900 + 1)) _ _ _ h1
 rw [show min (n - 1) 900 + 1 + (n - (min (n - 1) 900 + 1)) = n by omega] at this
 rw [this]
 simp only [Option.bind_some]
 rw [zN2 q h2,zBl (by simp at h3 ⊢; omega)]
 simpa using h4
theorem zL4 (n : Nat) (x : Int) (h : 30 ≤ n) (hx : zLd x) : zDU n x = some (Lib.itoa x):=by
 unfold zLd at hx
 obtain ⟨n,rfl⟩ : ∃ m,n = m + 1:=⟨n - 1,by omega⟩
 by_cases h0 : x < 0
 ·obtain ⟨u,rfl⟩ : ∃ u : Nat,x = -(u : Int):=⟨x.natAbs,by omega⟩
  have e1 : (-(u : Int)).tmod 10 = -((u % 10 : Nat) : Int):=by rw [Int.neg_tmod,Int.tmod_eq_emod_of_nonneg (by omega)]; rfl
  have e2 : IntKind.i64.wrap ((-(u : Int)).tdiv 10) = -((u / 10 : Nat) : Int):=by
   rw [Int.neg_tdiv,Int.tdiv_eq_ediv_of_nonneg (by omega),wrap64_in (by omega) (by omega)]; rfl
  unfold zDU Lib.itoa
  rw [zBi h0,cond_true,if_pos h0,e1,e2,zRr _ (Nat.mod_lt _ (by decide)),show (-(u : Int)).natAbs = u by omega]
  by_cases h1 : u / 10 = 0
  ·rw [h1,show (-((0 : Nat) : Int) != 0) = false from rfl,cond_false,zBl (by simp),Lib.decDigits,dif_pos (by omega),Nat.mod_eq_of_lt (by omega)]
   rfl
  ·rw [show (-((u / 10 : Nat) : Int) != 0) = true from bne_iff_ne.2 (by omega),cond_true]
   have e3 : IntKind.i64.wrap (0 - -((u / 10 : Nat) : Int)) = ((u / 10 : Nat) : Int):=by rw [wrap64_in (by omega) (by omega)]; omega
   obtain ⟨m,rfl⟩ : ∃ m,n = m + 1:=⟨n - 1,by omega⟩
   rw [e3,zL5 m (u / 10) (by omega) (by omega)]
   have hl:=Lib.nDigits_le20 (u / 10) (by omega)
   have hl2:=Lib.decDigits_length (u / 10)
   simp only [Option.bind_some]
   rw [zBl (by simp; omega),zBl (by simp; omega),Lib.decDigits.eq_def u,dif_neg (by omega)]
   simp
 ·obtain ⟨u,rfl⟩ : ∃ u : Nat,x = (u : Int):=⟨x.toNat,by omega⟩
  unfold Lib.itoa
  rw [if_neg h0,Int.toNat_natCast]
  exact zL5 n u (by omega) (by omega)
theorem zKM (t : List UInt8) (ht : t.length ≤ 1073741824) : ∀ (k i : Nat) (l : List UInt8),t.length - i < k → i ≤ t.length → l.length + 2 * (t.length - i) < 4294967296 →
  zBT t k (i : Int) l = some (l ++ escL (t.drop i))
 | 0,_,_,h,_,_ => by omega
 | k + 1,i,l,hk,hi,hl => by
  unfold zBT
  by_cases h : i < t.length
  ·rw [zBi (Int.ofNat_lt.2 h),cond_true,zBA h,zN5 h]
   simp only [Option.bind_some,(zPZ t[i]).1,(zPZ t[i]).2]
   rw [zAM (by omega)]
   have e92 : b8of 92 = 92:=rfl
   have hx : (bif t[i] == 34 then some true else some (t[i] == 92) : Option Bool) = some (decide (t[i] = 34 ∨ t[i] = 92)):=by
    by_cases h1 : t[i] = 34
    ·simp [h1]
    ·by_cases h2 : t[i] = 92
     ·simp [h2]
     ·rw [beq_eq_false_iff_ne.2 h1,beq_eq_false_iff_ne.2 h2,cond_false,decide_eq_false (by intro h; exact h.elim h1 h2)]
   rw [hx]
   simp only [Option.bind_some]
   by_cases hq : t[i] = 34 ∨ t[i] = 92
   ·rw [decide_eq_true hq,cond_true,if_pos hq,zBl (by simp; omega)]
    simp only [Option.bind_some]
    rw [zBl (by simp; omega)]
    simp only [Option.bind_some]
    rw [zKM t ht k (i + 1) _ (by omega) (by omega) (by simp; omega),e92]
    simp
   ·rw [decide_eq_false hq,cond_false,if_neg hq]
    simp only [Option.bind_some]
    rw [zBl (by simp; omega)]
    simp only [Option.bind_some]
    rw [zKM t ht k (i + 1) _ (by omega) (by omega) (by simp; omega)]
    simp
  ·rw [zA8 (by omega),cond_false]
   obtain rfl : i = t.length:=by omega
   simp [escL]
theorem zNc (n : Nat) (t : List UInt8) (hn : t.length < n) (ht : t.length ≤ 1073741824) : zEx n t = some (34 :: (escL t ++ [34])):=by
 unfold zEx
 have:=zKM t ht n 0 [34] (by omega) (by omega) (by simp; omega)
 rw [show ((0 : Nat) : Int) = 0 from rfl,List.drop_zero] at this
 have he:=zGZ t
 show (zBT t n 0 [b8of 34]).bind _ = _
 rw [show b8of 34 = 34 from rfl,this,Option.bind_some,zBl (by simp; omega)]
 simp
theorem zIU {F : Nd → Option (List UInt8)} {ks : List Nd} (hF : ∀ v ∈ ks,F v = some (zDP v)) (hl : ks.length ≤ 1073741824) :
  ∀ (q i : Nat) (x : List UInt8),ks.length - i < q → i ≤ ks.length → x.length + (zDv (ks.drop i)).length ≤ 4294967296 →
   zCG F ks q x (i : Int) = some (x ++ (if i = 0 then (zDv ks).tail else zDv (ks.drop i)))
 | 0,_,_,h,_,_ => by omega
 | q + 1,i,x,hq,hi,hx => by
  unfold zCG
  by_cases h : i < ks.length
  ·have hd:=List.drop_eq_getElem_cons h
   have hf:=hF _ (List.getElem_mem h)
   rw [hd] at hx
   rw [zBi (Int.ofNat_lt.2 h),cond_true,zBA h]
   rcases e : ks[i] with ⟨e1,e2,e3,e4⟩
   rw [e] at hf hd hx
   simp only [zDv,List.length_cons,List.length_append] at hx
   simp only [Option.bind_some,hf]
   rw [zAM (by omega)]
   by_cases h0 : i = 0
   ·subst h0
    rw [zA8 (by omega),cond_false]
    simp only [Option.bind_some]
    rw [zBl (by omega)]
    simp only [Option.bind_some]
    have ih:=zIU hF hl q 1 (x ++ zDP (.mk e1 e2 e3 e4)) (by omega) (by omega) (by simp at hx ⊢; omega)
    rw [show (((0 + 1 : Nat)) : Int) = ((1 : Nat) : Int) from rfl,ih,if_neg (by decide)]
    rw [List.drop_zero] at hd
    have hd':=congrArg zDv hd
    simp only [zDv] at hd'
    simp [hd']
   ·rw [zBi (by omega),cond_true,zBl (by simp; omega)]
    simp only [Option.bind_some]
    rw [zBl (by simp; omega)]
    simp only [Option.bind_some]
    rw [zIU hF hl q (i + 1) _ (by omega) (by omega) (by simp; omega),if_neg (by omega),if_neg h0,hd]
    simp [zDv]
  ·rw [zA8 (by omega),cond_false]
   obtain rfl : i = ks.length:=by omega
   congr 1
   by_cases h0 : ks.length = 0
   ·rw [if_pos h0,List.length_eq_zero_iff.1 h0]; simp [zDv]
   ·rw [if_neg h0,List.drop_length]; simp [zDv]
theorem zQN {l : List UInt8} (h : l ≠ []) : zPt l = 40 :: (l.tail ++ [41]):=by
 cases l with
 | nil => exact absurd rfl h
 | cons a l => rfl
theorem zHQ : ∀ (n : Nat) (t : Nd),t.w + 40 < n → t.w ≤ 16777216 → t.rng → zCS n t = some (zDP t)
 | 0,_,h,_,_ => by omega
 | n + 1,.mk k t c ks,h,hw,hr => by
  have hwt:=zNt k t c ks
  have hki:=Lib.itoa_length_le k hr.1.1 hr.1.2
  have hci:=Lib.itoa_length_le c hr.2.1.1 hr.2.1.2
  have hkl:=zGF hr.1
  have he:=zGZ t
  have hd:=zIG ks hr.2.2
  unfold zCS
  rw [zL4 n k (by omega) hr.1]
  simp only [Option.bind_some]
  rw [zBl (by simp; omega),zRE]
  simp only [Option.bind_some]
  have h1 : ∀ X : Option (List UInt8),X = some (kindName k) → ∀ K : List UInt8 → Option (List UInt8),X.bind K = K (kindName k):=fun X h K => by rw [h]; rfl
  rw [h1 _ ?_]
  ·have h2 : ∀ X : Option (List UInt8),X = some (kindName k ++ zHe t) → ∀ K : List UInt8 → Option (List UInt8),X.bind K = K (kindName k ++ zHe t):=fun X h K => by rw [h]; rfl
   rw [h2 _ ?_]
   ·have hx : (zHe t).length ≤ 3 + 2 * t.length:=by unfold zHe; split <;> simp; omega
    have h3 : ∀ X : Option (List UInt8),X = some ((kindName k ++ zHe t) ++ zLc c) → ∀ K : List UInt8 → Option (List UInt8),X.bind K = K ((kindName k ++ zHe t) ++ zLc c):=fun X h K => by rw [h]; rfl
    rw [h3 _ ?_]
    ·have hy : (zLc c).length ≤ 22:=by unfold zLc; split <;> simp; omega
     by_cases h0 : ks = []
     ·subst h0
      simp [zDP,zDv,zPt,zKr]
     ·have hkl : ks.length ≠ 0:=by simpa using h0
      rw [zGJ (by omega : (ks.length : Int) ≠ 0),cond_false,zBl (by simp; omega)]
      have hlk:=Nd.ws_len ks
      have hlo:=zIU (F:=zCS n) (ks:=ks) (fun v hv => zHQ n v (by have:=Nd.w_mem hv; omega) (by have:=Nd.w_mem hv; omega) (Nd.rng_mem hr.2.2 hv)) (by omega) n 0 (((kindName k ++ zHe t) ++ zLc c) ++ [40]) (by omega) (by omega) (by simp; omega)
      rw [show ((0 : Nat) : Int) = 0 from rfl,if_pos rfl] at hlo
      rw [hlo,Option.bind_some,zBl (by simp; omega)]
      have hne : zDv ks ≠ []:=by
       cases ks with
       | nil => exact absurd rfl h0
       | cons v vs => simp [zDv]
      simp [zDP,zKr,zQN hne]
    ·unfold zLc
     by_cases h0 : c = 0
     ·subst h0; simp
     ·rw [if_neg h0,show (c != 0) = true from bne_iff_ne.2 h0,cond_true,zBl (by simp; omega),zL4 n c (by omega) hr.2.1]
      simp only [Option.bind_some]
      rw [zBl (by simp; omega)]
      simp
   ·unfold zHe
    by_cases h0 : t = []
    ·subst h0; simp
    ·rw [if_neg h0,show (!(t == [])) = true from by simp [h0],cond_true,zBl (by simp; omega),zNc n t (by omega) (by omega)]
     simp only [Option.bind_some]
     rw [zBl (by simp; omega)]
     simp
  ·rw [zJk]
   rcases kinds k with rfl | rfl | rfl | rfl | rfl | rfl | rfl | rfl | rfl | rfl | rfl | rfl | hk'
   all_goals first | rfl | skip
   rw [show decide (1 ≤ k ∧ k ≤ 12) = false from decide_eq_false (by omega),cond_false,if_neg (by omega),if_neg (by omega),if_neg (by omega),if_neg (by omega),if_neg (by omega),if_neg (by omega),if_neg (by omega),if_neg (by omega),if_neg (by omega),if_neg (by omega),if_neg (by omega),if_neg (by omega)]
end Go.Proofs.YtgfneloodabafaaGreatDoor
namespace Go.Proofs.YtgfneloodabafaaGreatDoor
open Go.Abs
def cntI (x : Nd) : Int:=(x.cnt : Int)
theorem zMg (n : Nat) {l : List Nd} (hn : ∀ v ∈ l,v.cnt < n) (hb : Nd.cnts l ≤ 1048576) : ∀ (q i : Nat),l.length - i < q → i ≤ l.length →
  zCa n l q (i : Int) ((l.take i).map cntI ++ List.replicate (l.length - i) 0) = some (l.map cntI)
 | 0,_,h,_ => by omega
 | q + 1,i,hq,hi => by
  have l1:=Nd.cnts_len l
  unfold zCa
  by_cases h : i < l.length
  ·rw [zBi (Int.ofNat_lt.2 h),cond_true,zBA h]
   have hm:=List.getElem_mem h
   have hc:=zMQ n _ (hn _ hm) (by have:=Nd.cnts_mem hm; omega)
   have ht : l.take (i + 1) = l.take i ++ [l[i]]:=List.take_append_getElem h ▸ rfl
   rcases e : l[i] with ⟨a,b,c,d⟩
   rw [e] at hc ht
   simp only [Option.bind_some,hc]
   have hlen : ((l.take i).map cntI).length = i:=by simp; omega
   obtain ⟨m,hm⟩ : ∃ m,l.length - i = m + 1:=⟨l.length - i - 1,by omega⟩
   have hg : at? ((l.take i).map cntI ++ List.replicate (l.length - i) (0 : Int)) (i : Int) = some 0:=by
    unfold at?
    rw [if_pos (by omega),Int.toNat_natCast,List.getElem?_append_right (by omega),hlen,hm]
    simp
   rw [hg,Option.bind_some,zAM (by omega),Int.toNat_natCast]
   have hs : ((l.take i).map cntI ++ List.replicate (l.length - i) (0 : Int)).set i ((Nd.mk a b c d).cnt : Int) = (l.take (i + 1)).map cntI ++ List.replicate (l.length - (i + 1)) 0:=by
    rw [List.set_append_right _ _ (by omega),hlen,Nat.sub_self,hm,ht,show l.length - (i + 1) = m by omega,List.replicate_succ,List.set_cons_zero,List.map_append]
    simp [cntI]
   rw [hs]
   exact zMg n hn hb q (i + 1) (by omega) (by omega)
  ·rw [zA8 (by omega),cond_false]
   obtain rfl : i = l.length:=by omega
   simp
theorem zQr (n : Nat) (l : List Nd) (hn : Nd.cnts l + 1 < n) (hb : Nd.cnts l ≤ 1048576) : zDJ n l = some (l.map cntI):=by
 have l1:=Nd.cnts_len l
 have:=zMg n (l:=l) (fun v hv => by have:=Nd.cnts_mem hv; omega) hb n 0 (by omega) (by omega)
 rw [show ((0 : Nat) : Int) = 0 from rfl] at this
 simp only [List.take_zero,List.map_nil,List.nil_append,Nat.sub_zero] at this
 rw [zDJ,zBl ⟨by omega,by omega⟩,Int.toNat_natCast,this]; rfl
theorem zP4 : ∀ b : List Nd,Nd.cnts b ≤ 1048576 → zA4 (b.map cntI) = sufs (TD D []) b
 | [],_ => rfl
 | y :: ys,hb => by
  simp only [Nd.cnts] at hb
  have hf : TD D [] ys = Nd.cnts ys:=rfl
  rw [List.map_cons,zA4,zP4 ys (by omega),zG4,hf,cntI,wrap64_in (by omega) (by omega),sufs,show TD D [] (y :: ys) = y.cnt + Nd.cnts ys from rfl]
  congr 1; omega
def prI (x y : Nd) : Int:=bif zBH x y then (D x y : Int) else -1
theorem zRv {F : Nd → Nd → Option Int} {x : Nd} {f : List Nd → Nat} {c : Nat} (hx : x.cnt ≤ 1048576) (hc : c ≤ 1048576) (hf : ∀ b,f b ≤ c + Nd.cnts b) :
  ∀ (b : List Nd),(∀ y ∈ b,F x y = some (prI x y)) → Nd.cnts b ≤ 1048576 → zAH F x (x.cnt : Int) b (b.map cntI) (sufs f b) = some (sufs (rowD D x f) b,b.map (prI x))
 | [],_,_ => by
  have:=hf []
  simp only [Nd.cnts] at this
  simp only [sufs,List.map_nil,zAH,rowD]
  rw [wrap64_in (by omega) (by omega),Nat.add_comm]; rfl
 | y :: ys,h1,hb => by
  simp only [Nd.cnts] at hb
  have g1:=hf (y :: ys)
  simp only [Nd.cnts] at g1
  have g2:=hf ys
  have g3:=zPO (P:=D) (x:=x) hf ys
  have g4:=D_le x y
  have ih:=zRv (F:=F) hx hc hf ys (fun y hy => h1 y (List.mem_cons_of_mem _ hy)) (by omega)
  obtain ⟨r,hr⟩:=zIz f ys
  rw [sufs,hr,List.map_cons,zAH,← hr,ih,Option.bind_some,h1 y List.mem_cons_self,Option.bind_some]
  dsimp only
  rw [zG4,cntI,wrap64_in (n:=(f (y :: ys) : Int) + (x.cnt : Int)) (by omega) (by omega),wrap64_in (n:=(rowD D x f ys : Int) + _) (by omega) (by omega),← Int.natCast_add,← Int.natCast_add,zMP,Nat.add_comm (f (y :: ys)),Nat.add_comm (rowD D x f ys)]
  unfold prI
  cases ha : zBH x y with
  | false =>
   simp only [cond_false,sufs,rowD,ha,List.map_cons]
   rw [if_neg (by omega)]
   simp [prI,ha]
  | true =>
   simp only [cond_true]
   rw [if_pos (by omega),wrap64_in (by omega) (by omega),← Int.natCast_add,zMP,Nat.min_comm,Nat.add_comm (f ys)]
   simp [sufs,rowD,ha,prI]
theorem zP5 {F : Nd → Nd → Option Int} {b : List Nd} (hb : Nd.cnts b ≤ 1048576) :
  ∀ (a : List Nd),(∀ x ∈ a,∀ y ∈ b,F x y = some (prI x y)) → Nd.cnts a ≤ 1048576 → zAR F b (b.map cntI) a (a.map cntI) = some (tabD D a b,a.map fun x => b.map (prI x))
 | [],_,_ => by rw [List.map_nil,zAR,zP4 b hb]; rfl
 | x :: xs,h1,ha => by
  simp only [Nd.cnts] at ha
  rw [List.map_cons,zAR,zP5 hb xs (fun y hy => h1 y (List.mem_cons_of_mem _ hy)) (by omega),Option.bind_some]
  obtain ⟨r,hr⟩:=zKY D xs b
  rw [hr]
  dsimp only
  rw [cntI,zRv (c:=Nd.cnts xs) (by omega) (by omega) (zJB xs) b (h1 x List.mem_cons_self) hb,Option.bind_some,← hr]
  rfl
theorem zJq {F : List Nd → List Nd → Option (List (List Int) × List (List Int) × List Int × List Int)} {a b : List Nd} (hF : ∀ u ∈ a,∀ v ∈ b,∃ p,F u.kids v.kids = some (tabD D u.kids v.kids,p)) (hl : a.length = b.length) (ha : Nd.cnts a ≤ 1048576) :
  ∀ (q i o : Nat),a.length - i < q → i ≤ a.length → o + sumD DL (a.drop i) (b.drop i) ≤ 4000000 → zBK F a b q (o : Int) (i : Int) = some ((o + sumD DL (a.drop i) (b.drop i) : Nat) : Int)
 | 0,_,_,h,_,_ => by omega
 | q + 1,i,o,hq,hi,ho => by
  have l1:=Nd.cnts_len a
  unfold zBK
  by_cases h : i < a.length
  ·have h' : i < b.length:=by omega
   rw [zBi (Int.ofNat_lt.2 h),cond_true,zBA h,zBA h']
   obtain ⟨p,hf⟩:=hF _ (List.getElem_mem h) _ (List.getElem_mem h')
   have hs:=zQw (f:=DL) h h'
   rcases e : a[i] with ⟨x1,x2,x3,x4⟩
   rcases e' : b[i] with ⟨y1,y2,y3,y4⟩
   rw [e,e'] at hf hs
   simp only [Nd.kids] at hf hs
   obtain ⟨r,r1,r2⟩:=zT8 D x4 y4
   have hd : TD D x4 y4 = DL x4 y4:=rfl
   rw [hd] at r2
   obtain ⟨p1,p2,p3⟩:=p
   simp only [Option.bind_some,hf,r1,r2]
   rw [zAM (by omega),wrap64_in (by omega) (by omega),← Int.natCast_add,zJq hF hl ha q (i + 1) _ (by omega) (by omega) (by omega)]
   congr 2; omega
  ·rw [zA8 (by omega),cond_false]
   obtain rfl : i = a.length:=by omega
   rw [List.drop_length]
   cases List.drop a.length b <;> rfl
theorem zRs : ∀ N : Nat,(∀ x y : Nd,2 * x.cnt + 2 * y.cnt < N → x.cnt ≤ 1048576 → y.cnt ≤ 1048576 → zBO N x y = some (prI x y)) ∧
  (∀ a b : List Nd,2 * Nd.cnts a + 2 * Nd.cnts b + 2 < N → Nd.cnts a ≤ 1048576 → Nd.cnts b ≤ 1048576 → zCk N a b = some (tabD D a b,(a.map fun x => b.map (prI x)),a.map cntI,b.map cntI))
 | 0 => ⟨fun _ _ h _ _ => by omega,fun _ _ h _ _ => by omega⟩
 | n + 1 => by
  obtain ⟨ih1,ih2⟩:=zRs n
  refine ⟨fun x y h hx hy => ?_,fun a b h ha hb => ?_⟩
  ·have e1:=x.cnt_kids
   have e2:=y.cnt_kids
   have hle:=zNo x.kids y.kids
   have hD:=D_eq x y
   have l1:=Nd.cnts_len x.kids
   have hF : ∀ u ∈ x.kids,∀ v ∈ y.kids,∃ p,zCk n u.kids v.kids = some (tabD D u.kids v.kids,p):=fun u hu v hv => by
    have:=Nd.cnts_mem hu
    have:=Nd.cnts_mem hv
    have:=u.cnt_kids
    have:=v.cnt_kids
    exact ⟨_,ih2 _ _ (by omega) (by omega) (by omega)⟩
   have ht:=zSp x y
   have hal : zBH x y = true → x.kids.length = y.kids.length:=zFJ
   have hlp : x.kids.length = y.kids.length → _:=fun hl => zJq hF hl (by omega) n 0 (txt x y) (by omega) (by omega) (by simp only [List.drop_zero]; omega)
   rw [show ((0 : Nat) : Int) = 0 from rfl,List.drop_zero,List.drop_zero,← hD] at hlp
   obtain ⟨a,b,c,d⟩:=x
   obtain ⟨a',b',c',d'⟩:=y
   unfold zBO
   have e : (bif (!(b == b')) then some 1 else some 0 : Option Int) = some (txt (.mk a b c d) (.mk a' b' c' d') : Int):=by
    unfold txt
    simp only [Nd.text]
    cases b == b' <;> rfl
   have e3 : (bif (a != a') then some true else bif (c != c') then some true else some ((d.length : Int) != (d'.length : Int)) : Option Bool) = some (!zBH (.mk a b c d) (.mk a' b' c' d')):=by
    unfold zBH bne
    simp only [Nd.kind,Nd.kids,Nd.cols]
    cases a == a' <;> cases c == c' <;> cases ((d.length : Int) == (d'.length : Int)) <;> rfl
   rw [e,e3]
   unfold prI
   cases hab : zBH (.mk a b c d) (.mk a' b' c' d') with
   | false => rfl
   | true =>
    simp only [Nd.kids] at hlp hal
    simp only [Option.bind_some,Bool.not_true,cond_false,cond_true]
    rw [hlp (hal hab)]; rfl
  ·have l1:=Nd.cnts_len a
   have l2:=Nd.cnts_len b
   rw [zCk,zQr n a (by omega) ha,zQr n b (by omega) hb,Option.bind_some,Option.bind_some,zBl ⟨by omega,by omega,by simp⟩]
   rw [zP5 hb a (fun x hx y hy => ?_) ha]
   ·rfl
   ·have:=Nd.cnts_mem hy
    have:=Nd.cnts_mem hx
    exact ih1 x y (by omega) (by omega) (by omega)
theorem zMI (n : Nat) (a b : Nd) (ha : a.w + 45 < n) (ha' : a.w ≤ 67108864) (hb : b.w + 45 < n) (hb' : b.w ≤ 67108864) : zEs n a b = some (zBG a && zBG b):=by
 have e1:=zDq n a ha ha'
 have e2:=zDq n b hb hb'
 obtain ⟨a1,a2,a3,a4⟩:=a
 obtain ⟨b1,b2,b3,b4⟩:=b
 unfold zEs
 simp only [e1,e2,Option.bind_some]
 cases zBG (.mk a1 a2 a3 a4) <;> rfl
end Go.Proofs.YtgfneloodabafaaGreatDoor
namespace Go.Proofs.YtgfneloodabafaaGreatDoor
open Go.Abs
theorem zKo {k : Int} : ∀ {a : List Nd} {v : Nd},zE8 k a = true → v ∈ a → zGE v = true ∧ ((v.kind == 1) == (k == 1)) = false
 | u :: a,v,h,hm => by
  simp only [zE8,Bool.and_eq_true,Bool.not_eq_true'] at h
  rcases List.mem_cons.1 hm with rfl | hm
  ·exact ⟨h.1.2,h.1.1⟩
  ·exact zKo h.2 hm
theorem zMK {u : Nd} (h : zGE u = true) (hk : u.kind = 1) : u = .mk 1 [] 0 u.kids ∧ zE8 1 u.kids = true:=by
 obtain ⟨k,t,c,ks⟩:=u
 simp only [Nd.kind] at hk
 subst hk
 simp only [zGE,Bool.and_eq_true] at h
 obtain ⟨⟨h1,h2⟩,h3⟩:=h
 have h1' : (t == []) = true:=h1
 have h2' : ((c == 0) && decide ((ks.length : Int) ≤ 200)) = true:=h2
 simp only [Bool.and_eq_true] at h2'
 rw [eq_of_beq h1',eq_of_beq h2'.1]
 exact ⟨rfl,h3⟩
theorem zOV {F : Nd → Nd → Option Bool} {a b : List Nd} (hF : ∀ u ∈ a,∀ v ∈ b,∃ y,F u v = some y ∧ (y = true ↔ u = v)) (hl : a.length = b.length) (hb : a.length ≤ 1073741824) :
  ∀ (q i : Nat),a.length - i < q → i ≤ a.length → ∃ y,zBD F a b q (i : Int) = some (if y then .go () else .ret false) ∧ (y = true ↔ a.drop i = b.drop i)
 | 0,_,h,_ => by omega
 | q + 1,i,hq,hi => by
  unfold zBD
  by_cases h : i < a.length
  ·have h' : i < b.length:=by omega
   rw [zBi (Int.ofNat_lt.2 h),cond_true,zBA h,zBA h']
   obtain ⟨y,f1,f2⟩:=hF _ (List.getElem_mem h) _ (List.getElem_mem h')
   have d1:=List.drop_eq_getElem_cons h
   have d2:=List.drop_eq_getElem_cons h'
   rcases e : a[i] with ⟨x1,x2,x3,x4⟩
   rcases e' : b[i] with ⟨y1,y2,y3,y4⟩
   rw [e,e'] at f1 f2
   rw [e] at d1
   rw [e'] at d2
   simp only [Option.bind_some,f1]
   cases y with
   | false =>
    refine ⟨false,rfl,⟨(fun h => by cases h),fun h => ?_⟩⟩
    rw [d1,d2] at h
    exact f2.2 (List.cons.inj h).1
   | true =>
    simp only [Bool.not_true,cond_false]
    rw [zAM (by omega)]
    obtain ⟨z,g1,g2⟩:=zOV hF hl hb q (i + 1) (by omega) (by omega)
    refine ⟨z,g1,?_⟩
    rw [d1,d2,g2,f2.1 rfl]
    simp
  ·rw [zA8 (by omega),cond_false]
   obtain rfl : i = a.length:=by omega
   refine ⟨true,rfl,?_⟩
   rw [List.drop_length,hl,List.drop_length]
   simp
theorem zMm : ∀ N : Nat,(∀ x y : Nd,2 * x.cnt < N → x.cnt ≤ 67108864 → ∃ r,zBL N x y = some r ∧ (r = true ↔ x = y)) ∧
  (∀ a b : List Nd,2 * Nd.cnts a + 1 < N → Nd.cnts a ≤ 67108864 → ∃ r,zBr N a b = some r ∧ (r = true ↔ a = b))
 | 0 => ⟨fun _ _ h _ => by omega,fun _ _ h _ => by omega⟩
 | n + 1 => by
  obtain ⟨ih1,ih2⟩:=zMm n
  refine ⟨fun x y h hx => ?_,fun a b h ha => ?_⟩
  ·obtain ⟨a,b,c,d⟩:=x
   obtain ⟨a',b',c',d'⟩:=y
   simp only [Nd.cnt] at h hx
   obtain ⟨r,h1,h2⟩:=ih2 d d' (by omega) (by omega)
   unfold zBL
   simp only [h1,Option.bind_some]
   cases e1 : a == a' with
   | false => exact ⟨false,rfl,⟨(fun h => by cases h),fun h => by cases h; simp at e1⟩⟩
   | true =>
    cases e2 : b == b' with
    | false => exact ⟨false,rfl,⟨(fun h => by cases h),fun h => by cases h; simp at e2⟩⟩
    | true =>
     cases e3 : c == c' with
     | false => exact ⟨false,rfl,⟨(fun h => by cases h),fun h => by cases h; simp at e3⟩⟩
     | true =>
      refine ⟨r,rfl,h2.trans ⟨fun h => ?_,fun h => by cases h; rfl⟩⟩
      rw [eq_of_beq e1,eq_of_beq e2,eq_of_beq e3,h]
  ·unfold zBr
   have l1:=Nd.cnts_len a
   by_cases hl : a.length = b.length
   ·obtain ⟨y,g1,g2⟩:=zOV (F:=zBL n) (a:=a) (b:=b) (fun u hu v _ => ih1 u v (by have:=Nd.cnts_mem hu; omega) (by have:=Nd.cnts_mem hu; omega)) hl (by omega) n 0 (by omega) (by omega)
    rw [show ((0 : Nat) : Int) = 0 from rfl] at g1
    rw [hl,bne_self_eq_false,cond_false,g1]
    refine ⟨y,by cases y <;> rfl,g2⟩
   ·have : ((a.length : Int) != (b.length : Int)) = true:=by
     unfold bne
     rw [zGJ (by omega)]; rfl
    rw [this]
    exact ⟨false,rfl,⟨(fun h => by cases h),fun h => absurd (congrArg List.length h) hl⟩⟩
theorem zSs {x : Nd} (h : zBG x = true) : x = .mk 1 [] 0 x.kids ∧ zE8 1 x.kids = true:=by
 unfold zBG at h
 simp only [Bool.and_eq_true] at h
 exact zMK h.2.1 (eq_of_beq h.1)
end Go.Proofs.YtgfneloodabafaaGreatDoor
namespace Go.Proofs.YtgfneloodabafaaGreatDoor
open Go.Abs
theorem zLW {F : Nd → Nd → Option Bool} {a b : List Nd} (hF : ∀ u ∈ a,∀ v ∈ b,∃ y,F u v = some y ∧ (y = true ↔ u = v)) (hl : a.length = b.length) (hb : a.length ≤ 1073741824) :
  ∀ (q i : Nat),a.length - i < q → i ≤ a.length → ∃ y,zAZ F a b q (i : Int) = some (if y then .go () else .ret false) ∧ (y = true ↔ a.drop i = b.drop i)
 | 0,_,h,_ => by omega
 | q + 1,i,hq,hi => by
  unfold zAZ
  by_cases h : i < a.length
  ·have h' : i < b.length:=by omega
   rw [zBi (Int.ofNat_lt.2 h),cond_true,zBA h,zBA h']
   obtain ⟨y,f1,f2⟩:=hF _ (List.getElem_mem h) _ (List.getElem_mem h')
   have d1:=List.drop_eq_getElem_cons h
   have d2:=List.drop_eq_getElem_cons h'
   rcases e : a[i] with ⟨x1,x2,x3,x4⟩
   rcases e' : b[i] with ⟨y1,y2,y3,y4⟩
   rw [e,e'] at f1 f2
   rw [e] at d1
   rw [e'] at d2
   simp only [Option.bind_some,f1]
   cases y with
   | false =>
    refine ⟨false,rfl,⟨(fun h => by cases h),fun h => ?_⟩⟩
    rw [d1,d2] at h
    exact f2.2 (List.cons.inj h).1
   | true =>
    simp only [Bool.not_true,cond_false]
    rw [zAM (by omega)]
    obtain ⟨z,g1,g2⟩:=zLW hF hl hb q (i + 1) (by omega) (by omega)
    refine ⟨z,g1,?_⟩
    rw [d1,d2,g2,f2.1 rfl]
    simp
  ·rw [zA8 (by omega),cond_false]
   obtain rfl : i = a.length:=by omega
   refine ⟨true,rfl,?_⟩
   rw [List.drop_length,hl,List.drop_length]
   simp
theorem zIk : ∀ N : Nat,(∀ x y : Nd,2 * x.cnt < N → x.cnt ≤ 67108864 → ∃ r,zCh N x y = some r ∧ (r = true ↔ x = y)) ∧
  (∀ a b : List Nd,2 * Nd.cnts a + 1 < N → Nd.cnts a ≤ 67108864 → ∃ r,zA5 N a b = some r ∧ (r = true ↔ a = b))
 | 0 => ⟨fun _ _ h _ => by omega,fun _ _ h _ => by omega⟩
 | n + 1 => by
  obtain ⟨ih1,ih2⟩:=zIk n
  refine ⟨fun x y h hx => ?_,fun a b h ha => ?_⟩
  ·obtain ⟨a,b,c,d⟩:=x
   obtain ⟨a',b',c',d'⟩:=y
   simp only [Nd.cnt] at h hx
   obtain ⟨r,h1,h2⟩:=ih2 d d' (by omega) (by omega)
   unfold zCh
   simp only [h1,Option.bind_some]
   cases e1 : a == a' with
   | false => exact ⟨false,rfl,⟨(fun h => by cases h),fun h => by cases h; simp at e1⟩⟩
   | true =>
    cases e2 : b == b' with
    | false => exact ⟨false,rfl,⟨(fun h => by cases h),fun h => by cases h; simp at e2⟩⟩
    | true =>
     cases e3 : c == c' with
     | false => exact ⟨false,rfl,⟨(fun h => by cases h),fun h => by cases h; simp at e3⟩⟩
     | true =>
      refine ⟨r,rfl,h2.trans ⟨fun h => ?_,fun h => by cases h; rfl⟩⟩
      rw [eq_of_beq e1,eq_of_beq e2,eq_of_beq e3,h]
  ·unfold zA5
   have l1:=Nd.cnts_len a
   by_cases hl : a.length = b.length
   ·obtain ⟨y,g1,g2⟩:=zLW (F:=zCh n) (a:=a) (b:=b) (fun u hu v _ => ih1 u v (by have:=Nd.cnts_mem hu; omega) (by have:=Nd.cnts_mem hu; omega)) hl (by omega) n 0 (by omega) (by omega)
    rw [show ((0 : Nat) : Int) = 0 from rfl] at g1
    rw [hl,bne_self_eq_false,cond_false,g1]
    refine ⟨y,by cases y <;> rfl,g2⟩
   ·have : ((a.length : Int) != (b.length : Int)) = true:=by
     unfold bne
     rw [zGJ (by omega)]; rfl
    rw [this]
    exact ⟨false,rfl,⟨(fun h => by cases h),fun h => absurd (congrArg List.length h) hl⟩⟩
theorem zSW (a b : Nat) : Nat.max a b = if a ≤ b then b else a:=rfl
theorem zMH : ∀ {ks : List Nd} {v : Nd},v ∈ ks → v.dep ≤ Nd.deps ks
 | u :: ks,v,h => by
  simp only [Nd.deps,zSW]
  rcases List.mem_cons.1 h with rfl | h
  ·split <;> omega
  ·have:=zMH h; split <;> omega
end Go.Proofs.YtgfneloodabafaaGreatDoor
namespace Go.Proofs.YtgfneloodabafaaGreatDoor
open Go.Abs
def zBJ : Nat → Nat → Nat → List Nd → List Nd → List (Nat × Nat)
 | k + 1,i,j,x :: xs,y :: ys =>
  bif zBH x y && (DL (x :: xs) (y :: ys) == DL xs ys + D x y) then (i,j) :: zBJ k (i + 1) (j + 1) xs ys
  else bif (DL (x :: xs) (y :: ys) == DL xs (y :: ys) + x.cnt) && (!(DL (x :: xs) (y :: ys) == DL (x :: xs) ys + y.cnt) || Op.bytesLess (zDP x) (zDP y)) then zBJ k (i + 1) j xs (y :: ys)
  else zBJ k i (j + 1) (x :: xs) ys
 | _,_,_,_,_ => []
theorem zDa (a b : Nat) : ((a : Int) == (b : Int)) = (a == b):=by
 by_cases h : a = b
 ·subst h; simp
 ·rw [beq_eq_false_iff_ne.2 h,beq_eq_false_iff_ne.2 (by omega)]
theorem zRh (a b : Nat) : (a == b) = (b == a):=by
 by_cases h : a = b
 ·subst h; rfl
 ·rw [beq_eq_false_iff_ne.2 h,beq_eq_false_iff_ne.2 (Ne.symm h)]
theorem zOY (P : Nd → Nd → Nat) (b : List Nd) : ∀ (a : List Nd) (i : Nat),i ≤ a.length → at? (tabD P a b) (i : Int) = some (sufs (TD P (a.drop i)) b)
 | [],0,_ => rfl
 | [],i + 1,h => by simp at h
 | x :: xs,0,_ => rfl
 | x :: xs,i + 1,h => by
  have:=zOY P b xs i (by simpa using h)
  unfold at? at this ⊢
  rw [if_pos (by omega)] at this ⊢
  simp only [Int.toNat_natCast] at this ⊢
  simpa [tabD] using this
theorem zGj (f : List Nd → Nat) : ∀ (b : List Nd) (j : Nat),j ≤ b.length → at? (sufs f b) (j : Int) = some (f (b.drop j) : Int)
 | [],0,_ => rfl
 | [],j + 1,h => by simp at h
 | y :: ys,0,_ => rfl
 | y :: ys,j + 1,h => by
  have:=zGj f ys j (by simpa using h)
  unfold at? at this ⊢
  rw [if_pos (by omega)] at this ⊢
  simp only [Int.toNat_natCast] at this ⊢
  simpa [sufs] using this
theorem zLR {α β : Type} (f : α → β) {l : List α} {i : Nat} (h : i < l.length) : at? (l.map f) (i : Int) = some (f l[i]):=by
 rw [zBA (by simpa using h)]; simp
def zE5 (p : Nat × Nat) : Int × Int:=((p.1 : Int),(p.2 : Int))
theorem zGX (n : Nat) {a b : List Nd} (ha : Nd.cnts a ≤ 1000000) (hb : Nd.cnts b ≤ 1000000) (hwa : ∀ x ∈ a,2 * x.w < n ∧ x.w ≤ 16777216 ∧ x.rng) (hwb : ∀ x ∈ b,2 * x.w < n ∧ x.w ≤ 16777216 ∧ x.rng) :
  ∀ (k i j : Nat) (l : List (Int × Int)),(a.length - i) + (b.length - j) < k → i ≤ a.length → j ≤ b.length → l.length ≤ i →
   zBC n a b (tabD D a b) (a.map fun x => b.map (prI x)) (a.map cntI) (b.map cntI) k (i : Int) (j : Int) l = some (l ++ (zBJ k i j (a.drop i) (b.drop j)).map zE5)
 | 0,_,_,_,h,_,_,_ => by omega
 | k + 1,i,j,l,hk,hi,hj,hl => by
  have la:=Nd.cnts_len a
  have lb:=Nd.cnts_len b
  unfold zBC
  by_cases hia : i < a.length
  ·rw [zBi (Int.ofNat_lt.2 hia),cond_true]
   by_cases hjb : j < b.length
   ·rw [zBi (Int.ofNat_lt.2 hjb),Option.bind_some,cond_true]
    have hda:=List.drop_eq_getElem_cons hia
    have hdb:=List.drop_eq_getElem_cons hjb
    have ca:=Nd.cnts_drop hia
    have cb:=Nd.cnts_drop hjb
    obtain ⟨x1,x2,x3⟩:=hwa _ (List.getElem_mem hia)
    obtain ⟨y1,y2,y3⟩:=hwb _ (List.getElem_mem hjb)
    have ca' : Nd.cnts (a.drop i) ≤ Nd.cnts a:=by
     have:=Nd.cnts_append (a.take i) (a.drop i); rw [List.take_append_drop] at this; omega
    have cb' : Nd.cnts (b.drop j) ≤ Nd.cnts b:=by
     have:=Nd.cnts_append (b.take j) (b.drop j); rw [List.take_append_drop] at this; omega
    have b1:=zJB (P:=D) (a.drop i) (b.drop j)
    have b2:=zJB (P:=D) (a.drop (i + 1)) (b.drop j)
    have b3:=zJB (P:=D) (a.drop i) (b.drop (j + 1))
    have b4:=zJB (P:=D) (a.drop (i + 1)) (b.drop (j + 1))
    have b5:=D_le a[i] b[j]
    have t1:=zOY D b a i (by omega)
    have t2:=zOY D b a (i + 1) (by omega)
    have s1:=zGj (TD D (a.drop i)) b j (by omega)
    have s2:=zGj (TD D (a.drop (i + 1))) b j (by omega)
    have s3:=zGj (TD D (a.drop i)) b (j + 1) (by omega)
    have s4:=zGj (TD D (a.drop (i + 1))) b (j + 1) (by omega)
    have p1:=zLR (fun x => b.map (prI x)) hia
    have p2:=zLR (prI a[i]) hjb
    have c1:=zLR cntI hia
    have c2:=zLR cntI hjb
    have d1:=zJm n a[i] x1 x2 x3
    have d2:=zJm n b[j] y1 y2 y3
    rw [zAM (by omega),zAM (by omega)]
    simp only [t1,t2,s1,s2,s3,s4,p1,p2,c1,c2,Option.bind_some,zBA hia,zBA hjb]
    have hx : (bif decide (0 ≤ prI a[i] b[j]) then some ((TD D (a.drop i) (b.drop j) : Int) == IntKind.i64.wrap ((TD D (a.drop (i + 1)) (b.drop (j + 1)) : Int) + prI a[i] b[j])) else some false : Option Bool) = some (zBH a[i] b[j] && (DL (a[i] :: a.drop (i + 1)) (b[j] :: b.drop (j + 1)) == DL (a.drop (i + 1)) (b.drop (j + 1)) + D a[i] b[j])):=by
     unfold prI
     cases hal : zBH a[i] b[j] with
     | false => rfl
     | true =>
      rw [cond_true,zBi (by omega),cond_true,wrap64_in (by omega) (by omega),← Int.natCast_add,zDa,← hda,← hdb]; rfl
    rw [hx,Option.bind_some,hda,hdb,zBJ]
    cases zBH a[i] b[j] && (DL (a[i] :: a.drop (i + 1)) (b[j] :: b.drop (j + 1)) == DL (a.drop (i + 1)) (b.drop (j + 1)) + D a[i] b[j]) with
    | true =>
     simp only [cond_true]
     rw [zBl (by simp; omega),zGX n ha hb hwa hwb k (i + 1) (j + 1) _ (by omega) (by omega) (by omega) (by simp; omega)]
     simp [zE5]
    | false =>
     simp only [cond_false]
     rw [← hda,← hdb,cntI,wrap64_in (by omega) (by omega),← Int.natCast_add,zDa,cntI,wrap64_in (by omega) (by omega),← Int.natCast_add,zDa]
     have hz : ∀ X : Option Bool,X = some ((DL (a.drop i) (b.drop j) == DL (a.drop (i + 1)) (b.drop j) + a[i].cnt) && (!(DL (a.drop i) (b.drop j) == DL (a.drop i) (b.drop (j + 1)) + b[j].cnt) || Op.bytesLess (zDP a[i]) (zDP b[j]))) → ∀ K : Bool → Option (List (Int × Int)),X.bind K = K ((DL (a.drop i) (b.drop j) == DL (a.drop (i + 1)) (b.drop j) + a[i].cnt) && (!(DL (a.drop i) (b.drop j) == DL (a.drop i) (b.drop (j + 1)) + b[j].cnt) || Op.bytesLess (zDP a[i]) (zDP b[j]))):=fun X h K => by rw [h]; rfl
     refine (hz _ ?_ _).trans ?_
     ·have key : ∀ (p q r : Bool),(bif p then (bif !q then some true else some r) else some false : Option Bool) = some (p && (!q || r)):=by intro p q r; cases p <;> cases q <;> rfl
      rcases e : a[i] with ⟨e1,e2,e3,e4⟩
      rcases e' : b[j] with ⟨f1,f2,f3,f4⟩
      rw [e] at d1
      rw [e'] at d2
      simp only [d1,d2,Option.bind_some]
      exact key _ _ _
     cases ((DL (a.drop i) (b.drop j) == DL (a.drop (i + 1)) (b.drop j) + a[i].cnt) && (!(DL (a.drop i) (b.drop j) == DL (a.drop i) (b.drop (j + 1)) + b[j].cnt) || Op.bytesLess (zDP a[i]) (zDP b[j]))) with
     | true =>
      simp only [cond_true]
      rw [zGX n ha hb hwa hwb k (i + 1) j _ (by omega) (by omega) (by omega) (by omega)]
     | false =>
      simp only [cond_false]
      rw [zGX n ha hb hwa hwb k i (j + 1) _ (by omega) (by omega) (by omega) (by omega)]
   ·rw [zA8 (by omega),Option.bind_some,cond_false]
    obtain rfl : j = b.length:=by omega
    rw [List.drop_length]
    cases a.drop i <;> simp [zBJ]
  ·rw [zA8 (by omega),cond_false,Option.bind_some,cond_false]
   obtain rfl : i = a.length:=by omega
   rw [List.drop_length]
   simp [zBJ]
theorem zGg (n : Nat) {a b : List Nd} (hn : 2 * Nd.cnts a + 2 * Nd.cnts b + 2 < n) (ha : Nd.cnts a ≤ 1000000) (hb : Nd.cnts b ≤ 1000000) (hwa : ∀ x ∈ a,x.w + 40 < n ∧ x.w ≤ 16777216 ∧ x.rng) (hwb : ∀ x ∈ b,x.w + 40 < n ∧ x.w ≤ 16777216 ∧ x.rng) :
  ∀ (k i j : Nat) (l : List (Int × Int)),(a.length - i) + (b.length - j) < k → i ≤ a.length → j ≤ b.length → l.length ≤ i →
   zBe n a b (tabD D a b) k (i : Int) (j : Int) l = some (l ++ (zBJ k i j (a.drop i) (b.drop j)).map zE5)
 | 0,_,_,_,h,_,_,_ => by omega
 | k + 1,i,j,l,hk,hi,hj,hl => by
  have la:=Nd.cnts_len a
  have lb:=Nd.cnts_len b
  unfold zBe
  by_cases hia : i < a.length
  ·rw [zBi (Int.ofNat_lt.2 hia),cond_true]
   by_cases hjb : j < b.length
   ·rw [zBi (Int.ofNat_lt.2 hjb),Option.bind_some,cond_true]
    have hda:=List.drop_eq_getElem_cons hia
    have hdb:=List.drop_eq_getElem_cons hjb
    have ca:=Nd.cnts_drop hia
    have cb:=Nd.cnts_drop hjb
    obtain ⟨x1,x2,x3⟩:=hwa _ (List.getElem_mem hia)
    obtain ⟨y1,y2,y3⟩:=hwb _ (List.getElem_mem hjb)
    have mx:=Nd.cnts_mem (List.getElem_mem hia)
    have my:=Nd.cnts_mem (List.getElem_mem hjb)
    have ca' : Nd.cnts (a.drop i) ≤ Nd.cnts a:=by
     have:=Nd.cnts_append (a.take i) (a.drop i); rw [List.take_append_drop] at this; omega
    have cb' : Nd.cnts (b.drop j) ≤ Nd.cnts b:=by
     have:=Nd.cnts_append (b.take j) (b.drop j); rw [List.take_append_drop] at this; omega
    have b1:=zJB (P:=D) (a.drop i) (b.drop j)
    have b2:=zJB (P:=D) (a.drop (i + 1)) (b.drop j)
    have b3:=zJB (P:=D) (a.drop i) (b.drop (j + 1))
    have b4:=zJB (P:=D) (a.drop (i + 1)) (b.drop (j + 1))
    have b5:=D_le a[i] b[j]
    have t1:=zOY D b a i (by omega)
    have t2:=zOY D b a (i + 1) (by omega)
    have s1:=zGj (TD D (a.drop i)) b j (by omega)
    have s2:=zGj (TD D (a.drop (i + 1))) b j (by omega)
    have s3:=zGj (TD D (a.drop i)) b (j + 1) (by omega)
    have s4:=zGj (TD D (a.drop (i + 1))) b (j + 1) (by omega)
    have d1:=zHQ n a[i] x1 x2 x3
    have d2:=zHQ n b[j] y1 y2 y3
    have k1:=zDN n a[i] (by omega) (by omega)
    have k2:=zDN n b[j] (by omega) (by omega)
    have al:=zPW a[i] b[j]
    have pr:=(zR1 n).1 a[i] b[j]
    have hP : ∀ (x y : Nd),x = a[i] → y = b[j] → zBe n a b (tabD D a b) (k + 1) (i : Int) (j : Int) l = some (l ++ (zBJ (k + 1) i j (a.drop i) (b.drop j)).map zE5) → True:=fun _ _ _ _ _ => trivial
    clear hP
    rw [zAM (by omega),zAM (by omega)]
    simp only [t1,t2,s1,s2,s3,s4,Option.bind_some,zBA hia,zBA hjb]
    have fin : ∀ (A B C : Bool),A = (zBH a[i] b[j] && (DL (a[i] :: a.drop (i + 1)) (b[j] :: b.drop (j + 1)) == DL (a.drop (i + 1)) (b.drop (j + 1)) + D a[i] b[j])) →
      B = ((DL (a[i] :: a.drop (i + 1)) (b[j] :: b.drop (j + 1)) == DL (a.drop (i + 1)) (b[j] :: b.drop (j + 1)) + a[i].cnt) && (!(DL (a[i] :: a.drop (i + 1)) (b[j] :: b.drop (j + 1)) == DL (a[i] :: a.drop (i + 1)) (b.drop (j + 1)) + b[j].cnt) || Op.bytesLess (zDP a[i]) (zDP b[j]))) →
      (bif A then req (l.length + [((i : Int),(j : Int))].length ≤ 4294967296) (zBe n a b (tabD D a b) k ((i + 1 : Nat) : Int) ((j + 1 : Nat) : Int) (l ++ [((i : Int),(j : Int))]))
       else bif B then zBe n a b (tabD D a b) k ((i + 1 : Nat) : Int) (j : Int) l else zBe n a b (tabD D a b) k (i : Int) ((j + 1 : Nat) : Int) l) = some (l ++ (zBJ (k + 1) i j (a.drop i) (b.drop j)).map zE5):=fun A B C hA hB => by
     rw [hda,hdb,zBJ,← hA,← hB]
     cases A with
     | true =>
      simp only [cond_true]
      rw [zBl (by simp; omega),zGg n hn ha hb hwa hwb k (i + 1) (j + 1) _ (by omega) (by omega) (by omega) (by simp; omega)]
      simp [zE5]
     | false =>
      cases B with
      | true =>
       simp only [cond_true,cond_false]
       rw [zGg n hn ha hb hwa hwb k (i + 1) j _ (by omega) (by omega) (by omega) (by omega),← hdb]
      | false =>
       simp only [cond_false]
       rw [zGg n hn ha hb hwa hwb k i (j + 1) _ (by omega) (by omega) (by omega) (by omega),← hda]
    rw [← hda,← hdb] at fin
    rcases e : a[i] with ⟨e1,e2,e3,e4⟩
    rcases e' : b[j] with ⟨f1,f2,f3,f4⟩
    rw [e] at d1 k1 mx ca b5
    rw [e'] at d2 k2 my cb b5
    rw [e,e'] at al pr fin
    simp only [k1,k2,d1,d2,al,Option.bind_some]
    rw [wrap64_in (by omega) (by omega),← Int.natCast_add,zDa,wrap64_in (by omega) (by omega),← Int.natCast_add,zDa]
    have hA : (bif zBH (.mk e1 e2 e3 e4) (.mk f1 f2 f3 f4) then (zCe n (.mk e1 e2 e3 e4) (.mk f1 f2 f3 f4)).bind fun y44 => some (IntKind.i64.wrap (y44 + (TD D (a.drop (i + 1)) (b.drop (j + 1)) : Int)) == (TD D (a.drop i) (b.drop j) : Int)) else some false : Option Bool) = some (zBH (.mk e1 e2 e3 e4) (.mk f1 f2 f3 f4) && (DL (a.drop i) (b.drop j) == DL (a.drop (i + 1)) (b.drop (j + 1)) + D (.mk e1 e2 e3 e4) (.mk f1 f2 f3 f4))):=by
     cases hal : zBH (.mk e1 e2 e3 e4) (.mk f1 f2 f3 f4) with
     | false => rfl
     | true =>
      rw [cond_true,pr hal (by omega) (by omega) (by omega),Option.bind_some,wrap64_in (by omega) (by omega),← Int.natCast_add,zDa,zRh,Nat.add_comm]; rfl
    rw [hA,Option.bind_some]
    have hB : (bif (TD D (a.drop (i + 1)) (b.drop j) + 0 == 0) then some true else some false : Option Bool) = (bif (TD D (a.drop (i + 1)) (b.drop j) + 0 == 0) then some true else some false : Option Bool):=rfl
    clear hB
    have key : ∀ (p q r : Bool) (Y N : Option (List (Int × Int))),((bif p then (bif !q then some true else some r) else some false : Option Bool).bind fun x => bif x then Y else N) = bif (p && (!q || r)) then Y else N:=by intro p q r Y N; cases p <;> cases q <;> cases r <;> rfl
    refine Eq.trans ?_ (fin _ _ true rfl rfl)
    congr 1
    rw [key,zRh,Nat.add_comm (Nd.mk e1 e2 e3 e4).cnt,zRh (_ + TD D (a.drop i) (b.drop (j + 1))),Nat.add_comm (Nd.mk f1 f2 f3 f4).cnt]
    rfl
   ·rw [zA8 (by omega),Option.bind_some,cond_false]
    obtain rfl : j = b.length:=by omega
    rw [List.drop_length]
    cases a.drop i <;> simp [zBJ]
  ·rw [zA8 (by omega),cond_false,Option.bind_some,cond_false]
   obtain rfl : i = a.length:=by omega
   rw [List.drop_length]
   simp [zBJ]
theorem zEO : ∀ (k i j : Nat) (a b : List Nd),(zBJ k i j a b).length ≤ a.length
 | 0,_,_,_,_ => by simp [zBJ]
 | k + 1,i,j,[],_ => by simp [zBJ]
 | k + 1,i,j,_ :: _,[] => by simp [zBJ]
 | k + 1,i,j,x :: xs,y :: ys => by
  have h1:=zEO k (i + 1) (j + 1) xs ys
  have h2:=zEO k (i + 1) j xs (y :: ys)
  have h3:=zEO k i (j + 1) (x :: xs) ys
  simp only [zBJ]
  cases zBH x y && (DL (x :: xs) (y :: ys) == DL xs ys + D x y) <;> cases (DL (x :: xs) (y :: ys) == DL xs (y :: ys) + x.cnt) && (!(DL (x :: xs) (y :: ys) == DL (x :: xs) ys + y.cnt) || Op.bytesLess (zDP x) (zDP y)) <;>
   simp only [cond_true,cond_false,List.length_cons] at * <;> omega
theorem zTp {t x : Nd} (h : x ∈ t.kids) : x.w < t.w:=by
 have:=Nd.w_mem h
 have e : t.w = t.text.length + Nd.ws t.kids + 1:=by cases t; rfl
 omega
theorem zG1 {t x : Nd} (hr : t.rng) (h : x ∈ t.kids) : x.rng:=by
 obtain ⟨a,b,c,ks⟩:=t
 exact Nd.rng_mem hr.2.2 h
theorem zSw (n : Nat) (a b : Nd) (h : 4 * a.w + 4 * b.w + 100 < n) (ha : a.w ≤ 16000000) (hb : b.w ≤ 16000000) (ca : a.cnt ≤ 120) (cb : b.cnt ≤ 120) (ra : a.rng) (rb : b.rng) :
  zEr n a b = some (bif zBG a && zBG b then ((zBJ n 0 0 a.kids b.kids).map zE5,0) else ([],1)):=by
 have e1:=zMI n a b (by omega) (by omega) (by omega) (by omega)
 have c1:=Nd.cnt_w a
 have c2:=Nd.cnt_w b
 have k1:=a.cnt_kids
 have k2:=b.cnt_kids
 have l1:=Nd.cnts_len a.kids
 have l2:=Nd.cnts_len b.kids
 have e2:=(zRs n).2 a.kids b.kids (by omega) (by omega) (by omega)
 have e3:=zGX n (a:=a.kids) (b:=b.kids) (by omega) (by omega) (fun x hx => by have:=zTp hx; exact ⟨by omega,by omega,zG1 ra hx⟩) (fun x hx => by have:=zTp hx; exact ⟨by omega,by omega,zG1 rb hx⟩) n 0 0 [] (by omega) (by omega) (by omega) (by simp)
 rw [show ((0 : Nat) : Int) = 0 from rfl,List.drop_zero,List.drop_zero,List.nil_append] at e3
 obtain ⟨a1,a2,a3,a4⟩:=a
 obtain ⟨b1,b2,b3,b4⟩:=b
 simp only [Nd.kids] at e2 e3
 unfold zEr zFr
 simp only [e1,e2,e3,Option.bind_some]
 cases zBG (.mk a1 a2 a3 a4) && zBG (.mk b1 b2 b3 b4) <;> rfl
end Go.Proofs.YtgfneloodabafaaGreatDoor
namespace Go.Proofs.YtgfneloodabafaaGreatDoor
open Go.Abs
theorem zFI : ∀ (k i j : Nat) (a b : List Nd),∀ u ∈ zBJ k i j a b,∃ s t x y,u = (i + s,j + t) ∧ a[s]? = some x ∧ b[t]? = some y ∧ zBH x y = true
 | 0,i,j,a,b,u,h => by unfold zBJ at h; cases h
 | k + 1,i,j,[],b,u,h => by unfold zBJ at h; cases h
 | k + 1,i,j,x :: xs,[],u,h => by unfold zBJ at h; cases h
 | k + 1,i,j,x :: xs,y :: ys,u,h => by
  unfold zBJ at h
  cases h1 : (zBH x y && (DL (x :: xs) (y :: ys) == DL xs ys + D x y)) with
  | true =>
   rw [h1,cond_true] at h
   rcases List.mem_cons.1 h with rfl | h
   ·exact ⟨0,0,x,y,rfl,rfl,rfl,(Bool.and_eq_true _ _ ▸ h1).1⟩
   ·obtain ⟨s,t,x',y',rfl,h2,h3,h4⟩:=zFI k (i + 1) (j + 1) xs ys u h
    exact ⟨s + 1,t + 1,x',y',by rw [Nat.add_assoc,Nat.add_comm 1,Nat.add_assoc j,Nat.add_comm 1],h2,h3,h4⟩
  | false =>
   rw [h1,cond_false] at h
   generalize ((DL (x :: xs) (y :: ys) == DL xs (y :: ys) + x.cnt) && (!(DL (x :: xs) (y :: ys) == DL (x :: xs) ys + y.cnt) || Op.bytesLess (zDP x) (zDP y))) = c at h
   cases c with
   | true =>
    obtain ⟨s,t,x',y',rfl,h2,h3,h4⟩:=zFI k (i + 1) j xs (y :: ys) u h
    exact ⟨s + 1,t,x',y',by rw [Nat.add_assoc,Nat.add_comm 1],h2,h3,h4⟩
   | false =>
    obtain ⟨s,t,x',y',rfl,h2,h3,h4⟩:=zFI k i (j + 1) (x :: xs) ys u h
    exact ⟨s,t + 1,x',y',by rw [Nat.add_assoc j,Nat.add_comm 1],h2,h3,h4⟩
theorem zDb : ∀ (k i j : Nat) (a b : List Nd),(zBJ k i j a b).Pairwise fun u v => u.1 < v.1 ∧ u.2 < v.2
 | 0,i,j,a,b => by unfold zBJ; exact .nil
 | k + 1,i,j,[],b => by unfold zBJ; exact .nil
 | k + 1,i,j,x :: xs,[] => by unfold zBJ; exact .nil
 | k + 1,i,j,x :: xs,y :: ys => by
  unfold zBJ
  cases h1 : (zBH x y && (DL (x :: xs) (y :: ys) == DL xs ys + D x y)) with
  | true =>
   rw [cond_true]
   refine .cons (fun u hu => ?_) (zDb k (i + 1) (j + 1) xs ys)
   obtain ⟨s,t,_,_,rfl,_⟩:=zFI k (i + 1) (j + 1) xs ys u hu
   dsimp only
   omega
  | false =>
   rw [cond_false]
   generalize ((DL (x :: xs) (y :: ys) == DL xs (y :: ys) + x.cnt) && (!(DL (x :: xs) (y :: ys) == DL (x :: xs) ys + y.cnt) || Op.bytesLess (zDP x) (zDP y))) = c
   cases c with
   | true => exact zDb k (i + 1) j xs (y :: ys)
   | false => exact zDb k i (j + 1) (x :: xs) ys
end Go.Proofs.YtgfneloodabafaaGreatDoor
namespace Go.Proofs.YtgfneloodabafaaGreatDoor
open Go.Abs
abbrev Cf:=List Int × Int × Int × List Nd × List Nd
def rowK (l : List Nd) : Nd:=.mk 1 [] 0 l
def cutK (l : List Nd) (p q : Nat) : List Nd:=(l.take q).drop p
def parK (l : List (Nat × Nat)) (i : Nat) : Option Nat:=(l.find? fun u => u.1 == i).map (·.2)
def zCy (a b : List Nd) : List (Nat × Nat):=zBJ (a.length + b.length + 1) 0 0 a b
def zSO (n : Nat) (px py : List (Nat × Nat)) : List (Nat × Nat × Nat):=(List.range n).filterMap fun i => (parK px i).bind fun p => (parK py i).map fun q => (i,p,q)
def zPJ (side : Int) (b x y : List Nd) : List Nd:=if side = 0 then b else if side = 1 then x else y
open Classical in
noncomputable def zEJ (side : Int) (path : List Int) (i : Nat) (b x y : List Nd) : List Nd × List Cf :=
 if x = b then (y,[]) else if y = b ∨ y = x then (x,[]) else (zPJ side b x y,[(path,(i : Int),(i : Int) + b.length,x,y)])
def appK (u v : List Nd × List Cf) : List Nd × List Cf:=(u.1 ++ v.1,u.2 ++ v.2)
abbrev RowF:=List Int → List Nd → List Nd → List Nd → List Nd × List Cf
noncomputable def zBW (F : RowF) (path : List Int) (i : Nat) : Nat → List Nd → List Nd → List Nd → List Nd × List Cf
 | s,b :: bs,x :: xs,y :: ys => let r:=F (path ++ [(i : Int),(s : Int)]) b.kids x.kids y.kids; let t:=zBW F path i (s + 1) bs xs ys; (rowK r.1 :: t.1,r.2 ++ t.2)
 | _,_,_,_ => ([],[])
noncomputable def zFQ (F : RowF) (side : Int) (path : List Int) (i : Nat) (b x y : Nd) : List Nd × List Cf :=
 let go:=fun t => let r:=zBW F path i 0 b.kids x.kids y.kids; ([Nd.mk b.kind t b.cols r.1],r.2)
 if x.text = b.text then go y.text else if y.text = b.text ∨ y.text = x.text then go x.text else (zPJ side [b] [x] [y],[(path,(i : Int),(i : Int) + 1,[x],[y])])
noncomputable def zFi (F : RowF) (side : Int) (path : List Int) (b x y : List Nd) : Nat → Nat → Nat → List (Nat × Nat × Nat) → List Nd × List Cf
 | i,j,k,[] => zEJ side path i (b.drop i) (x.drop j) (y.drop k)
 | i,j,k,(n,p,q) :: r => appK (zEJ side path i (cutK b i n) (cutK x j p) (cutK y k q)) (appK (zFQ F side path n (b.getD n (rowK [])) (x.getD p (rowK [])) (y.getD q (rowK []))) (zFi F side path b x y (n + 1) (p + 1) (q + 1) r))
noncomputable def rowM : Nat → Int → RowF
 | 0,_,_,_,_,_ => ([],[])
 | N + 1,side,path,b,x,y => zFi (rowM N side) side path b x y 0 0 0 (zSO b.length (zCy b x) (zCy b y))
end Go.Proofs.YtgfneloodabafaaGreatDoor
namespace Go.Proofs.YtgfneloodabafaaGreatDoor
open Go.Abs
def parZ (l : List (Nat × Nat)) (i : Nat) : Int:=match parK l i with | some q => (q : Int) | none => -1
theorem zOK (base : List Nd) (hl : base.length ≤ 1073741824) : ∀ (k i : Nat),base.length - i < k → i ≤ base.length →
  zBu base k (i : Int) (List.replicate i (-1) ++ List.replicate (base.length - i) 0) = some (List.replicate base.length (-1))
 | 0,i,h,_ => by omega
 | k + 1,i,h,hi => by
  unfold zBu
  simp only [List.length_replicate,Int.toNat_natCast]
  by_cases hj : i < base.length
  ·have hlen : i < (List.replicate i (-1 : Int) ++ List.replicate (base.length - i) 0).length:=by simp; omega
   have hset : (List.replicate i (-1 : Int) ++ List.replicate (base.length - i) 0).set i (-1) = List.replicate (i + 1) (-1) ++ List.replicate (base.length - (i + 1)) 0:=by
    rw [List.set_append_right _ _ (by simp)]
    rw [List.length_replicate,Nat.sub_self,show base.length - i = base.length - (i + 1) + 1 by omega,List.replicate_succ,List.set_cons_zero,List.replicate_succ',List.append_assoc]
    rfl
   rw [zBi (Int.ofNat_lt.2 hj),cond_true,zBA hlen]
   simp only [Option.bind_some]
   rw [hset,zAM (by omega),zOK base hl k (i + 1) (by omega) (by omega)]
  ·obtain rfl : i = base.length:=by omega
   rw [zA8 (by omega),cond_false,Nat.sub_self]
   simp
def vecK (len : Nat) (l : List (Nat × Nat)) : List Int:=(List.range len).map (parZ l)
theorem zRV {l : List (Nat × Nat)} {u : Nat × Nat} (h : ∀ v ∈ l,v.1 < u.1) (i : Nat) : parZ (l ++ [u]) i = if u.1 = i then (u.2 : Int) else parZ l i:=by
 unfold parZ parK
 rw [List.find?_append]
 by_cases hi : u.1 = i
 ·have : l.find? (fun v => v.1 == i) = none:=List.find?_eq_none.2 fun v hv => by
   have:=h v hv
   simp
   omega
  rw [this,if_pos hi]
  simp [hi]
 ·rw [if_neg hi]
  have : [u].find? (fun v => v.1 == i) = none:=List.find?_eq_none.2 fun v hv => by
   rw [List.mem_singleton.1 hv]
   simpa using hi
  rw [this,Option.or_none]
theorem zTl {len : Nat} {l : List (Nat × Nat)} {u : Nat × Nat} (h : ∀ v ∈ l,v.1 < u.1) : vecK len (l ++ [u]) = (vecK len l).set u.1 (u.2 : Int):=by
 apply List.ext_getElem
 ·simp [vecK]
 ·intro i h1 h2
  rw [List.getElem_set]
  simp only [vecK,List.getElem_map,List.getElem_range,zRV h]
theorem zTO (len : Nat) : vecK len [] = List.replicate len (-1):=by
 apply List.ext_getElem
 ·simp [vecK]
 ·intro i h1 h2
  simp [vecK,parZ,parK]
theorem zOL {L : List (Nat × Nat)} {len : Nat} (hs : L.Pairwise fun u v => u.1 < v.1 ∧ u.2 < v.2) (hb : ∀ u ∈ L,u.1 < len) (hl : L.length ≤ 1073741824) : ∀ (k s : Nat),L.length - s < k → s ≤ L.length →
  zBv (L.map zE5) k (s : Int) (vecK len (L.take s)) = some (vecK len L)
 | 0,s,h,_ => by omega
 | k + 1,s,h,hi => by
  unfold zBv
  rw [List.length_map]
  by_cases hj : s < L.length
  ·have hm : at? (L.map zE5) (s : Int) = some (zE5 L[s]):=zLR zE5 hj
   have hlt:=hb _ (List.getElem_mem hj)
   have hsn : ∀ v ∈ L.take s,v.1 < (L[s]).1:=fun v hv => by
    obtain ⟨i,hi',rfl⟩:=List.getElem_of_mem hv
    rw [List.length_take] at hi'
    rw [List.getElem_take]
    exact (List.pairwise_iff_getElem.1 hs i s (by omega) hj (by omega)).1
   have hset:=zTl (len:=len) hsn
   rw [List.take_append_getElem hj] at hset
   have hlen : (L[s]).1 < (vecK len (L.take s)).length:=by simpa [vecK] using hlt
   rw [zBi (Int.ofNat_lt.2 hj),cond_true,hm]
   generalize L[s] = u at *
   simp only [Option.bind_some,zE5,zBA hlen,Int.toNat_natCast]
   rw [← hset,zAM (by omega),zOL hs hb hl k (s + 1) (by omega) (by omega)]
  ·rw [zA8 (by omega),cond_false,List.take_of_length_le (by omega)]
theorem zE4 : ∀ (k k' i j : Nat) (a b : List Nd),a.length + b.length < k → a.length + b.length < k' → zBJ k i j a b = zBJ k' i j a b
 | 0,_,_,_,_,_,h,_ => by omega
 | _ + 1,0,_,_,_,_,_,h => by omega
 | k + 1,k' + 1,i,j,[],b,_,_ => by unfold zBJ; rfl
 | k + 1,k' + 1,i,j,x :: xs,[],_,_ => by unfold zBJ; rfl
 | k + 1,k' + 1,i,j,x :: xs,y :: ys,h,h' => by
  simp only [List.length_cons] at h h'
  unfold zBJ
  rw [zE4 k k' (i + 1) (j + 1) xs ys (by omega) (by omega),zE4 k k' (i + 1) j xs (y :: ys) (by simp only [List.length_cons]; omega) (by simp only [List.length_cons]; omega),zE4 k k' i (j + 1) (x :: xs) ys (by simp only [List.length_cons]; omega) (by simp only [List.length_cons]; omega)]
theorem zS0 {a b : List Nd} {u : Nat × Nat} (h : u ∈ zCy a b) : u.1 < a.length ∧ u.2 < b.length:=by
 obtain ⟨s,t,x,y,rfl,h1,h2,_⟩:=zFI _ _ _ _ _ _ h
 have:=(List.getElem?_eq_some_iff.1 h1).1
 have:=(List.getElem?_eq_some_iff.1 h2).1
 dsimp only
 omega
theorem partners_eq (n : Nat) (b x : List Nd) (h : 4 * Nd.ws b + 4 * Nd.ws x + 200 < n) (hb : Nd.ws b ≤ 15999999) (hx : Nd.ws x ≤ 15999999) (cb : Nd.cnts b ≤ 110) (cx : Nd.cnts x ≤ 110) (rb : (rowK b).rng) (rx : (rowK x).rng) (vb : zBG (rowK b) = true) (vx : zBG (rowK x) = true) :
  zCd n b x = some (vecK b.length (zCy b x)):=by
 have lb:=Nd.ws_len b
 have lx:=Nd.ws_len x
 have wb : (rowK b).w = Nd.ws b + 1:=by simp [rowK,Nd.w]
 have wx : (rowK x).w = Nd.ws x + 1:=by simp [rowK,Nd.w]
 have kb : (rowK b).cnt = Nd.cnts b + 1:=by simp [rowK,Nd.cnt]
 have kx : (rowK x).cnt = Nd.cnts x + 1:=by simp [rowK,Nd.cnt]
 have e:=zSw n (rowK b) (rowK x) (by omega) (by omega) (by omega) (by omega) (by omega) rb rx
 rw [vb,vx] at e
 have hf : zBJ n 0 0 (rowK b).kids (rowK x).kids = zCy b x:=zE4 _ _ _ _ _ _ (by show b.length + x.length < n; omega) (by show b.length + x.length < _; omega)
 rw [hf] at e
 have hlen:=zEO (b.length + x.length + 1) 0 0 b x
 have e1:=zOK b (by omega) n 0 (by omega) (by omega)
 rw [show ((0 : Nat) : Int) = 0 from rfl,Nat.sub_zero,List.replicate_zero,List.nil_append] at e1
 have e2:=zOL (L:=zCy b x) (len:=b.length) (zDb _ _ _ _ _) (fun u hu => (zS0 hu).1) (by unfold zCy; omega) n 0 (by unfold zCy; omega) (Nat.zero_le _)
 rw [show ((0 : Nat) : Int) = 0 from rfl,List.take_zero,zTO] at e2
 unfold rowK at e
 unfold zCd
 simp only [e,Bool.and_self,cond_true,Option.bind_some]
 rw [zBl ⟨by omega,by omega⟩,Int.toNat_natCast,e1]
 simp only [Option.bind_some,e2]
end Go.Proofs.YtgfneloodabafaaGreatDoor
namespace Go.Proofs.YtgfneloodabafaaGreatDoor
open Go.Abs
theorem zLK {l : List Nd} (hb : Nd.cnts l ≤ 16777216) : ∀ (k i : Nat),l.length - i < k → i ≤ l.length → zB9 l k (i : Int) (l.take i) = some l
 | 0,i,h,_ => by omega
 | k + 1,i,h,hi => by
  have hlen:=Nd.cnts_len l
  unfold zB9
  by_cases hj : i < l.length
  ·have hm:=Nd.cnts_mem (List.getElem_mem hj)
   have hd : zHJ l[i] = some l[i]:=zBl (by omega)
   have ht : l.take i ++ [l[i]] = l.take (i + 1):=by rw [List.take_append_getElem hj]
   rw [zBi (Int.ofNat_lt.2 hj),cond_true,zBA hj]
   have ih:=zLK hb k (i + 1) (by omega) (by omega)
   rw [← ht] at ih
   generalize l[i] = v at *
   obtain ⟨v1,v2,v3,v4⟩:=v
   simp only [Option.bind_some,hd]
   rw [zBl (by simp only [List.length_take,List.length_cons,List.length_nil]; omega),zAM (show i < 9223372036854775807 by omega),ih]
  ·rw [zA8 (by omega),cond_false,List.take_of_length_le (by omega)]
theorem zIe (n : Nat) (l : List Nd) (hn : Nd.cnts l < n) (hb : Nd.cnts l ≤ 16777216) : zBQ n l = some l:=by
 have hlen:=Nd.cnts_len l
 have h:=zLK hb n 0 (by omega) (by omega)
 rw [show ((0 : Nat) : Int) = 0 from rfl,List.take_zero] at h
 unfold zBQ
 simp only [h,Option.bind_some]
theorem zSI (l : List Int) (h : l.length ≤ 4294967296) : zE9 l = some l:=by
 have : zDC l = some l:=zBl h
 unfold zE9
 simp only [this,Option.bind_some]
theorem same_eq (n : Nat) (a b : List Nd) (h : 2 * Nd.cnts a + 1 < n) (hc : Nd.cnts a ≤ 67108864) : ∃ r,zC3 n a b = some r ∧ (r = true ↔ a = b):=by
 obtain ⟨r,h1,h2⟩:=(zIk n).2 a b h hc
 exact ⟨r,by unfold zC3; simp only [h1,Option.bind_some],h2⟩
theorem zKk (n : Nat) (side : Int) (cs : List Cf) (path : List Int) (i : Nat) (b x y : List Nd) (hs : side = 0 ∨ side = 1 ∨ side = 2) (hn : Nd.cnts b + Nd.cnts x + Nd.cnts y < n) (hc : Nd.cnts b + Nd.cnts x + Nd.cnts y ≤ 16777216) (hp : path.length ≤ 1000000) (hi : i ≤ 1000000) (hl : cs.length ≤ 1000000) :
  zBm n (side,cs) path (i : Int) (b,x,y) = some (zPJ side b x y,(side,cs ++ [(path,(i : Int),(i : Int) + b.length,x,y)])):=by
 have lb:=Nd.cnts_len b
 have e0:=zIe n b (by omega) (by omega)
 have e1:=zIe n x (by omega) (by omega)
 have e2:=zIe n y (by omega) (by omega)
 unfold zBm
 simp only [zSI path (by omega),e0,e1,e2,Option.bind_some]
 rw [zBl (by simp only [List.length_cons,List.length_nil]; omega),wrap64_in (n:=(i : Int) + (b.length : Int)) (by omega) (by omega)]
 rcases hs with rfl | rfl | rfl <;> rfl
theorem zRX (n : Nat) (side : Int) (cs : List Cf) (path : List Int) (i : Nat) (b x y : List Nd) (hs : side = 0 ∨ side = 1 ∨ side = 2) (hn : 2 * Nd.cnts b + 2 * Nd.cnts x + 2 * Nd.cnts y + 10 < n) (hc : Nd.cnts b + Nd.cnts x + Nd.cnts y ≤ 16777216) (hp : path.length ≤ 1000000) (hi : i ≤ 1000000) (hl : cs.length ≤ 1000000) :
  zBs n (side,cs) path (i : Int) (b,x,y) = some ((zEJ side path i b x y).1,(side,cs ++ (zEJ side path i b x y).2)):=by
 have e1:=zIe n x (by omega) (by omega)
 have e2:=zIe n y (by omega) (by omega)
 have ec:=zKk n side cs path i b x y hs (by omega) hc hp hi hl
 obtain ⟨r1,h1,g1⟩:=same_eq n x b (by omega) (by omega)
 obtain ⟨r2,h2,g2⟩:=same_eq n y b (by omega) (by omega)
 obtain ⟨r3,h3,g3⟩:=same_eq n y x (by omega) (by omega)
 unfold zBs zEJ
 simp only [h1,h2,h3,e1,e2,Option.bind_some]
 cases r1 with
 | true => rw [if_pos (g1.1 rfl),List.append_nil]; rfl
 | false =>
  rw [if_neg fun h => by have:=g1.2 h; cases this]
  simp only [cond_false]
  cases r2 with
  | true => rw [if_pos (.inl (g2.1 rfl)),List.append_nil]; rfl
  | false =>
   cases r3 with
   | true => rw [if_pos (.inr (g3.1 rfl)),List.append_nil]; rfl
   | false =>
    rw [if_neg fun h => h.elim (fun h => by have:=g2.2 h; cases this) fun h => by have:=g3.2 h; cases this]
    simp only [cond_false,Option.bind_some,ec]
end Go.Proofs.YtgfneloodabafaaGreatDoor
namespace Go.Proofs.YtgfneloodabafaaGreatDoor
open Go.Abs
theorem zGD (l : List Nd) (q : Nat) : Nd.cnts l = Nd.cnts (l.take q) + Nd.cnts (l.drop q):=by
 have:=Nd.cnts_append (l.take q) (l.drop q)
 rwa [List.take_append_drop] at this
theorem zSH {l : List Nd} {p q : Nat} (h : p ≤ q) : l.drop p = cutK l p q ++ l.drop q:=by
 unfold cutK
 rw [List.drop_take]
 have : l.drop q = (l.drop p).drop (q - p):=by rw [List.drop_drop]; congr 1; omega
 rw [this,List.take_append_drop]
theorem zDd {l : List Nd} {q : Nat} {v : Nd} (h : l[q]? = some v) : l.drop q = v :: l.drop (q + 1):=by
 obtain ⟨h1,rfl⟩:=List.getElem?_eq_some_iff.1 h
 exact List.drop_eq_getElem_cons h1
theorem zMF {l : List Nd} {p q : Nat} {v : Nd} (h : p ≤ q) (g : l[q]? = some v) : l.drop p = cutK l p q ++ v :: l.drop (q + 1):=by rw [zSH h,zDd g]
theorem zGY (l : List Nd) (p q : Nat) : Nd.cnts (cutK l p q) ≤ Nd.cnts l:=by
 have h1:=zGD l q
 have h2:=zGD (l.take q) p
 unfold cutK
 omega
theorem zEB {l : List Nd} {q : Nat} {v d : Nd} (h : l[q]? = some v) : l.getD q d = v:=by
 rw [List.getD_eq_getElem?_getD,h]; rfl
theorem zG3 {l : List (Nat × Nat)} {i p : Nat} (h : parK l i = some p) : (i,p) ∈ l:=by
 unfold parK at h
 cases e : l.find? (fun u => u.1 == i) with
 | none => rw [e] at h; cases h
 | some u =>
  rw [e] at h
  obtain rfl:=Option.some.inj h
  have h1:=List.find?_some e
  have h2:=List.mem_of_find?_eq_some e
  have h3 : u.1 = i:=eq_of_beq h1
  rw [← h3]; exact h2
theorem zPI : ∀ {l : List (Nat × Nat)},(l.Pairwise fun u v => u.1 < v.1 ∧ u.2 < v.2) → ∀ {u v : Nat × Nat},u ∈ l → v ∈ l → u.1 < v.1 → u.2 < v.2
 | [],_,_,_,h,_,_ => by cases h
 | w :: l,h,u,v,hu,hv,huv => by
  obtain ⟨h1,h2⟩:=List.pairwise_cons.1 h
  rcases List.mem_cons.1 hu with eu | hu'
  ·rcases List.mem_cons.1 hv with ev | hv'
   ·subst eu; subst ev; omega
   ·subst eu; exact (h1 v hv').2
  ·rcases List.mem_cons.1 hv with ev | hv'
   ·subst ev; have:=h1 u hu'; omega
   ·exact zPI h2 hu' hv' huv
def KO (b x y : List Nd) (i j k : Nat) (T : List (Nat × Nat × Nat)) : Prop :=
 (T.Pairwise fun u v => u.1 < v.1 ∧ u.2.1 < v.2.1 ∧ u.2.2 < v.2.2) ∧
 ∀ u ∈ T,i ≤ u.1 ∧ j ≤ u.2.1 ∧ k ≤ u.2.2 ∧ ∃ v w z,b[u.1]? = some v ∧ x[u.2.1]? = some w ∧ y[u.2.2]? = some z ∧ zBH v w = true ∧ zBH v z = true
theorem KO.tail {b x y : List Nd} {i j k n p q : Nat} {T : List (Nat × Nat × Nat)} (h : KO b x y i j k ((n,p,q) :: T)) : KO b x y (n + 1) (p + 1) (q + 1) T:=by
 obtain ⟨h1,h2⟩:=List.pairwise_cons.1 h.1
 refine ⟨h2,fun u hu => ?_⟩
 obtain ⟨_,_,_,h4⟩:=h.2 u (List.mem_cons_of_mem _ hu)
 have:=h1 u hu
 dsimp only at this
 exact ⟨by omega,by omega,by omega,h4⟩
theorem KO.head {b x y : List Nd} {i j k n p q : Nat} {T : List (Nat × Nat × Nat)} (h : KO b x y i j k ((n,p,q) :: T)) :
  i ≤ n ∧ j ≤ p ∧ k ≤ q ∧ ∃ v w z,b[n]? = some v ∧ x[p]? = some w ∧ y[q]? = some z ∧ zBH v w = true ∧ zBH v z = true:=h.2 _ List.mem_cons_self
def gK (px py : List (Nat × Nat)) (i : Nat) : Option (Nat × Nat × Nat):=(parK px i).bind fun p => (parK py i).map fun q => (i,p,q)
def zF0 (len : Nat) (px py : List (Nat × Nat)) (n : Nat) : List (Nat × Nat × Nat):=(List.range' n (len - n)).filterMap (gK px py)
theorem zIJ (n : Nat) (px py : List (Nat × Nat)) : zSO n px py = zF0 n px py 0:=by
 unfold zSO zF0
 rw [List.range_eq_range']
 rfl
theorem zKq {px py : List (Nat × Nat)} {i : Nat} {u : Nat × Nat × Nat} (h : gK px py i = some u) : u.1 = i ∧ parK px i = some u.2.1 ∧ parK py i = some u.2.2:=by
 unfold gK at h
 cases e1 : parK px i with
 | none => rw [e1] at h; cases h
 | some p =>
  cases e2 : parK py i with
  | none => rw [e1,e2] at h; cases h
  | some q =>
   rw [e1,e2] at h
   obtain rfl:=Option.some.inj h
   exact ⟨rfl,rfl,rfl⟩
theorem zOJ {a b : List Nd} {p q : Nat} (h : (p,q) ∈ zCy a b) : ∃ x y,a[p]? = some x ∧ b[q]? = some y ∧ zBH x y = true:=by
 obtain ⟨s,t,x,y,e,h1,h2,h3⟩:=zFI _ _ _ _ _ _ h
 have e1:=(Prod.mk.inj e).1
 have e2:=(Prod.mk.inj e).2
 rw [Nat.zero_add] at e1 e2
 subst e1 e2
 exact ⟨x,y,h1,h2,h3⟩
theorem zPN (b x y : List Nd) (n : Nat) : KO b x y 0 0 0 (zF0 b.length (zCy b x) (zCy b y) n):=by
 constructor
 ·refine List.pairwise_filterMap.2 ((List.pairwise_lt_range' (s:=n) (n:=b.length - n)).imp fun {i i'} hii u hu v hv => ?_)
  obtain ⟨rfl,h1,h2⟩:=zKq hu
  obtain ⟨rfl,h3,h4⟩:=zKq hv
  have a1:=zPI (l:=zCy b x) (zDb _ _ _ _ _) (zG3 h1) (zG3 h3) hii
  have a2:=zPI (l:=zCy b y) (zDb _ _ _ _ _) (zG3 h2) (zG3 h4) hii
  exact ⟨hii,a1,a2⟩
 ·intro u hu
  obtain ⟨i,_,hi⟩:=List.mem_filterMap.1 hu
  obtain ⟨rfl,h1,h2⟩:=zKq hi
  obtain ⟨v,w,g1,g2,g3⟩:=zOJ (zG3 h1)
  obtain ⟨v',z,g4,g5,g6⟩:=zOJ (zG3 h2)
  rw [g1] at g4
  obtain rfl:=Option.some.inj g4
  exact ⟨Nat.zero_le _,Nat.zero_le _,Nat.zero_le _,v,w,z,g1,g2,g5,g3,g6⟩
theorem zRC (b x y : List Nd) : KO b x y 0 0 0 (zSO b.length (zCy b x) (zCy b y)):=by rw [zIJ]; exact zPN b x y 0
theorem Nd.w_eq (v : Nd) : v.w = v.text.length + Nd.ws v.kids + 1:=by cases v; rfl
theorem zRZ (side : Int) (b x y : List Nd) : Nd.ws (zPJ side b x y) ≤ Nd.ws b + Nd.ws x + Nd.ws y:=by
 unfold zPJ
 repeat' split
 all_goals omega
theorem zRY (side : Int) (path : List Int) (i : Nat) (b x y : List Nd) : Nd.ws (zEJ side path i b x y).1 ≤ Nd.ws b + Nd.ws x + Nd.ws y:=by
 unfold zEJ
 repeat' split
 ·dsimp only; omega
 ·dsimp only; omega
 ·exact zRZ ..
theorem zQt {F : RowF} (hF : ∀ p b x y,Nd.ws (F p b x y).1 ≤ Nd.ws b + Nd.ws x + Nd.ws y) (path : List Int) (i : Nat) : ∀ (s : Nat) (b x y : List Nd),Nd.ws (zBW F path i s b x y).1 ≤ Nd.ws b + Nd.ws x + Nd.ws y
 | s,b :: bs,x :: xs,y :: ys => by
  have h1:=hF (path ++ [(i : Int),(s : Int)]) b.kids x.kids y.kids
  have h2:=zQt hF path i (s + 1) bs xs ys
  have e1:=b.w_eq
  have e2:=x.w_eq
  have e3:=y.w_eq
  simp only [zBW,Nd.ws,rowK,Nd.w,List.length_nil]
  omega
 | s,[],x,y => by simp only [zBW,Nd.ws]; omega
 | s,b :: bs,[],y => by simp only [zBW,Nd.ws]; omega
 | s,b :: bs,x :: xs,[] => by simp only [zBW,Nd.ws]; omega
theorem zTD {F : RowF} (hF : ∀ p b x y,Nd.ws (F p b x y).1 ≤ Nd.ws b + Nd.ws x + Nd.ws y) (side : Int) (path : List Int) (i : Nat) (b x y : Nd) : Nd.ws (zFQ F side path i b x y).1 ≤ b.w + x.w + y.w + 3:=by
 have h:=zQt hF path i 0 b.kids x.kids y.kids
 have e1:=b.w_eq
 have e2:=x.w_eq
 have e3:=y.w_eq
 have h2:=zRZ side [b] [x] [y]
 unfold zFQ
 split
 ·simp only [Nd.ws,Nd.w]; omega
 ·split
  ·simp only [Nd.ws,Nd.w]; omega
  ·simp only [Nd.ws] at h2 ⊢; omega
theorem zSu {F : RowF} (hF : ∀ p b x y,Nd.ws (F p b x y).1 ≤ Nd.ws b + Nd.ws x + Nd.ws y) (side : Int) (path : List Int) (b x y : List Nd) : ∀ (T : List (Nat × Nat × Nat)) (i j k : Nat),KO b x y i j k T → Nd.ws (zFi F side path b x y i j k T).1 ≤ Nd.ws (b.drop i) + Nd.ws (x.drop j) + Nd.ws (y.drop k)
 | [],i,j,k,h => by unfold zFi; exact zRY ..
 | (n,p,q) :: T,i,j,k,h => by
  obtain ⟨h1,h2,h3,v,w,z,g1,g2,g3,g4,g5⟩:=h.head
  have ih:=zSu hF side path b x y T (n + 1) (p + 1) (q + 1) h.tail
  have hp:=zRY side path i (cutK b i n) (cutK x j p) (cutK y k q)
  have hi:=zTD hF side path n v w z
  rw [zMF h1 g1,zMF h2 g2,zMF h3 g3]
  unfold zFi appK
  rw [zEB g1,zEB g2,zEB g3]
  simp only [Nd.ws_append,Nd.ws]
  omega
theorem zMc (side : Int) : ∀ (N : Nat) (p : List Int) (b x y : List Nd),Nd.ws (rowM N side p b x y).1 ≤ Nd.ws b + Nd.ws x + Nd.ws y
 | 0,p,b,x,y => by unfold rowM; exact Nat.zero_le _
 | N + 1,p,b,x,y => by
  have:=zSu (zMc side N) side p b x y _ 0 0 0 (zRC b x y)
  unfold rowM
  exact this
theorem zRW (side : Int) (path : List Int) (i : Nat) (b x y : List Nd) : (zEJ side path i b x y).2.length ≤ 1:=by
 unfold zEJ
 repeat' split
 all_goals simp
theorem zQs {F : RowF} (hF : ∀ p b x y,(F p b x y).2.length ≤ 2 * Nd.cnts b + 1) (path : List Int) (i : Nat) : ∀ (s : Nat) (b x y : List Nd),(zBW F path i s b x y).2.length ≤ 2 * Nd.cnts b
 | s,b :: bs,x :: xs,y :: ys => by
  have h1:=hF (path ++ [(i : Int),(s : Int)]) b.kids x.kids y.kids
  have h2:=zQs hF path i (s + 1) bs xs ys
  have e1:=b.cnt_kids
  simp only [zBW,Nd.cnts,List.length_append]
  omega
 | s,[],x,y => by simp only [zBW,List.length_nil]; omega
 | s,b :: bs,[],y => by simp only [zBW,List.length_nil]; omega
 | s,b :: bs,x :: xs,[] => by simp only [zBW,List.length_nil]; omega
theorem zTC {F : RowF} (hF : ∀ p b x y,(F p b x y).2.length ≤ 2 * Nd.cnts b + 1) (side : Int) (path : List Int) (i : Nat) (b x y : Nd) : (zFQ F side path i b x y).2.length + 1 ≤ 2 * b.cnt:=by
 have h:=zQs hF path i 0 b.kids x.kids y.kids
 have e1:=b.cnt_kids
 unfold zFQ
 repeat' split
 ·dsimp only; omega
 ·dsimp only; omega
 ·simp only [List.length_cons,List.length_nil]; omega
theorem zSt {F : RowF} (hF : ∀ p b x y,(F p b x y).2.length ≤ 2 * Nd.cnts b + 1) (side : Int) (path : List Int) (b x y : List Nd) : ∀ (T : List (Nat × Nat × Nat)) (i j k : Nat),KO b x y i j k T → (zFi F side path b x y i j k T).2.length ≤ 2 * Nd.cnts (b.drop i) + 1
 | [],i,j,k,h => by have:=zRW side path i (b.drop i) (x.drop j) (y.drop k); unfold zFi; omega
 | (n,p,q) :: T,i,j,k,h => by
  obtain ⟨h1,h2,h3,v,w,z,g1,g2,g3,g4,g5⟩:=h.head
  have ih:=zSt hF side path b x y T (n + 1) (p + 1) (q + 1) h.tail
  have hp:=zRW side path i (cutK b i n) (cutK x j p) (cutK y k q)
  have hi:=zTC hF side path n v w z
  rw [zMF h1 g1]
  unfold zFi appK
  rw [zEB g1,zEB g2,zEB g3]
  simp only [Nd.cnts_append,Nd.cnts,List.length_append]
  omega
theorem zSc (side : Int) : ∀ (N : Nat) (p : List Int) (b x y : List Nd),(rowM N side p b x y).2.length ≤ 2 * Nd.cnts b + 1
 | 0,p,b,x,y => by unfold rowM; exact Nat.zero_le _
 | N + 1,p,b,x,y => by
  have:=zSt (zSc side N) side p b x y _ 0 0 0 (zRC b x y)
  unfold rowM
  exact this
def okR (b : List Nd) : Prop:=zBG (rowK b) = true ∧ (rowK b).rng
theorem okR.sub {b : List Nd} {v u : Nd} (h : okR b) (hv : v ∈ b) (hu : u ∈ v.kids) : okR u.kids ∧ u = rowK u.kids:=by
 obtain ⟨h1,h2⟩:=h
 unfold zBG at h1
 simp only [Bool.and_eq_true,decide_eq_true_eq] at h1
 obtain ⟨k1,f1,c1,d1⟩:=h1
 have fb : zE8 1 b = true:=(zMK f1 rfl).2
 obtain ⟨f2,k2⟩:=zKo fb hv
 have gv : zE8 v.kind v.kids = true:=by cases v; simp only [zGE,Bool.and_eq_true] at f2; exact f2.2
 obtain ⟨f3,k3⟩:=zKo gv hu
 have kv : v.kind ≠ 1:=fun e => by rw [e] at k2; cases k2
 rw [zGJ kv] at k3
 have ku : u.kind = 1:=by cases e : u.kind == 1 with | true => exact eq_of_beq e | false => rw [e] at k3; cases k3
 obtain ⟨r1,r2⟩:=zMK f3 ku
 have c2:=Nd.cnts_mem hv
 have c3:=Nd.cnts_mem hu
 have e2:=v.cnt_kids
 have cb : (rowK b).cnt = Nd.cnts b + 1:=by simp [rowK,Nd.cnt]
 have db : (rowK b).dep = Nd.deps b + 1:=rfl
 have d2:=zMH hv
 have d3:=zMH hu
 have ev : v.dep = Nd.deps v.kids + 1:=by cases v; rfl
 have eu : rowK u.kids = u:=r1.symm
 refine ⟨⟨?_,?_⟩,r1⟩
 ·rw [eu]
  unfold zBG
  simp only [Bool.and_eq_true,decide_eq_true_eq]
  exact ⟨by rw [ku]; rfl,f3,by omega,by omega⟩
 ·rw [eu]
  have : v.rng:=zG1 h2 (t:=rowK b) hv
  exact zG1 this hu
theorem zLY {t : Nd} (h : zBG t = true) (hr : t.rng) : okR t.kids ∧ t = rowK t.kids:=by
 have e:=(zSs h).1
 have e' : rowK t.kids = t:=e.symm
 exact ⟨⟨by rw [e']; exact h,by rw [e']; exact hr⟩,e⟩
end Go.Proofs.YtgfneloodabafaaGreatDoor
