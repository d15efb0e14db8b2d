/-
  Joined out of: DzVC, DzVD, LibR, DzE, RfA, RfB, RfC, RfD, LibN, RwA.
-/
import Derived.WalkKit
import Derived.Lib.Walk
import Derived.Lib.SliceRun
import Derived.Lib.AppendZerosOnto
import Derived.Shelf.RegionOpenPlain
import Derived.RangeFuncNested
import Derived.RangeFuncLeaves
import Derived.RangeFuncRecord
import Derived.Test.YtjdhkpdjecegnaaGreatDoorZd
set_option linter.unusedVariables false
set_option linter.unusedSimpArgs false
set_option maxHeartbeats 2000000
set_option maxRecDepth 100000
namespace Go.Proofs.YtjdhkpdjecegnaaGreatDoor
open Go.Abs
def zAd (p : (Int × List Int × Int × Int × List Nd × Int × List UInt8 × List UInt8)) : List S:=[.int .i64 p.1,.sl 1 ((List.map (irow .i64)) p.2.1),.int .i64 p.2.2.1,.int .i64 p.2.2.2.1,.sl 4 (Nd.encs p.2.2.2.2.1),.int .i64 p.2.2.2.2.2.1,.str p.2.2.2.2.2.2.1,.str p.2.2.2.2.2.2.2]
def zNH (n : Nat) (xs : List AV) (r : Ret) : Prop:=∃ (a0 : Nd) (a1 : Nd) (y0 : Bool),zDv n a0 a1 = some y0 ∧ xs = [.agg ((Nd.enc a0).map .s),.agg ((Nd.enc a1).map .s)] ∧ r = .val (.s (.bool y0))
def zGe : zAx:=zAG fun xs r => ∃ n,zNH n xs r
theorem zIg : PSound Tryz.prog 22 zGe:=by
 have gok : ∀ f s,look? f [(33,zI1)] = some s → PSound Tryz.prog f s:=zAB (by
  simp only [List.forall_mem_cons]
  exact ⟨zM3,by simp⟩)
 refine zAS tokW Tryz.call22 Tryz.func22 rfl (fun xs r h => by obtain ⟨n,_,_,_,_,rfl,_⟩:=h; show 2 ≤ 11; decide) 11 rfl ?_;rintro xs r w0 G0 ⟨n,⟨a1_kind,a1_text,a1_cols,a1_kids⟩,⟨b2_kind,b2_text,b2_cols,b2_kids⟩,y0,h,rfl,rfl⟩ _;rw [zDv] at h;refine zAa ?_;refine zAb [] [] rfl ?_;show Tri _ _ _ _;refine zAa ?_;obtain ⟨x3,hj,h⟩:=zAc h;refine zAp ⟨ofL [(4,.s (.bool x3))],fun _ => none,0⟩ ?_ (fun σ' hle => ?_)
 ·replace h:=hj;refine zAb [] [7] rfl ?_;obtain ⟨y4,hy4,h⟩:=zAc h;refine ⟨_,⟨_,_,_,hy4,rfl,rfl⟩,?_⟩
  intro b hb;cases b with
  | true =>
   replace h:=zAr hb.symm h;obtain ⟨y5,hy5,h⟩:=zAc h;refine ⟨_,⟨_,_,_,hy5,rfl,rfl⟩,?_⟩
   cases h;exact (Le.forget _ ⟨rfl,trivial⟩)
  | false =>
   replace h:=zAq hb.symm h;cases h;exact (Le.forget _ ⟨rfl,trivial⟩)
 ·show Tri _ _ _ _;refine zAm hle ?_;refine zAv ?_;have hy:=Option.some.inj h;subst hy;unfold zAO;exact ⟨_,Le.refl _ _,rfl,rfl⟩
def zPu (n : Nat) (xs : List AV) (r : Ret) : Prop:=∃ (a0 : Nd) (a1 : Nd) (y0 : Int) (y1 : Int),zHw n a0 a1 = some (y0,y1) ∧ xs = [.agg ((Nd.enc a0).map .s),.agg ((Nd.enc a1).map .s)] ∧ r = .val (.tup [.s (.int .i64 y0),.s (.int .i64 y1)])
def zJ0 : zAx:=zAG fun xs r => ∃ n,zPu n xs r
theorem zOG : PSound Tryz.prog 14 zJ0:=by
 have gok : ∀ f s,look? f [(22,zGe),(37,zHl)] = some s → PSound Tryz.prog f s:=zAB (by
  simp only [List.forall_mem_cons]
  exact ⟨zIg,zJk,by simp⟩)
 refine zAS tokW Tryz.call14 Tryz.func14 rfl (fun xs r h => by obtain ⟨n,_,_,_,_,_,rfl,_⟩:=h; show 2 ≤ 20; decide) 20 rfl ?_;rintro xs r w0 G0 ⟨n,⟨a1_kind,a1_text,a1_cols,a1_kids⟩,⟨b2_kind,b2_text,b2_cols,b2_kids⟩,y0,y1,h,rfl,rfl⟩ _;rw [zHw] at h;refine zAa ?_;refine zAb [] [] rfl ?_;show Tri _ _ _ _;refine zAa ?_;refine zAa ?_;refine zAb [] [] rfl ?_;obtain ⟨y3,hy3,h⟩:=zAc h;refine ⟨_,⟨_,_,_,_,hy3,rfl,rfl⟩,?_⟩
 show Tri _ _ _ _;refine zAe rfl (fun hb => ?_) (fun hb => ?_)
 ·replace h:=zAr hb h;refine zAa ?_;refine zAb [] [] rfl ?_;show Tri _ _ _ _;refine zAv ?_;obtain ⟨hj1,hk1⟩:=Prod.mk.inj (Option.some.inj h)
  subst hj1;subst hk1;unfold zAO;exact ⟨_,Le.refl _ _,rfl,rfl⟩
 ·replace h:=zAq hb h;refine zAj ?_;show Tri _ _ _ _;refine zAa ?_;refine zAb [] [16,18] rfl ?_;obtain ⟨⟨y4_least,y4_pair,y4_first,y4_other⟩,hy4,h⟩:=zAc h;refine ⟨_,⟨_,_,_,_,hy4,rfl,rfl⟩,?_⟩
  obtain ⟨e5,he5,h⟩:=zAc h;refine And.intro (zAw (fun _ => rfl) he5).1 ?_;intro r6 hr6;obtain rfl : [.sl 1 ((List.map (irow .i64)) e5)] = r6:=(hr6.trans (zAw (fun _ => rfl) he5).2.1).symm;obtain ⟨e7,he7,h⟩:=zAc h;refine And.intro (zAw (fun _ => rfl) he7).1 ?_;intro r8 hr8;obtain rfl : [.int .i64 e7] = r8:=(hr8.trans (zAw (fun _ => rfl) he7).2.1).symm;show Tri _ _ _ _;refine zAv ?_;obtain ⟨hj1,hk1⟩:=Prod.mk.inj (Option.some.inj h)
  subst hj1;subst hk1;unfold zAO;exact ⟨_,Le.refl _ _,rfl,rfl⟩
def zEK (n : Nat) (xs : List AV) (r : Ret) : Prop:=∃ (a0 : Nd) (y0 : Int),zBg n a0 = some y0 ∧ xs = [.agg ((Nd.enc a0).map .s)] ∧ r = .val (.s (.int .i64 y0))
theorem zLx (n : Nat) (ih : PSound Tryz.prog 28 (zAG (zEK n))) : PSound Tryz.prog 28 (zAG (zEK (n + 1))):=by
 have gok : ∀ f s,look? f [(28,zAG (zEK n))] = some s → PSound Tryz.prog f s:=zAB (by
  simp only [List.forall_mem_cons]
  exact ⟨ih,by simp⟩)
 refine zAS tokW Tryz.call28 Tryz.func28 rfl (fun xs r h => by obtain ⟨_,_,_,rfl,_⟩:=h; show 1 ≤ 21; decide) 21 rfl ?_;rintro xs r w0 G0 ⟨⟨n1_kind,n1_text,n1_cols,n1_kids⟩,y0,h,rfl,rfl⟩ _;rw [zBg] at h;refine zAa ?_;refine zAb [] [] rfl ?_;show Tri _ _ _ _;refine zAa ?_;refine zAb [] [] rfl ?_;show Tri _ _ _ _;refine zAa ?_;refine zAa ?_;refine zAb [] [] rfl ?_;show Tri _ _ _ _;obtain ⟨out4,hl,h⟩:=zAc h;refine zAp ⟨ofL [(3,.s (.int .i64 out4))],fun _ => none,0⟩ ?_ (fun σ' hle => ?_)
 ·refine zAk (zAA (X:=Nat × Int × Int) (fun y => match y with | (k,out2,i3) => ⟨ofL [(1,.s (.pt [.int .i64 n1_kind,.str n1_text,.int .i64 n1_cols,.sl 4 (Nd.encs n1_kids)])),(3,.s (.int .i64 out2)),(4,.s (.int .i64 i3))],fun _ => none,0⟩) (fun y => zCb (zBg n) n1_kids y.1 y.2.1 y.2.2 = some out4) (fun y => y.1) (n,1,0) hl ?_ ?_)
  ·exact (Le.forget _ ⟨rfl,rfl,rfl,trivial⟩)
  ·rintro ⟨k,out2,i3⟩ h;cases k with
   | zero => cases h
   | succ k =>
    replace h : zCb (zBg n) n1_kids (k+1) out2 i3 = some out4:=h;rw [zCb] at h;refine zAa ?_;refine zAa ?_;refine zAb [] [8] rfl ?_;intro n5 hn5;obtain rfl : (n1_kids.length : Int) = n5:=(hn5.trans (congrArg (fun m : Nat => (m : Int)) (rlen Nd.encs_eq n1_kids))).symm;show Tri _ _ _ _;refine zAe rfl (fun hb => ?_) (fun hb => ?_)
    ·replace h:=zAr hb h;refine zAj ?_;show Tri _ _ _ _;refine zAa ?_;refine zAk ?_;refine zAb [] [16] rfl ?_;obtain ⟨⟨e6_kind,e6_text,e6_cols,e6_kids⟩,he6,h⟩:=zAc h;refine And.intro (zAw Nd.encs_eq he6).1 ?_;intro r7 hr7;obtain rfl : [.int .i64 e6_kind,.str e6_text,.int .i64 e6_cols,.sl 4 (Nd.encs e6_kids)] = r7:=(hr7.trans (zAw Nd.encs_eq he6).2.1).symm;obtain ⟨y8,hy8,h⟩:=zAc h;refine ⟨_,⟨_,_,hy8,rfl,rfl⟩,?_⟩
     show Tri _ _ _ _;refine zAb [] [] rfl ?_;refine ⟨(k,IntKind.i64.wrap (out2 + y8),IntKind.i64.wrap (i3 + 1)),h,(Le.forget _ ⟨rfl,rfl,rfl,trivial⟩),Nat.lt_succ_self k⟩
    ·replace h:=zAq hb h;refine zAC ?_;cases h;exact (Le.forget _ ⟨rfl,trivial⟩)
 ·show Tri _ _ _ _;refine zAm hle ?_;refine zAa ?_;refine zAb [] [] rfl ?_;show Tri _ _ _ _;refine zAv ?_;have hy:=Option.some.inj h;subst hy;unfold zAO;exact ⟨_,Le.refl _ _,rfl,rfl⟩
theorem zMA : ∀ n,PSound Tryz.prog 28 (zAG (zEK n)):=by
 intro n
 induction n with
 | zero => exact zBw Tryz.call28 (fun xs r h => by obtain ⟨_,_,h,_⟩:=h; cases h)
 | succ n ih => exact zLx n ih
def zFP : zAx:=zAG fun xs r => ∃ n,zEK n xs r
theorem zGy : PSound Tryz.prog 28 zFP:=zB3 zMA
def zPA (xs : List AV) (r : Ret) : Prop:=∃ (a0 : Nd) (a1 : Nd) (y0 : Bool),zCY a0 a1 = some y0 ∧ xs = [.agg ((Nd.enc a0).map .s),.agg ((Nd.enc a1).map .s)] ∧ r = .val (.s (.bool y0))
def zHm : zAx:=zAG fun xs r => zPA xs r
theorem zJl : PSound Tryz.prog 77 zHm:=by
 have gok : ∀ (f : Nat) (s : zAx),(fun _ => none : Nat → Option zAx) f = some s → PSound Tryz.prog f s:=fun _ _ h => by cases h
 refine zAS tokW Tryz.call77 Tryz.func77 rfl (fun xs r h => by obtain ⟨_,_,_,_,rfl,_⟩:=h; show 2 ≤ 26; decide) 26 rfl ?_;rintro xs r w0 G0 ⟨⟨x1_kind,x1_text,x1_cols,x1_kids⟩,⟨y2_kind,y2_text,y2_cols,y2_kids⟩,y0,h,rfl,rfl⟩ _;rw [zCY] at h;refine zAa ?_;refine zAb [] [] rfl ?_;show Tri _ _ _ _;refine zAa ?_;obtain ⟨x3,hj,h⟩:=zAc h;refine zAp ⟨ofL [(4,.s (.bool x3))],fun _ => none,0⟩ ?_ (fun σ' hle => ?_)
 ·replace h:=hj;refine zAb [] [10,13,16,19] rfl ?_;intro b hb;cases b with
  | true =>
   replace h:=zAr hb.symm h;intro n4 hn4;obtain rfl : (x1_kids.length : Int) = n4:=(hn4.trans (congrArg (fun m : Nat => (m : Int)) (rlen Nd.encs_eq x1_kids))).symm;intro n5 hn5;obtain rfl : (y2_kids.length : Int) = n5:=(hn5.trans (congrArg (fun m : Nat => (m : Int)) (rlen Nd.encs_eq y2_kids))).symm;intro b hb;cases b with
   | true =>
    replace h:=zAr hb.symm h;cases h;exact (Le.forget _ ⟨rfl,trivial⟩)
   | false =>
    replace h:=zAq hb.symm h;cases h;exact (Le.forget _ ⟨rfl,trivial⟩)
  | false =>
   replace h:=zAq hb.symm h;intro b hb;subst hb;cases h;exact (Le.forget _ ⟨rfl,trivial⟩)
 ·show Tri _ _ _ _;refine zAm hle ?_;refine zAv ?_;have hy:=Option.some.inj h;subst hy;unfold zAO;exact ⟨_,Le.refl _ _,rfl,rfl⟩
theorem zH8 {l : List Int} {j : Nat} {v : Int} (h : l[j]? = some v) : zJD TW 3 (((l.map (irow .i64)).getD j []).drop 0) = some (.s (.int .i64 v)):=by
 rw [zC1 h]; rfl
theorem zPi {C : Nd → Option Int} : ∀ {ys : List Nd} {r : List Int},zAX C ys = some r → r.length = ys.length + 1
 | [],r,h => by simp only [zAX,Option.some.injEq] at h; subst h; rfl
 | y :: ys,r,h => by
  simp only [zAX] at h;obtain ⟨q,hq,h⟩:=zAc h;obtain ⟨c,hc,h⟩:=zAc h;cases h;simp [zPi hq]
theorem zMk {C : Nd → Option Int} : ∀ {ys : List Nd} {r : List Int},zAX C ys = some r → ∀ j,j ≤ ys.length → ∃ q,zAX C (ys.drop j) = some q
 | ys,r,h,0,_ => ⟨r,h⟩
 | [],_,_,j + 1,hj => by simp at hj
 | y :: ys,r,h,j + 1,hj => by
  simp only [zAX] at h;obtain ⟨q,hq,_⟩:=zAc h;exact zMk hq j (by simpa using hj)
theorem zQQ {C : Nd → Option Int} {A : Nd → Nd → Option Bool} {Q : Nd → Nd → Option Int} {b : List Nd} : ∀ {xs : List Nd} {p : List (List Int)},zAN C A Q b xs = some p → ∃ r,zAX C b = some r
 | [],p,h => by
  simp only [zAN] at h;obtain ⟨r,hr,_⟩:=zAc h;exact ⟨r,hr⟩
 | x :: xs,p,h => by
  simp only [zAN] at h;obtain ⟨q,hq,_⟩:=zAc h;exact zQQ hq
theorem zPk {C : Nd → Option Int} {A : Nd → Nd → Option Bool} {Q : Nd → Nd → Option Int} {b : List Nd} : ∀ {xs : List Nd} {p : List (List Int)},zAN C A Q b xs = some p → p.length = xs.length + 1
 | [],p,h => by
  simp only [zAN] at h;obtain ⟨r,hr,h⟩:=zAc h;cases h; rfl
 | x :: xs,p,h => by
  simp only [zAN] at h;obtain ⟨q,hq,h⟩:=zAc h;obtain ⟨c,hc,h⟩:=zAc h;have:=zPk hq;cases q with
  | nil => cases h
  | cons r1 q =>
   dsimp only at h;obtain ⟨r,hr,h⟩:=zAc h;cases h;simp only [List.length_cons] at this ⊢
   omega
theorem zMl {C : Nd → Option Int} {A : Nd → Nd → Option Bool} {Q : Nd → Nd → Option Int} {b : List Nd} : ∀ {xs : List Nd} {p : List (List Int)},zAN C A Q b xs = some p → ∀ i,i ≤ xs.length → ∃ q,zAN C A Q b (xs.drop i) = some q
 | xs,p,h,0,_ => ⟨p,h⟩
 | [],_,_,i + 1,hi => by simp at hi
 | x :: xs,p,h,i + 1,hi => by
  simp only [zAN] at h;obtain ⟨q,hq,_⟩:=zAc h;exact zMl hq i (by simpa using hi)
theorem zNy {C : Nd → Option Int} {A : Nd → Nd → Option Bool} {Q : Nd → Nd → Option Int} {x : Nd} {cx : Int} : ∀ {ys : List Nd} {vs r : List Int},zAK C A Q x cx ys vs = some r → vs.length = ys.length + 1 ∧ r.length = ys.length + 1
 | [],[v],r,h => by simp only [zAK,Option.some.injEq] at h; subst h; simp
 | y :: ys,v :: v2 :: vs,r,h => by
  simp only [zAK] at h;obtain ⟨q,hq,h⟩:=zAc h;obtain ⟨c,hc,h⟩:=zAc h;obtain ⟨al,hal,h⟩:=zAc h;have:=zNy hq;cases al with
  | false => cases h; simp only [List.length_cons] at this ⊢; omega
  | true =>
   simp only [cond_true] at h;obtain ⟨p,hp,h⟩:=zAc h;cases h; simp only [List.length_cons] at this ⊢; omega
 | [],[],_,h => by simp [zAK] at h
 | [],_ :: _ :: _,_,h => by simp [zAK] at h
 | _ :: _,[],_,h => by simp [zAK] at h
 | _ :: _,[_],_,h => by simp [zAK] at h
theorem zPj {C : Nd → Option Int} {A : Nd → Nd → Option Bool} {Q : Nd → Nd → Option Int} {x : Nd} {cx : Int} : ∀ {ys : List Nd} {vs r : List Int},zAK C A Q x cx ys vs = some r → ∀ j,j ≤ ys.length → ∃ q,zAK C A Q x cx (ys.drop j) (vs.drop j) = some q
 | ys,vs,r,h,0,_ => ⟨r,h⟩
 | y :: ys,v :: v2 :: vs,r,h,j + 1,hj => by
  simp only [zAK] at h;obtain ⟨q,hq,_⟩:=zAc h;exact zPj hq j (by simpa using hj)
 | [],_,_,_,j + 1,hj => by simp at hj
 | _ :: _,[],_,h,_ + 1,_ => by simp [zAK] at h
 | _ :: _,[_],_,h,_ + 1,_ => by simp [zAK] at h
def zEB (n : Nat) (xs : List AV) (r : Ret) : Prop:=∃ (a0 : Nd) (a1 : Nd) (y0 : Int),zB2 n a0 a1 = some y0 ∧ xs = [.agg ((Nd.enc a0).map .s),.agg ((Nd.enc a1).map .s)] ∧ r = .val (.s (.int .i64 y0))
def zDT (n : Nat) (xs : List AV) (r : Ret) : Prop:=∃ (a0 : List Nd) (a1 : List Nd) (y0 : List (List Int)),zCd n a0 a1 = some y0 ∧ xs = [.s (.sl 4 (Nd.encs a0)),.s (.sl 4 (Nd.encs a1))] ∧ r = .val (.s (.sl 1 ((List.map zAu) y0)))
theorem zNt (n : Nat) (ih_r16_pair : PSound Tryz.prog 78 (zAG (zEB n))) (ih_r16_table : PSound Tryz.prog 76 (zAG (zDT n))) : PSound Tryz.prog 78 (zAG (zEB (n + 1))):=by
 have gok : ∀ f s,look? f [(76,zAG (zDT n))] = some s → PSound Tryz.prog f s:=zAB (by
  simp only [List.forall_mem_cons]
  exact ⟨ih_r16_table,by simp⟩)
 refine zAS tokW Tryz.call78 Tryz.func78 rfl (fun xs r h => by obtain ⟨_,_,_,_,rfl,_⟩:=h; show 2 ≤ 39; decide) 39 rfl ?_;rintro xs r w0 G0 ⟨⟨x1_kind,x1_text,x1_cols,x1_kids⟩,⟨y2_kind,y2_text,y2_cols,y2_kids⟩,y0,h,rfl,rfl⟩ _;rw [zB2] at h;refine zAa ?_;refine zAb [] [] rfl ?_;show Tri _ _ _ _;refine zAa ?_;refine zAb [] [] rfl ?_;show Tri _ _ _ _;refine zAa ?_;refine zAa ?_;refine zAb [] [] rfl ?_;show Tri _ _ _ _;obtain ⟨n3,hj,h⟩:=zAc h
 refine zAp ⟨ofL [(2,.s (.pt [.int .i64 x1_kind,.str x1_text,.int .i64 x1_cols,.sl 4 (Nd.encs x1_kids)])),(3,.s (.pt [.int .i64 y2_kind,.str y2_text,.int .i64 y2_cols,.sl 4 (Nd.encs y2_kids)])),(5,.s (.int .i64 n3))],fun _ => none,0⟩ ?_ (fun σ' hle => ?_)
 ·replace h:=hj;refine zAe rfl (fun hb => ?_) (fun hb => ?_)
  ·replace h:=zAr hb h;refine zAb [] [] rfl ?_;cases h;exact (Le.forget _ ⟨rfl,rfl,rfl,trivial⟩)
  ·replace h:=zAq hb h;refine zAj ?_;cases h;exact (Le.forget _ ⟨rfl,rfl,rfl,trivial⟩)
 ·show Tri _ _ _ _;refine zAm hle ?_;refine zAa ?_;refine zAa ?_;refine zAb [] [] rfl ?_;show Tri _ _ _ _;obtain ⟨n6,hl,h⟩:=zAc h;refine zAp ⟨ofL [(5,.s (.int .i64 n6))],fun _ => none,0⟩ ?_ (fun σ' hle => ?_)
  ·refine zAk (zAA (X:=Nat × Int × Int) (fun y => match y with | (k,n4,i5) => ⟨ofL [(2,.s (.pt [.int .i64 x1_kind,.str x1_text,.int .i64 x1_cols,.sl 4 (Nd.encs x1_kids)])),(3,.s (.pt [.int .i64 y2_kind,.str y2_text,.int .i64 y2_cols,.sl 4 (Nd.encs y2_kids)])),(5,.s (.int .i64 n4)),(6,.s (.int .i64 i5))],fun _ => none,0⟩) (fun y => zCy (zCd n) x1_kids y2_kids y.1 y.2.1 y.2.2 = some n6) (fun y => y.1) (n,n3,0) hl ?_ ?_)
   ·exact (Le.forget _ ⟨rfl,rfl,rfl,rfl,trivial⟩)
   ·rintro ⟨k,n4,i5⟩ h;cases k with
    | zero => cases h
    | succ k =>
     replace h : zCy (zCd n) x1_kids y2_kids (k+1) n4 i5 = some n6:=h;rw [zCy] at h;refine zAa ?_;refine zAa ?_;refine zAb [] [15] rfl ?_;intro n7 hn7;obtain rfl : (x1_kids.length : Int) = n7:=(hn7.trans (congrArg (fun m : Nat => (m : Int)) (rlen Nd.encs_eq x1_kids))).symm;show Tri _ _ _ _;refine zAe rfl (fun hb => ?_) (fun hb => ?_)
     ·replace h:=zAr hb h;refine zAj ?_;show Tri _ _ _ _;refine zAa ?_;refine zAk ?_;refine zAz (by exact tokW) (by exact gok) (by exact mixed) [] [23,29,33,35] [] rfl (by decide +kernel) ?_;obtain ⟨⟨e8_kind,e8_text,e8_cols,e8_kids⟩,he8,h⟩:=zAc h;refine And.intro (zAw Nd.encs_eq he8).1 ?_;intro r9 hr9;obtain rfl : [.int .i64 e8_kind,.str e8_text,.int .i64 e8_cols,.sl 4 (Nd.encs e8_kids)] = r9:=(hr9.trans (zAw Nd.encs_eq he8).2.1).symm;obtain ⟨⟨e10_kind,e10_text,e10_cols,e10_kids⟩,he10,h⟩:=zAc h;refine And.intro (zAw Nd.encs_eq he10).1 ?_;intro r11 hr11
      obtain rfl : [.int .i64 e10_kind,.str e10_text,.int .i64 e10_cols,.sl 4 (Nd.encs e10_kids)] = r11:=(hr11.trans (zAw Nd.encs_eq he10).2.1).symm;obtain ⟨y12,hy12,h⟩:=zAc h;refine ⟨_,⟨_,_,_,hy12,rfl,rfl⟩,?_⟩
      obtain ⟨e13,he13,h⟩:=zAc h;refine And.intro (zAw (fun _ => rfl) he13).1 ?_;intro r14 hr14;obtain rfl : [.sl 1 ((List.map (irow .i64)) e13)] = r14:=(hr14.trans (zAw (fun _ => rfl) he13).2.1).symm;obtain ⟨e15,he15,h⟩:=zAc h;refine And.intro (zAw (fun _ => rfl) he15).1 ?_;intro r16 hr16;obtain rfl : [.int .i64 e15] = r16:=(hr16.trans (zAw (fun _ => rfl) he15).2.1).symm;show Tri _ _ _ _;refine zAb [] [] rfl ?_;refine ⟨(k,IntKind.i64.wrap (n4 + e15),IntKind.i64.wrap (i5 + 1)),h,(Le.forget _ ⟨rfl,rfl,rfl,rfl,trivial⟩),Nat.lt_succ_self k⟩
     ·replace h:=zAq hb h;refine zAC ?_;cases h;exact (Le.forget _ ⟨rfl,trivial⟩)
  ·show Tri _ _ _ _;refine zAm hle ?_;refine zAa ?_;refine zAb [] [] rfl ?_;show Tri _ _ _ _;refine zAv ?_;have hy:=Option.some.inj h;subst hy;unfold zAO;exact ⟨_,Le.refl _ _,rfl,rfl⟩
theorem zLA (n : Nat) (ih_r16_pair : PSound Tryz.prog 78 (zAG (zEB n))) (ih_r16_table : PSound Tryz.prog 76 (zAG (zDT n))) : PSound Tryz.prog 76 (zAG (zDT (n + 1))):=by
 have gok : ∀ f s,look? f [(28,zFP),(77,zHm),(78,zAG (zEB n))] = some s → PSound Tryz.prog f s:=zAB (by
  simp only [List.forall_mem_cons]
  exact ⟨zGy,zJl,ih_r16_pair,by simp⟩)
 refine zAS tokW Tryz.call76 Tryz.func76 rfl (fun xs r h => by obtain ⟨_,_,_,_,rfl,_⟩:=h; show 2 ≤ 144; decide) 144 rfl ?_;rintro xs r w0 G0 ⟨a,b,y0,h,rfl,rfl⟩ _;rw [zCd] at h;obtain ⟨hlen,h⟩:=zAJ h;refine zAa ?_;refine zAb [] [] rfl ?_;show Tri _ _ _ _;refine zAa ?_;refine zAb [14] [12,13] rfl ?_;intro n1 hn1;obtain rfl : (a.length : Int) = n1:=(hn1.trans (congrArg (fun m : Nat => (m : Int)) (rlen Nd.encs_eq a))).symm;intro n2 hn2;obtain rfl : ((a.length + 1 : Nat) : Int) = n2:=(hn2.trans (zAL (by omega))).symm
 refine And.intro (show 0 ≤ _ ∧ _ from ⟨by omega,Int.le_refl _,show ((a.length + 1 : Nat) : Int) * ((24 : Nat) : Int) ≤ 281474976710656 by omega,by omega⟩) ?_;show Tri _ _ _ _;refine zAa ?_;refine zAa ?_;refine zAb [] [16] rfl ?_;intro n2 hn2;obtain rfl : ((a.length + 1 : Nat) : Int) = n2:=(hn2.trans (congrArg (fun m : Nat => (m : Int)) (by simp))).symm;show Tri _ _ _ _;refine zAp ⟨ofL [(0,.s (.sl 4 (Nd.encs a))),(1,.s (.sl 4 (Nd.encs b))),(5,.orow 0)],zK0 43 (zDo (a.length + 1)) (ddyn 3 (a.length + 1) (List.replicate (b.length + 1) 0) []),a.length + 2⟩ ?_ (fun σ' hle => ?_)
 ·refine zAk (zAA (X:=Nat) (fun t => ⟨ofL [(0,.s (.sl 4 (Nd.encs a))),(1,.s (.sl 4 (Nd.encs b))),(5,.orow 0),(16,.s (.int .i64 ((a.length + 1 : Nat) : Int))),(17,.s (.int .i64 (t : Int)))],zK0 43 (zDo t ++ nils (a.length + 1 - t)) (ddyn 3 t (List.replicate (b.length + 1) 0) []),t + 1⟩) (fun t => t ≤ a.length + 1) (fun t => a.length + 1 - t) 0 (Nat.zero_le _) ?_ ?_)
  ·refine Le.trans (Le.toA 0 rfl) (Le.forgetH _ _ 1 ⟨rfl,rfl,rfl,rfl,rfl,trivial⟩ (fun k => ?_) rfl)
   cases k with
   | zero =>
    show some (Ob.arow _ 1 _) = some (Ob.arow _ 1 _)
    refine congrArg some (congrArg (Ob.arow _ 1) ?_)
    exact (zNv (a.length + 1)).trans rfl
   | succ q => show none = ddyn _ 0 _ [] q; simp [ddyn]
  ·intro t ht;refine zAa ?_;refine zAb [] [18] rfl ?_;intro b18 h18;show Tri _ _ _ _;refine zAa ?_;refine zAe rfl (fun hb => ?_) (fun hb => ?_)
   ·refine zAj ?_;show Tri _ _ _ _;have htl : t < a.length + 1:=by
     rw [h18] at hb;have:=of_decide_eq_true hb; omega
    obtain ⟨m,hm⟩ : ∃ m,a.length + 1 - t = m + 1:=⟨a.length - t,by omega⟩
    rw [hm]
    refine zAa ?_;refine zAk ?_;refine zAa ?_;refine zAb [] [] rfl ?_;show Tri _ _ _ _;refine zAb [25] [23,24] rfl ?_;intro n1 hn1;obtain rfl : (b.length : Int) = n1:=(hn1.trans (congrArg (fun m : Nat => (m : Int)) (rlen Nd.encs_eq b))).symm;intro n2 hn2;obtain rfl : ((b.length + 1 : Nat) : Int) = n2:=(hn2.trans (zAL (by omega))).symm;refine And.intro (show 0 ≤ _ ∧ _ from ⟨by omega,Int.le_refl _,show ((b.length + 1 : Nat) : Int) * ((8 : Nat) : Int) ≤ 281474976710656 by omega,by omega⟩) ?_;have hlt1 : t < (zDo t ++ nils (m + 1)).length :=(by simp [zDo,nils]);refine And.intro ⟨Int.natCast_nonneg _,Int.ofNat_lt.2 hlt1⟩ ?_;refine And.intro hlt1 ?_
    show Tri _ _ _ _;refine zAb [] [] rfl ?_;refine ⟨t + 1,by omega,Le.forgetH _ _ (t + 2) ⟨rfl,rfl,rfl,rfl,congrArg (fun z => AV.s (.int .i64 z)) (zAL (by omega)),trivial⟩ (fun k => ?_) rfl,by omega⟩
    cases k with
    | zero =>
     show some (Ob.arow _ 1 ((zDo t ++ nils (m + 1)).set t (((zDo t ++ nils (m + 1)).getD t []).take 0 ++ [AV.orow (t + 1)] ++ ((zDo t ++ nils (m + 1)).getD t []).drop 1))) = some (Ob.arow _ 1 _)
     rw [zSq,show ([AV.s (S.sl 1 [])].take 0 ++ [AV.orow (t + 1)] ++ [AV.s (S.sl 1 [])].drop 1) = [AV.orow (t + 1)] from rfl,zSr,show a.length + 1 - (t + 1) = m by omega]
    | succ q =>
     show (bif Nat.beq (q + 1) (t + 1) then some (Ob.row 3 1 (List.replicate (b.length + 1) [S.int .i64 0])) else ddyn 3 t (List.replicate (b.length + 1) 0) [] q) = ddyn 3 (t + 1) (List.replicate (b.length + 1) 0) [] q;have hz : List.replicate (b.length + 1) [S.int .i64 0] = (List.replicate (b.length + 1) 0).map (irow .i64) :=(by simp [irow]);rw [hz]
     have hd : ∀ q,ddyn 3 t (List.replicate (b.length + 1) 0) [] q = if q < t then some (.row 3 1 ((List.replicate (b.length + 1) 0).map (irow .i64))) else none:=fun q => by simp [ddyn]
     have hd' : ∀ q,ddyn 3 (t + 1) (List.replicate (b.length + 1) 0) [] q = if q < t + 1 then some (.row 3 1 ((List.replicate (b.length + 1) 0).map (irow .i64))) else none:=fun q => by simp [ddyn]
     rw [hd,hd']
     cases e : Nat.beq (q + 1) (t + 1) with
     | true => have:=Nat.eq_of_beq_eq_true e; rw [cond_true,if_pos (by omega)]
     | false =>
      have hne : q ≠ t:=fun e' => by subst e'; rw [Nat.beq_refl] at e; cases e
      rw [cond_false]
      by_cases h2 : q < t
      ·rw [if_pos h2,if_pos (by omega)]
      ·rw [if_neg h2,if_neg (by omega)]
   ·refine zAC ?_;have htl : t = a.length + 1:=by
     rw [h18] at hb;have:=of_decide_eq_false hb; omega
    subst htl;refine Le.forgetH _ _ _ ⟨rfl,rfl,rfl,trivial⟩ (fun k => ?_) rfl;rw [Nat.sub_self]
    simp [nils]
    rfl
 ·show Tri _ _ _ _;refine zAm hle ?_;refine zAa ?_;refine zAa ?_;refine zAb [] [29] rfl ?_;intro n1 hn1;obtain rfl : (a.length : Int) = n1:=(hn1.trans (congrArg (fun m : Nat => (m : Int)) (rlen Nd.encs_eq a))).symm;show Tri _ _ _ _;refine zAp ⟨ofL [(0,.s (.sl 4 (Nd.encs a))),(1,.s (.sl 4 (Nd.encs b))),(5,.orow 0)],zK0 43 (zDo (a.length + 1)) (ddyn 3 0 (List.replicate (b.length + 1) 0) y0),a.length + 2⟩ ?_ (fun σ' hle => ?_)
  ·refine zAk (zAA (X:=Nat × List (List Int)) (fun y => match y with | (k,L) => ⟨ofL [(0,.s (.sl 4 (Nd.encs a))),(1,.s (.sl 4 (Nd.encs b))),(5,.orow 0),(7,.s (.int .i64 ((k : Int) - 1)))],zK0 43 (zDo (a.length + 1)) (ddyn 3 k (List.replicate (b.length + 1) 0) L),a.length + 2⟩)
    (fun y => match y with | (k,L) => (k = a.length + 1 ∧ L = []) ∨ (k ≤ a.length ∧ zAN (zBg n) zCY (zB2 n) b (a.drop k) = some L)) (fun y => y.1) (a.length + 1,[]) (.inl ⟨rfl,rfl⟩) ?_ ?_)
   ·exact Le.forgetH _ _ _ ⟨rfl,rfl,rfl,congrArg (fun z => AV.s (.int .i64 z)) (by omega),trivial⟩ (fun k => rfl) rfl
   ·rintro ⟨k,L⟩ hI;refine zAa ?_;refine zAa ?_;refine zAb [] [31] rfl ?_;intro b31 h31;show Tri _ _ _ _;refine zAe rfl (fun hb => ?_) (fun hb => ?_)
    ·refine zAj ?_;show Tri _ _ _ _;have hk : 1 ≤ k:=by
      rw [h31] at hb;have:=of_decide_eq_true hb; omega
     obtain ⟨i,rfl⟩ : ∃ i,k = i + 1:=⟨k - 1,by omega⟩
     refine zAm (Le.forgetH [(0,.s (.sl 4 (Nd.encs a))),(1,.s (.sl 4 (Nd.encs b))),(5,.orow 0),(7,.s (.int .i64 (i : Int)))] (zK0 43 (zDo (a.length + 1)) (ddyn 3 i (List.replicate (b.length + 1) 0) ((List.replicate (b.length + 1) 0) :: L))) (a.length + 2) ⟨rfl,rfl,rfl,congrArg (fun z => AV.s (.int .i64 z)) (by omega),trivial⟩ (fun k => by cases k with | zero => rfl | succ q => exact zRW q) rfl) ?_;have hin1 : i < a.length + 1:=by rcases hI with h | h <;> omega
     have hltk : i < (zDo (a.length + 1)).length :=(by rw [zKE]; exact hin1);have hgk : (zDo (a.length + 1)).getD i [] = [.orow (i + 1)]:=zOP hin1;refine zAa ?_;refine zAk ?_;refine zAa ?_;refine zAb [] [35] rfl ?_;intro n1 hn1;obtain rfl : (b.length : Int) = n1:=(hn1.trans (congrArg (fun m : Nat => (m : Int)) (rlen Nd.encs_eq b))).symm;show Tri _ _ _ _;rcases hI with ⟨hin,rfl⟩ | ⟨hin,hrows⟩
     ·obtain rfl : i = a.length :=(by omega);obtain ⟨rl,hrl⟩:=zQQ h;refine zAp ⟨ofL [(0,.s (.sl 4 (Nd.encs a))),(1,.s (.sl 4 (Nd.encs b))),(5,.orow 0),(7,.s (.int .i64 (a.length : Int)))],zK0 43 (zDo (a.length + 1)) (ddyn 3 a.length (List.replicate (b.length + 1) 0) [rl]),a.length + 2⟩ ?_ (fun σ' hle => ?_)
      ·refine zAk (zAA (X:=Nat × List Int) (fun y => match y with | (k,rd) => ⟨ofL [(0,.s (.sl 4 (Nd.encs a))),(1,.s (.sl 4 (Nd.encs b))),(5,.orow 0),(7,.s (.int .i64 (a.length : Int))),(8,.s (.int .i64 ((k : Int) - 1)))],zK0 43 (zDo (a.length + 1)) (ddyn 3 a.length (List.replicate (b.length + 1) 0) [List.replicate k 0 ++ rd]),a.length + 2⟩)
        (fun y => match y with | (k,rd) => (k = b.length + 1 ∧ rd = []) ∨ (k ≤ b.length ∧ zAX (zBg n) (b.drop k) = some rd)) (fun y => y.1) (b.length + 1,[]) (.inl ⟨rfl,rfl⟩) ?_ ?_)
       ·refine Le.forgetH _ _ _ ⟨rfl,rfl,rfl,rfl,congrArg (fun z => AV.s (.int .i64 z)) (by omega),trivial⟩ (fun k => ?_) rfl;rw [List.append_nil]; rfl
       ·rintro ⟨k,rd⟩ hI;refine zAa ?_;refine zAa ?_;refine zAb [] [37] rfl ?_;intro b37 h37;show Tri _ _ _ _;refine zAe rfl (fun hb => ?_) (fun hb => ?_)
        ·refine zAj ?_;show Tri _ _ _ _;have hk : 1 ≤ k:=by
          rw [h37] at hb;have:=of_decide_eq_true hb; omega
         obtain ⟨j,rfl⟩ : ∃ j,k = j + 1:=⟨k - 1,by omega⟩
         refine zAm (Le.forget [(0,.s (.sl 4 (Nd.encs a))),(1,.s (.sl 4 (Nd.encs b))),(5,.orow 0),(7,.s (.int .i64 (a.length : Int))),(8,.s (.int .i64 (j : Int)))] ⟨rfl,rfl,rfl,rfl,congrArg (fun z => AV.s (.int .i64 z)) (by omega),trivial⟩) ?_;have wj : IntKind.i64.wrap ((j : Int) - 1) = (j : Int) - 1:=wrap64_in (by omega) (by rcases hI with h | h <;> omega)
         refine zAa ?_;refine zAk ?_;refine zAa ?_;refine zAa ?_;refine zAb [] [42,43,47] rfl ?_;intro n1 hn1;obtain rfl : (a.length : Int) = n1:=(hn1.trans (congrArg (fun m : Nat => (m : Int)) (rlen Nd.encs_eq a))).symm;intro b1 hb1;obtain rfl : true = b1:=(hb1.trans (beq_self_eq_true _)).symm;intro n1 hn1;obtain rfl : (b.length : Int) = n1:=(hn1.trans (congrArg (fun m : Nat => (m : Int)) (rlen Nd.encs_eq b))).symm;show Tri _ _ _ _;refine zAe rfl (fun hb2 => ?_) (fun hb2 => ?_)
         ·refine zAC ?_;show Tri _ _ _ _;refine zAb [] [] rfl ?_;have hj : j = b.length:=Int.ofNat.inj (eq_of_beq hb2)
          refine ⟨(j,[0]),.inr ⟨by omega,by rw [hj,List.drop_length]; rfl⟩,Le.forgetH _ _ _ ⟨rfl,rfl,rfl,rfl,congrArg (fun z => AV.s (.int .i64 z)) wj,trivial⟩ (fun k => ?_) rfl,Nat.lt_succ_self j⟩
          rcases hI with ⟨_,rfl⟩ | ⟨h,_⟩
          ·cases k with
           | zero => rfl
           | succ q =>
            show ddyn 3 a.length (List.replicate (b.length + 1) 0) [List.replicate (j + 1) 0 ++ []] q = ddyn 3 a.length (List.replicate (b.length + 1) 0) [List.replicate j 0 ++ [0]] q;rw [show List.replicate (j + 1) (0 : Int) ++ [] = List.replicate j 0 ++ [0] by rw [List.append_nil,List.replicate_succ']]
          ·omega
         ·have hj : j ≠ b.length:=fun e => by rw [e] at hb2; simp at hb2
          obtain ⟨hj2,hd⟩ : j + 1 ≤ b.length ∧ zAX (zBg n) (b.drop (j + 1)) = some rd:=by
           rcases hI with ⟨h,_⟩ | h
           ·omega
           ·exact h
          obtain ⟨q,hq⟩:=zMk hrl j (by omega)
          have hqq:=hq;have hy : b[j]? = some (b[j]'(by omega)):=List.getElem?_eq_getElem _;rw [List.drop_eq_getElem_cons (show j < b.length by omega)] at hq;generalize b[j]'(by omega) = y at hy hq;obtain ⟨yk,yt,yc,yks⟩:=y;simp only [zAX,hd] at hq;obtain ⟨p0,hp0,hq⟩:=zAc hq;cases hp0;obtain ⟨c,hc,hq⟩:=zAc hq;have hrdl:=zPi hd;cases rd with
          | nil => simp at hrdl
          | cons w ws =>
          simp only [List.headD_cons,Option.some.injEq] at hq;refine zAj ?_;show Tri _ _ _ _;refine zAa ?_;refine zAb [] [] rfl ?_;show Tri _ _ _ _;refine zAa ?_;refine zAa ?_;refine zAb [] [52,53] rfl ?_;intro n1 hn1;obtain rfl : (a.length : Int) = n1:=(hn1.trans (congrArg (fun m : Nat => (m : Int)) (rlen Nd.encs_eq a))).symm;intro b1 hb1;obtain rfl : false = b1:=(hb1.trans (decide_eq_false (Int.lt_irrefl _))).symm;show Tri _ _ _ _;refine zAe rfl (fun h => by cases h) (fun _ => ?_)
          refine zAj ?_;show Tri _ _ _ _;refine zAa ?_;refine zAa ?_;refine zAb [] [70,71] rfl ?_;intro n1 hn1;obtain rfl : (b.length : Int) = n1:=(hn1.trans (congrArg (fun m : Nat => (m : Int)) (rlen Nd.encs_eq b))).symm;intro b1 hb1;obtain rfl : true = b1:=(hb1.trans (decide_eq_true (by omega))).symm;show Tri _ _ _ _;refine zAe rfl (fun _ => ?_) (fun h => by cases h)
          have g4 : (List.replicate (j + 1) 0 ++ w :: ws)[j + 1]? = some w :=(by simp [List.getElem?_append]);have hlt4 : j + 1 < (List.map (irow .i64) (List.replicate (j + 1) 0 ++ w :: ws)).length :=(by simp);have hlt4' : j < (List.map (irow .i64) (List.replicate (j + 1) 0 ++ w :: ws)).length :=(by simp; omega);refine zAa ?_;refine zAz (by exact tokW) (by exact gok) (by exact mixed) [] [74,82] [7,8,11,12] rfl (by decide +kernel) ?_;refine And.intro ⟨Int.natCast_nonneg _,Int.ofNat_lt.2 (by rw [rlen Nd.encs_eq]; omega)⟩ ?_;intro r hr;obtain rfl : [.int .i64 yk,.str yt,.int .i64 yc,.sl 4 (Nd.encs yks)] = r:=(hr.trans (zEu hy)).symm
          refine ⟨_,⟨_,_,_,hc,rfl,rfl⟩,?_⟩
          refine And.intro ⟨Int.natCast_nonneg _,Int.ofNat_lt.2 hltk⟩ ?_;refine And.intro hltk ⟨_,hgk,?_⟩
          intro z hz;obtain rfl : ((j + 1 : Nat) : Int) = z:=(hz.trans (zAL (by omega))).symm;refine zJO rfl rfl rfl rfl rfl (zKX rfl rfl rfl rfl rfl rfl zCR rfl) ⟨Int.natCast_nonneg _,Int.ofNat_lt.2 hlt4⟩ ?_;refine zQm rfl rfl rfl rfl rfl rfl zCR hlt4 (zH8 g4) ?_;show Tri _ _ _ _;refine zAa ?_;refine zAb [] [87] rfl ?_;intro b1 hb1;obtain rfl : true = b1:=(hb1.trans (by decide)).symm;show Tri _ _ _ _;refine zAe rfl (fun _ => ?_) (fun h => by cases h)
          refine zAb [] [] rfl ?_;show Tri _ _ _ _;refine zAa ?_;refine zAa ?_;refine zAz (by exact tokW) (by exact gok) (by exact mixed) [] [96,97] [] rfl (by decide +kernel) ?_;intro n1 hn1;obtain rfl : (a.length : Int) = n1:=(hn1.trans (congrArg (fun m : Nat => (m : Int)) (rlen Nd.encs_eq a))).symm;intro b1 hb1;obtain rfl : false = b1:=(hb1.trans (decide_eq_false (Int.lt_irrefl _))).symm;show Tri _ _ _ _;refine zAe rfl (fun h => by cases h) (fun _ => ?_)
          refine zAj ?_;show Tri _ _ _ _;refine zAb [] [141] rfl ?_;refine And.intro ⟨Int.natCast_nonneg _,Int.ofNat_lt.2 hltk⟩ ?_;refine And.intro hltk ⟨_,hgk,?_⟩
          intro z9 hz9;subst hz9;refine zAt rfl rfl rfl rfl rfl (zKX rfl rfl rfl rfl rfl rfl zCR rfl) ⟨Int.natCast_nonneg _,Int.ofNat_lt.2 hlt4'⟩ ?_;refine zDW rfl rfl rfl (zNn rfl rfl rfl rfl zCR rfl rfl rfl) hlt4' ?_;show Tri _ _ _ _;refine zAb [] [] rfl ?_;refine ⟨(j,(IntKind.i64.wrap (c + w) :: w :: ws)),.inr ⟨by omega,by rw [hqq,← hq]⟩,Le.forgetH _ _ _ ⟨rfl,rfl,rfl,rfl,congrArg (fun z => AV.s (.int .i64 z)) wj,trivial⟩ (fun k => ?_) rfl,Nat.lt_succ_self j⟩
          cases k with
          | zero => rfl
          | succ q =>
           show (bif Nat.beq (q + 1) (a.length + 1) then some (Ob.row 3 1 (((List.replicate (j + 1) 0 ++ w :: ws).map (irow .i64)).set j ((((List.replicate (j + 1) 0 ++ w :: ws).map (irow .i64)).getD j []).take 0 ++ [S.int .i64 (IntKind.i64.wrap (c + w))] ++ (((List.replicate (j + 1) 0 ++ w :: ws).map (irow .i64)).getD j []).drop (0 + 1)))) else ddyn 3 a.length (List.replicate (b.length + 1) 0) ((List.replicate (j + 1) 0 ++ w :: ws) :: []) q) = ddyn 3 a.length (List.replicate (b.length + 1) 0) ((List.replicate j 0 ++ (IntKind.i64.wrap (c + w) :: w :: ws)) :: []) q
           rw [zHF (l:=List.replicate (j + 1) 0 ++ w :: ws) (j:=j) (v:=0) (x:=IntKind.i64.wrap (c + w)) (by simp [List.getElem?_append]),zF1]
           exact zMG q
        ·refine zAC ?_;have hk : k = 0:=by
          rw [h37] at hb;have:=of_decide_eq_false hb; omega
         subst hk;rcases hI with ⟨h1,_⟩ | ⟨_,h1⟩
         ·omega
         ·rw [List.drop_zero,hrl] at h1;cases h1;exact Le.forgetH _ _ _ ⟨rfl,rfl,rfl,rfl,trivial⟩ (fun k => rfl) rfl
      ·show Tri _ _ _ _;refine zAm hle ?_;refine zAb [] [] rfl ?_;refine ⟨(a.length,[rl]),.inr ⟨Nat.le_refl _,by rw [List.drop_length]; simp [zAN,hrl]⟩,Le.forgetH _ _ _ ⟨rfl,rfl,rfl,congrArg (fun z => AV.s (.int .i64 z)) (wrap64_in (by omega) (by omega)),trivial⟩ (fun k => rfl) rfl,Nat.lt_succ_self _⟩
     ·obtain ⟨q,hq⟩:=zMl h i (by omega)
      have ha : a[i]? = some (a[i]'(by omega)):=List.getElem?_eq_getElem _;have hq0:=hq;rw [List.drop_eq_getElem_cons (show i < a.length by omega)] at hq;generalize a[i]'(by omega) = x at ha hq;simp only [zAN,hrows] at hq;obtain ⟨p0,hp0,hq⟩:=zAc hq;cases hp0;obtain ⟨cx,hcx,hq⟩:=zAc hq;cases L with
      | nil => cases hq
      | cons r1 L =>
      dsimp only at hq;obtain ⟨rr,hrow,hq⟩:=zAc hq;simp only [Option.some.injEq] at hq;subst hq;have hrl:=zNy hrow;have hlt2k : i + 1 < (zDo (a.length + 1)).length :=(by rw [zKE]; omega);have hgk2 : (zDo (a.length + 1)).getD (i + 1) [] = [.orow (i + 2)]:=zOP (by omega)
      have hne : ((i : Int) == (a.length : Int)) = false:=by
       cases e : ((i : Int) == (a.length : Int)) with
       | false => rfl
       | true => have:=eq_of_beq e; omega
      refine zAp ⟨ofL [(0,.s (.sl 4 (Nd.encs a))),(1,.s (.sl 4 (Nd.encs b))),(5,.orow 0),(7,.s (.int .i64 (i : Int)))],zK0 43 (zDo (a.length + 1)) (ddyn 3 i (List.replicate (b.length + 1) 0) (rr :: r1 :: L)),a.length + 2⟩ ?_ (fun σ' hle => ?_)
      ·obtain ⟨xk,xt,xc,xks⟩:=x;refine zAk (zAA (X:=Nat × List Int) (fun y => match y with | (k,rd) => ⟨ofL [(0,.s (.sl 4 (Nd.encs a))),(1,.s (.sl 4 (Nd.encs b))),(5,.orow 0),(7,.s (.int .i64 (i : Int))),(8,.s (.int .i64 ((k : Int) - 1)))],zK0 43 (zDo (a.length + 1)) (ddyn 3 i (List.replicate (b.length + 1) 0) ((List.replicate k 0 ++ rd) :: r1 :: L)),a.length + 2⟩)
        (fun y => match y with | (k,rd) => (k = b.length + 1 ∧ rd = []) ∨ (k ≤ b.length ∧ zAK (zBg n) zCY (zB2 n) ⟨xk,xt,xc,xks⟩ cx (b.drop k) (r1.drop k) = some rd)) (fun y => y.1) (b.length + 1,[]) (.inl ⟨rfl,rfl⟩) ?_ ?_)
       ·refine Le.forgetH _ _ _ ⟨rfl,rfl,rfl,rfl,congrArg (fun z => AV.s (.int .i64 z)) (by omega),trivial⟩ (fun k => ?_) rfl;rw [List.append_nil]; rfl
       ·rintro ⟨k,rd⟩ hI;refine zAa ?_;refine zAa ?_;refine zAb [] [37] rfl ?_;intro b37 h37;show Tri _ _ _ _;refine zAe rfl (fun hb => ?_) (fun hb => ?_)
        ·refine zAj ?_;show Tri _ _ _ _;have hk : 1 ≤ k:=by
          rw [h37] at hb;have:=of_decide_eq_true hb; omega
         obtain ⟨j,rfl⟩ : ∃ j,k = j + 1:=⟨k - 1,by omega⟩
         refine zAm (Le.forget [(0,.s (.sl 4 (Nd.encs a))),(1,.s (.sl 4 (Nd.encs b))),(5,.orow 0),(7,.s (.int .i64 (i : Int))),(8,.s (.int .i64 (j : Int)))] ⟨rfl,rfl,rfl,rfl,congrArg (fun z => AV.s (.int .i64 z)) (by omega),trivial⟩) ?_;have wj : IntKind.i64.wrap ((j : Int) - 1) = (j : Int) - 1:=wrap64_in (by omega) (by rcases hI with h | h <;> omega)
         refine zAa ?_;refine zAk ?_;refine zAa ?_;refine zAa ?_;refine zAb [] [42,43] rfl ?_;intro n1 hn1;obtain rfl : (a.length : Int) = n1:=(hn1.trans (congrArg (fun m : Nat => (m : Int)) (rlen Nd.encs_eq a))).symm;intro b1 hb1;obtain rfl : false = b1:=(hb1.trans hne).symm;show Tri _ _ _ _;refine zAe rfl (fun hb2 => by cases hb2) (fun _ => ?_)
         refine zAj ?_;show Tri _ _ _ _;have hjb : j ≤ b.length:=by rcases hI with h | h <;> omega
         obtain ⟨q,hq⟩:=zPj hrow j hjb;have hqq:=hq;have hv : r1[j]? = some (r1[j]'(by omega)):=List.getElem?_eq_getElem _;rw [List.drop_eq_getElem_cons (show j < r1.length by omega)] at hq;generalize r1[j]'(by omega) = v at hv hq;have hltr : j < (List.map (irow .i64) r1).length :=(by simp; omega);have hlt4 : ∀ l : List Int,j < (List.map (irow .i64) (List.replicate (j + 1) 0 ++ l)).length:=fun l => by simp; omega
         refine zAa ?_;refine zAb [] [] rfl ?_;show Tri _ _ _ _;refine zAa ?_;refine zAa ?_;refine zAb [] [52,53] rfl ?_;intro n1 hn1;obtain rfl : (a.length : Int) = n1:=(hn1.trans (congrArg (fun m : Nat => (m : Int)) (rlen Nd.encs_eq a))).symm;intro b1 hb1;obtain rfl : true = b1:=(hb1.trans (decide_eq_true (by omega))).symm;show Tri _ _ _ _;refine zAe rfl (fun _ => ?_) (fun h => by cases h)
         refine zAz (by exact tokW) (by exact gok) (by exact mixed) [] [56,61,64] [8,9,11,12] rfl (by decide +kernel) ?_;refine And.intro ⟨Int.natCast_nonneg _,Int.ofNat_lt.2 (by rw [rlen Nd.encs_eq]; omega)⟩ ?_;intro r hr;obtain rfl : [.int .i64 xk,.str xt,.int .i64 xc,.sl 4 (Nd.encs xks)] = r:=(hr.trans (zEu ha)).symm;refine ⟨_,⟨_,_,_,hcx,rfl,rfl⟩,?_⟩
         intro z hz;obtain rfl : ((i + 1 : Nat) : Int) = z:=(hz.trans (zAL (by omega))).symm;refine And.intro ⟨Int.natCast_nonneg _,Int.ofNat_lt.2 hlt2k⟩ ?_;refine And.intro hlt2k ⟨_,hgk2,?_⟩
         intro z9 hz9;subst hz9;refine zJO rfl rfl rfl rfl rfl (zKX rfl rfl rfl rfl rfl rfl zH3 rfl) ⟨Int.natCast_nonneg _,Int.ofNat_lt.2 hltr⟩ ?_;refine zQm rfl rfl rfl rfl rfl rfl zH3 hltr (zH8 hv) ?_;show Tri _ _ _ _;refine zAa ?_;rcases hI with ⟨hj,rfl⟩ | ⟨hj,hd⟩
         ·obtain rfl : j = b.length :=(by omega);rw [List.drop_length,List.drop_eq_nil_of_le (show r1.length ≤ b.length + 1 by omega)] at hq;simp only [zAK,Option.some.injEq] at hq;refine zAa ?_;refine zAb [] [70,71] rfl ?_;intro n1 hn1;obtain rfl : (b.length : Int) = n1:=(hn1.trans (congrArg (fun m : Nat => (m : Int)) (rlen Nd.encs_eq b))).symm;intro b1 hb1;obtain rfl : false = b1:=(hb1.trans (decide_eq_false (by omega))).symm;show Tri _ _ _ _;refine zAe rfl (fun h => by cases h) (fun _ => ?_)
          refine zAj ?_;show Tri _ _ _ _;refine zAa ?_;refine zAa ?_;refine zAz (by exact tokW) (by exact gok) (by exact mixed) [] [96,97,101,102] [] rfl (by decide +kernel) ?_;intro n1 hn1;obtain rfl : (a.length : Int) = n1:=(hn1.trans (congrArg (fun m : Nat => (m : Int)) (rlen Nd.encs_eq a))).symm;intro b1 hb1;obtain rfl : true = b1:=(hb1.trans (decide_eq_true (by omega))).symm;intro n1 hn1;obtain rfl : (b.length : Int) = n1:=(hn1.trans (congrArg (fun m : Nat => (m : Int)) (rlen Nd.encs_eq b))).symm;intro b1 hb1;obtain rfl : false = b1:=(hb1.trans (decide_eq_false (by omega))).symm;show Tri _ _ _ _
          refine zAe rfl (fun h => by cases h) (fun _ => ?_)
          refine zAj ?_;show Tri _ _ _ _;have hlt4':=hlt4 []
          refine zAb [] [141] rfl ?_;refine And.intro ⟨Int.natCast_nonneg _,Int.ofNat_lt.2 hltk⟩ ?_;refine And.intro hltk ⟨_,hgk,?_⟩
          intro z9 hz9;subst hz9;refine zAt rfl rfl rfl rfl rfl (zKX rfl rfl rfl rfl rfl rfl zCR rfl) ⟨Int.natCast_nonneg _,Int.ofNat_lt.2 hlt4'⟩ ?_;refine zDW rfl rfl rfl (zNn rfl rfl rfl rfl zCR rfl rfl rfl) hlt4' ?_;show Tri _ _ _ _;refine zAb [] [] rfl ?_;refine ⟨(b.length,[(IntKind.i64.wrap (cx + v))]),.inr ⟨by omega,by rw [hqq,← hq]⟩,Le.forgetH _ _ _ ⟨rfl,rfl,rfl,rfl,congrArg (fun z => AV.s (.int .i64 z)) wj,trivial⟩ (fun k => ?_) rfl,Nat.lt_succ_self b.length⟩
          cases k with
          | zero => rfl
          | succ q =>
           show (bif Nat.beq (q + 1) (i + 1) then some (Ob.row 3 1 (((List.replicate (b.length + 1) (0 : Int) ++ []).map (irow .i64)).set b.length ((((List.replicate (b.length + 1) (0 : Int) ++ []).map (irow .i64)).getD b.length []).take 0 ++ [S.int .i64 ((IntKind.i64.wrap (cx + v)))] ++ (((List.replicate (b.length + 1) (0 : Int) ++ []).map (irow .i64)).getD b.length []).drop (0 + 1)))) else ddyn 3 i (List.replicate (b.length + 1) 0) ((List.replicate (b.length + 1) (0 : Int) ++ []) :: (r1 :: L)) q) = ddyn 3 i (List.replicate (b.length + 1) 0) ((List.replicate b.length 0 ++ [(IntKind.i64.wrap (cx + v))]) :: (r1 :: L)) q
           rw [zHF (l:=List.replicate (b.length + 1) (0 : Int) ++ []) (j:=b.length) (v:=0) (x:=(IntKind.i64.wrap (cx + v))) (by simp [List.getElem?_append]),zF1]
           exact zMG q
         ·have hy : b[j]? = some (b[j]'(by omega)):=List.getElem?_eq_getElem _;rw [List.drop_eq_getElem_cons (show j < b.length by omega)] at hq;generalize b[j]'(by omega) = y at hy hq;obtain ⟨yk,yt,yc,yks⟩:=y;have hv2 : r1[j + 1]? = some (r1[j + 1]'(by omega)):=List.getElem?_eq_getElem _;have hdr:=List.drop_eq_getElem_cons (show j + 1 < r1.length by omega)
          rw [hdr] at hq;simp only [zAK] at hq;rw [← hdr] at hq;generalize r1[j + 1]'(by omega) = v2 at hv2 hq;rw [hd] at hq;obtain ⟨p0,hp0,hq⟩:=zAc hq;cases hp0;obtain ⟨c,hc,hq⟩:=zAc hq;obtain ⟨al,hal,hq⟩:=zAc hq;have hrdl:=(zNy hd).2;cases rd with
          | nil => simp at hrdl
          | cons w ws =>
          simp only [List.headD_cons] at hq;have hltr2 : j + 1 < (List.map (irow .i64) r1).length :=(by simp; omega);have g4 : (List.replicate (j + 1) 0 ++ w :: ws)[j + 1]? = some w :=(by simp [List.getElem?_append]);have hlt5 : j + 1 < (List.map (irow .i64) (List.replicate (j + 1) 0 ++ w :: ws)).length :=(by simp);have hlt4':=hlt4 (w :: ws)
          refine zAp ⟨ofL [(0,.s (.sl 4 (Nd.encs a))),(1,.s (.sl 4 (Nd.encs b))),(5,.orow 0),(7,.s (.int .i64 (i : Int))),(8,.s (.int .i64 (j : Int))),(9,.s (.int .i64 ((bif (decide ((IntKind.i64.wrap (cx + v)) < 0) || decide ((IntKind.i64.wrap (c + w)) < (IntKind.i64.wrap (cx + v)))) then (IntKind.i64.wrap (c + w)) else (IntKind.i64.wrap (cx + v))))))],zK0 43 (zDo (a.length + 1)) (ddyn 3 i (List.replicate (b.length + 1) 0) ((List.replicate (j + 1) 0 ++ w :: ws) :: r1 :: L)),a.length + 2⟩ ?_ (fun σ' hle => ?_)
          ·refine zAa ?_;refine zAb [] [70,71] rfl ?_;intro n1 hn1;obtain rfl : (b.length : Int) = n1:=(hn1.trans (congrArg (fun m : Nat => (m : Int)) (rlen Nd.encs_eq b))).symm;intro b1 hb1;obtain rfl : true = b1:=(hb1.trans (decide_eq_true (by omega))).symm;show Tri _ _ _ _;refine zAe rfl (fun _ => ?_) (fun h => by cases h)
           refine zAa ?_;refine zAz (by exact tokW) (by exact gok) (by exact mixed) [] [74,82] [7,8,11,12] rfl (by decide +kernel) ?_;refine And.intro ⟨Int.natCast_nonneg _,Int.ofNat_lt.2 (by rw [rlen Nd.encs_eq]; omega)⟩ ?_;intro r hr;obtain rfl : [.int .i64 yk,.str yt,.int .i64 yc,.sl 4 (Nd.encs yks)] = r:=(hr.trans (zEu hy)).symm;refine ⟨_,⟨_,_,_,hc,rfl,rfl⟩,?_⟩
           refine And.intro ⟨Int.natCast_nonneg _,Int.ofNat_lt.2 hltk⟩ ?_;refine And.intro hltk ⟨_,hgk,?_⟩
           intro z hz;obtain rfl : ((j + 1 : Nat) : Int) = z:=(hz.trans (zAL (by omega))).symm;refine zJO rfl rfl rfl rfl rfl (zKX rfl rfl rfl rfl rfl rfl zCR rfl) ⟨Int.natCast_nonneg _,Int.ofNat_lt.2 hlt5⟩ ?_;refine zQm rfl rfl rfl rfl rfl rfl zCR hlt5 (zH8 g4) ?_;show Tri _ _ _ _;refine zAa ?_;refine zAb [] [87,91] rfl ?_;intro b1 hb1;subst hb1;cases e1 : decide ((IntKind.i64.wrap (cx + v)) < 0) with
           | true =>
            show Tri _ _ _ _;refine zAe rfl (fun _ => ?_) (fun h => by cases h)
            refine zAb [] [] rfl ?_;exact Le.forgetH _ _ _ ⟨rfl,rfl,rfl,rfl,rfl,rfl,trivial⟩ (fun k => rfl) rfl
           | false =>
            intro b2 hb2;subst hb2;cases e2 : decide ((IntKind.i64.wrap (c + w)) < (IntKind.i64.wrap (cx + v))) with
            | true =>
             show Tri _ _ _ _;refine zAe rfl (fun _ => ?_) (fun h => by cases h)
             refine zAb [] [] rfl ?_;exact Le.forgetH _ _ _ ⟨rfl,rfl,rfl,rfl,rfl,rfl,trivial⟩ (fun k => rfl) rfl
            | false =>
             show Tri _ _ _ _;refine zAe rfl (fun h => by cases h) (fun _ => ?_)
             refine zAj ?_;exact Le.forgetH _ _ _ ⟨rfl,rfl,rfl,rfl,rfl,rfl,trivial⟩ (fun k => rfl) rfl
          ·show Tri _ _ _ _;obtain ⟨l1,hl1⟩ : ∃ l1,(bif (decide ((IntKind.i64.wrap (cx + v)) < 0) || decide ((IntKind.i64.wrap (c + w)) < (IntKind.i64.wrap (cx + v)))) then (IntKind.i64.wrap (c + w)) else (IntKind.i64.wrap (cx + v))) = l1:=⟨_,rfl⟩
           rw [hl1] at hle;refine zAm hle ?_;replace hq : (bif al then ((zB2 n ⟨xk,xt,xc,xks⟩ ⟨yk,yt,yc,yks⟩).bind fun p => some ((if IntKind.i64.wrap (p + v2) < l1 then IntKind.i64.wrap (p + v2) else l1) :: w :: ws)) else some (l1 :: w :: ws)) = some q:=by
            rw [← hl1]; exact hq
           refine zAa ?_;have hq2 : ∃ l2,q = l2 :: w :: ws ∧ (bif al then (∃ p,zB2 n ⟨xk,xt,xc,xks⟩ ⟨yk,yt,yc,yks⟩ = some p ∧ l2 = (if IntKind.i64.wrap (p + v2) < l1 then IntKind.i64.wrap (p + v2) else l1)) else l2 = l1):=by
            cases al with
            | true =>
             obtain ⟨p,hp,hq⟩:=zAc hq;cases hq;exact ⟨_,rfl,show ∃ p,_ ∧ _ from ⟨p,hp,rfl⟩⟩
            | false => cases hq; exact ⟨_,rfl,show _ = _ from rfl⟩
           obtain ⟨l2,rfl,hl2⟩:=hq2;refine zAp ⟨ofL [(0,.s (.sl 4 (Nd.encs a))),(1,.s (.sl 4 (Nd.encs b))),(5,.orow 0),(7,.s (.int .i64 (i : Int))),(8,.s (.int .i64 (j : Int))),(9,.s (.int .i64 (l2)))],zK0 43 (zDo (a.length + 1)) (ddyn 3 i (List.replicate (b.length + 1) 0) ((List.replicate (j + 1) 0 ++ w :: ws) :: r1 :: L)),a.length + 2⟩ ?_ (fun σ' hle => ?_)
           ·refine zAa ?_;refine zAz (by exact tokW) (by exact gok) (by exact mixed) [] [96,97,101,102,107,111] [] rfl (by decide +kernel) ?_;intro n1 hn1;obtain rfl : (a.length : Int) = n1:=(hn1.trans (congrArg (fun m : Nat => (m : Int)) (rlen Nd.encs_eq a))).symm;intro b1 hb1;obtain rfl : true = b1:=(hb1.trans (decide_eq_true (by omega))).symm;intro n1 hn1;obtain rfl : (b.length : Int) = n1:=(hn1.trans (congrArg (fun m : Nat => (m : Int)) (rlen Nd.encs_eq b))).symm;intro b1 hb1;obtain rfl : true = b1:=(hb1.trans (decide_eq_true (by omega))).symm;refine And.intro ⟨Int.natCast_nonneg _,Int.ofNat_lt.2 (by rw [rlen Nd.encs_eq]; omega)⟩ ?_;intro r hr
            obtain rfl : [.int .i64 xk,.str xt,.int .i64 xc,.sl 4 (Nd.encs xks)] = r:=(hr.trans (zEu ha)).symm;refine And.intro ⟨Int.natCast_nonneg _,Int.ofNat_lt.2 (by rw [rlen Nd.encs_eq]; omega)⟩ ?_;intro r hr;obtain rfl : [.int .i64 yk,.str yt,.int .i64 yc,.sl 4 (Nd.encs yks)] = r:=(hr.trans (zEu hy)).symm;refine ⟨_,⟨_,_,_,hal,rfl,rfl⟩,?_⟩
            show Tri _ _ _ _;refine zAe rfl (fun hb => ?_) (fun hb => ?_)
            ·rw [hb] at hl2;obtain ⟨p,hp,rfl⟩:=hl2;refine zAz (by exact tokW) (by exact gok) (by exact mixed) [] [118,122,127,131] [13,14,17,18] rfl (by decide +kernel) ?_;refine And.intro ⟨Int.natCast_nonneg _,Int.ofNat_lt.2 (by rw [rlen Nd.encs_eq]; omega)⟩ ?_;intro r hr;obtain rfl : [.int .i64 xk,.str xt,.int .i64 xc,.sl 4 (Nd.encs xks)] = r:=(hr.trans (zEu ha)).symm;refine And.intro ⟨Int.natCast_nonneg _,Int.ofNat_lt.2 (by rw [rlen Nd.encs_eq]; omega)⟩ ?_;intro r hr;obtain rfl : [.int .i64 yk,.str yt,.int .i64 yc,.sl 4 (Nd.encs yks)] = r:=(hr.trans (zEu hy)).symm;refine ⟨_,⟨_,_,_,hp,rfl,rfl⟩,?_⟩
             intro z hz;obtain rfl : ((i + 1 : Nat) : Int) = z:=(hz.trans (zAL (by omega))).symm;refine And.intro ⟨Int.natCast_nonneg _,Int.ofNat_lt.2 hlt2k⟩ ?_;refine And.intro hlt2k ⟨_,hgk2,?_⟩
             intro z hz;obtain rfl : ((j + 1 : Nat) : Int) = z:=(hz.trans (zAL (by omega))).symm;refine zJO rfl rfl rfl rfl rfl (zKX rfl rfl rfl rfl rfl rfl zH3 rfl) ⟨Int.natCast_nonneg _,Int.ofNat_lt.2 hltr2⟩ ?_;refine zQm rfl rfl rfl rfl rfl rfl zH3 hltr2 (zH8 hv2) ?_;exact Le.forgetH _ _ _ ⟨rfl,rfl,rfl,rfl,rfl,rfl,trivial⟩ (fun k => rfl) rfl
            ·rw [hb] at hl2;cases hl2;refine zAj ?_;exact Le.forgetH _ _ _ ⟨rfl,rfl,rfl,rfl,rfl,rfl,trivial⟩ (fun k => rfl) rfl
           ·show Tri _ _ _ _;refine zAm hle ?_;refine zAb [] [141] rfl ?_;refine And.intro ⟨Int.natCast_nonneg _,Int.ofNat_lt.2 hltk⟩ ?_;refine And.intro hltk ⟨_,hgk,?_⟩
            intro z9 hz9;subst hz9;refine zAt rfl rfl rfl rfl rfl (zKX rfl rfl rfl rfl rfl rfl zCR rfl) ⟨Int.natCast_nonneg _,Int.ofNat_lt.2 hlt4'⟩ ?_;refine zDW rfl rfl rfl (zNn rfl rfl rfl rfl zCR rfl rfl rfl) hlt4' ?_;show Tri _ _ _ _;refine zAb [] [] rfl ?_;refine ⟨(j,(z9 :: w :: ws)),.inr ⟨by omega,hqq⟩,Le.forgetH _ _ _ ⟨rfl,rfl,rfl,rfl,congrArg (fun z => AV.s (.int .i64 z)) wj,trivial⟩ (fun k => ?_) rfl,Nat.lt_succ_self j⟩
            cases k with
            | zero => rfl
            | succ q =>
             show (bif Nat.beq (q + 1) (i + 1) then some (Ob.row 3 1 (((List.replicate (j + 1) 0 ++ w :: ws).map (irow .i64)).set j ((((List.replicate (j + 1) 0 ++ w :: ws).map (irow .i64)).getD j []).take 0 ++ [S.int .i64 (z9)] ++ (((List.replicate (j + 1) 0 ++ w :: ws).map (irow .i64)).getD j []).drop (0 + 1)))) else ddyn 3 i (List.replicate (b.length + 1) 0) ((List.replicate (j + 1) 0 ++ w :: ws) :: (r1 :: L)) q) = ddyn 3 i (List.replicate (b.length + 1) 0) ((List.replicate j 0 ++ (z9 :: w :: ws)) :: (r1 :: L)) q;rw [zHF (l:=List.replicate (j + 1) 0 ++ w :: ws) (j:=j) (v:=0) (x:=z9) (by simp [List.getElem?_append]),zF1]
             exact zMG q
        ·refine zAC ?_;have hk : k = 0:=by
          rw [h37] at hb;have:=of_decide_eq_false hb; omega
         subst hk;rcases hI with ⟨h1,_⟩ | ⟨_,h1⟩
         ·omega
         ·rw [List.drop_zero,List.drop_zero,hrow] at h1;cases h1;exact Le.forgetH _ _ _ ⟨rfl,rfl,rfl,rfl,trivial⟩ (fun k => rfl) rfl
      ·show Tri _ _ _ _;refine zAm hle ?_;refine zAb [] [] rfl ?_;refine ⟨(i,rr :: r1 :: L),.inr ⟨by omega,hq0⟩,Le.forgetH _ _ _ ⟨rfl,rfl,rfl,congrArg (fun z => AV.s (.int .i64 z)) (wrap64_in (by omega) (by omega)),trivial⟩ (fun k => rfl) rfl,Nat.lt_succ_self _⟩
    ·refine zAC ?_;have hk : k = 0:=by
      rw [h31] at hb;have:=of_decide_eq_false hb; omega
     subst hk;rcases hI with ⟨h1,_⟩ | ⟨_,h1⟩
     ·omega
     ·rw [List.drop_zero,h] at h1;cases h1;exact Le.forgetH _ _ _ ⟨rfl,rfl,rfl,trivial⟩ (fun k => rfl) rfl
  ·show Tri _ _ _ _;refine zAm hle ?_;refine zAa ?_;refine zAb [] [] rfl ?_;show Tri _ _ _ _;refine zAv ?_;unfold zAO;have hyl:=zPk h;refine ⟨_,Le.giveWhole [(4,.s (.sl 1 (y0.map fun r => [S.sl 1 (r.map (irow .i64))])))] ⟨.arow rfl (by rw [zKE,List.length_map,hyl]) (fun r hr => by obtain ⟨r',_,rfl⟩:=List.mem_map.1 hr; rfl) fun q x s hx hs => ?_,trivial⟩ rfl,rfl,rfl⟩
   have e2 : (y0.map fun r => [S.sl 1 (r.map (irow .i64))]).flatten = y0.map fun r => S.sl 1 (r.map (irow .i64)):=zR6 _ y0
   have e1 : (zDo (a.length + 1)).flatten = (List.range (a.length + 1)).map fun q => AV.orow (q + 1):=zR6 _ _
   rw [e1,List.getElem?_map] at hx;rw [e2,List.getElem?_map] at hs;cases hy : y0[q]? with
   | none => rw [hy] at hs; cases hs
   | some r =>
    rw [hy] at hs; cases hs
    have hql : q < a.length + 1 :=(by rw [← hyl]; exact (List.getElem?_eq_some_iff.1 hy).1);rw [List.getElem?_range hql] at hx;cases hx;exact .row (e:=3) (show ddyn 3 0 (List.replicate (b.length + 1) 0) y0 q = some (.row 3 1 (r.map (irow .i64))) by simp [ddyn,hy])
theorem zHY : ∀ n,PSound Tryz.prog 78 (zAG (zEB n)) ∧ PSound Tryz.prog 76 (zAG (zDT n)):=by
 intro n
 induction n with
 | zero =>
  refine ⟨?_,?_⟩
  ·exact zBw Tryz.call78 (fun xs r h => by obtain ⟨_,_,_,h,_⟩:=h; rw [zB2] at h; cases h)
  ·exact zBw Tryz.call76 (fun xs r h => by obtain ⟨_,_,_,h,_⟩:=h; rw [zCd] at h; cases h)
 | succ n ih =>
  obtain ⟨ih_r16_pair,ih_r16_table⟩:=ih;exact ⟨zNt n ih_r16_pair ih_r16_table,zLA n ih_r16_pair ih_r16_table⟩
def zLI : zAx:=zAG fun xs r => ∃ n,zEB n xs r
theorem zP0 : PSound Tryz.prog 78 zLI:=zB3 (fun n => (zHY n).1)
def zJ8 : zAx:=zAG fun xs r => ∃ n,zDT n xs r
theorem zOO : PSound Tryz.prog 76 zJ8:=zB3 (fun n => (zHY n).2)
def zGb (n : Nat) (xs : List AV) (r : Ret) : Prop:=∃ (a0 : Int) (y0 : List UInt8),zDK n a0 = some y0 ∧ xs = [.s (.int .i64 a0)] ∧ r = .val (.s (.str y0))
theorem zPc (n : Nat) (ih : PSound Tryz.prog 104 (zAG (zGb n))) : PSound Tryz.prog 104 (zAG (zGb (n + 1))):=by
 have gok : ∀ f s,look? f [(104,zAG (zGb n))] = some s → PSound Tryz.prog f s:=zAB (by
  simp only [List.forall_mem_cons]
  exact ⟨ih,by simp⟩)
 refine zAS tokW Tryz.call104 Tryz.func104 rfl (fun xs r h => by obtain ⟨_,_,_,rfl,_⟩:=h; show 1 ≤ 44; decide) 44 rfl ?_;rintro xs r w0 G0 ⟨n1,y0,h,rfl,rfl⟩ _;rw [zDK] at h;refine zAa ?_;refine zAb [] [] rfl ?_;show Tri _ _ _ _;refine zAa ?_;refine zAa ?_;refine zAb [] [] rfl ?_;show Tri _ _ _ _;refine zAe rfl (fun hb => ?_) (fun hb => ?_)
 ·replace h:=zAr hb h;refine zAa ?_;refine zAb [] [11,12] rfl ?_;refine And.intro (by decide) ?_;intro r2 hr2;obtain rfl : (List.map brow) [b8of (IntKind.u8.wrap (IntKind.i64.wrap (48 - (n1.tmod 10))))] = r2:=(hr2.trans (by simp [List.map_append,List.map_take,List.map_drop,irow,brow,zAF,List.map_cons,List.map_nil,zAy,Nd.encs_eq,Nd.enc,zAh,zAg,zAi,zAs,zAu,zAn,zAl,zAd])).symm
  refine And.intro (show List.map brow [b8of (IntKind.u8.wrap (IntKind.i64.wrap (48 - (n1.tmod 10))))] = ((List.map brow [b8of (IntKind.u8.wrap (IntKind.i64.wrap (48 - (n1.tmod 10))))]).map zE9).map brow from by rw [zEe]) ?_;intro s3 hs3;obtain rfl : [b8of (IntKind.u8.wrap (IntKind.i64.wrap (48 - (n1.tmod 10))))] = s3:=(hs3.trans (zEe _)).symm;show Tri _ _ _ _;refine zAa ?_;refine zAa ?_;refine zAb [] [] rfl ?_;refine And.intro (by decide) ?_;show Tri _ _ _ _;refine zAe rfl (fun hb => ?_) (fun hb => ?_)
  ·replace h:=zAr hb h;refine zAa ?_;refine zAb [] [] rfl ?_;refine And.intro (by decide) ?_;obtain ⟨y4,hy4,h⟩:=zAc h;refine ⟨_,⟨_,_,hy4,rfl,rfl⟩,?_⟩
   obtain ⟨hq,h⟩:=zAJ h;refine And.intro (Nat.le_trans hq (by decide)) ?_;obtain ⟨hq,h⟩:=zAJ h;refine And.intro (Nat.le_trans hq (by decide)) ?_;show Tri _ _ _ _;refine zAv ?_;have hy:=Option.some.inj h;subst hy;unfold zAO;exact ⟨_,Le.refl _ _,rfl,rfl⟩
  ·replace h:=zAq hb h;refine zAj ?_;show Tri _ _ _ _;refine zAa ?_;refine zAb [] [] rfl ?_;obtain ⟨hq,h⟩:=zAJ h;refine And.intro (Nat.le_trans hq (by decide)) ?_;show Tri _ _ _ _;refine zAv ?_;have hy:=Option.some.inj h;subst hy;unfold zAO;exact ⟨_,Le.refl _ _,rfl,rfl⟩
 ·replace h:=zAq hb h;refine zAj ?_;show Tri _ _ _ _;refine zAa ?_;refine zAb [] [] rfl ?_;show Tri _ _ _ _;refine zAa ?_;obtain ⟨⟨n7,s8⟩,hl,h⟩:=zAc h;refine zAp ⟨ofL [(0,.s (.int .i64 n7)),(4,.s (.str s8))],fun _ => none,0⟩ ?_ (fun σ' hle => ?_)
  ·refine zAk (zAA (X:=Nat × Int × (List UInt8)) (fun y => match y with | (k,n5,s6) => ⟨ofL [(0,.s (.int .i64 n5)),(4,.s (.str s6))],fun _ => none,0⟩) (fun y => zBG  y.1 y.2.1 y.2.2 = some (n7,s8)) (fun y => y.1) (n,n1,[]) hl ?_ ?_)
   ·exact (Le.forget _ ⟨rfl,rfl,trivial⟩)
   ·rintro ⟨k,n5,s6⟩ h;cases k with
    | zero => cases h
    | succ k =>
     replace h : zBG  (k+1) n5 s6 = some (n7,s8):=h;rw [zBG] at h;refine zAa ?_;refine zAa ?_;refine zAb [] [] rfl ?_;show Tri _ _ _ _;refine zAe rfl (fun hb => ?_) (fun hb => ?_)
     ·replace h:=zAr hb h;refine zAj ?_;show Tri _ _ _ _;refine zAk ?_;refine zAa ?_;refine zAb [] [31,32] rfl ?_;refine And.intro (by decide) ?_;intro r9 hr9;obtain rfl : (List.map brow) [b8of (IntKind.u8.wrap (IntKind.i64.wrap (48 + (n5.tmod 10))))] = r9:=(hr9.trans (by simp [List.map_append,List.map_take,List.map_drop,irow,brow,zAF,List.map_cons,List.map_nil,zAy,Nd.encs_eq,Nd.enc,zAh,zAg,zAi,zAs,zAu,zAn,zAl,zAd])).symm
      refine And.intro (show List.map brow [b8of (IntKind.u8.wrap (IntKind.i64.wrap (48 + (n5.tmod 10))))] = ((List.map brow [b8of (IntKind.u8.wrap (IntKind.i64.wrap (48 + (n5.tmod 10))))]).map zE9).map brow from by rw [zEe]) ?_;intro s10 hs10;obtain rfl : [b8of (IntKind.u8.wrap (IntKind.i64.wrap (48 + (n5.tmod 10))))] = s10:=(hs10.trans (zEe _)).symm;obtain ⟨hq,h⟩:=zAJ h;refine And.intro (Nat.le_trans hq (by decide)) ?_;show Tri _ _ _ _;refine zAb [] [] rfl ?_;refine And.intro (by decide) ?_
      refine ⟨(k,IntKind.i64.wrap (n5.tdiv 10),[b8of (IntKind.u8.wrap (IntKind.i64.wrap (48 + (n5.tmod 10))))] ++ s6),h,(Le.forget _ ⟨rfl,rfl,trivial⟩),Nat.lt_succ_self k⟩
     ·replace h:=zAq hb h;refine zAC ?_;cases h;exact (Le.forget _ ⟨rfl,rfl,trivial⟩)
  ·show Tri _ _ _ _;refine zAm hle ?_;refine zAa ?_;refine zAb [] [40,41] rfl ?_;intro r11 hr11;obtain rfl : (List.map brow) [b8of (IntKind.u8.wrap (IntKind.i64.wrap (48 + n7)))] = r11:=(hr11.trans (by simp [List.map_append,List.map_take,List.map_drop,irow,brow,zAF,List.map_cons,List.map_nil,zAy,Nd.encs_eq,Nd.enc,zAh,zAg,zAi,zAs,zAu,zAn,zAl,zAd])).symm;refine And.intro (show List.map brow [b8of (IntKind.u8.wrap (IntKind.i64.wrap (48 + n7)))] = ((List.map brow [b8of (IntKind.u8.wrap (IntKind.i64.wrap (48 + n7)))]).map zE9).map brow from by rw [zEe]) ?_
   intro s12 hs12;obtain rfl : [b8of (IntKind.u8.wrap (IntKind.i64.wrap (48 + n7)))] = s12:=(hs12.trans (zEe _)).symm;obtain ⟨hq,h⟩:=zAJ h;refine And.intro (Nat.le_trans hq (by decide)) ?_;show Tri _ _ _ _;refine zAv ?_;have hy:=Option.some.inj h;subst hy;unfold zAO;exact ⟨_,Le.refl _ _,rfl,rfl⟩
theorem zPD : ∀ n,PSound Tryz.prog 104 (zAG (zGb n)):=by
 intro n
 induction n with
 | zero => exact zBw Tryz.call104 (fun xs r h => by obtain ⟨_,_,h,_⟩:=h; cases h)
 | succ n ih => exact zPc n ih
def zNX : zAx:=zAG fun xs r => ∃ n,zGb n xs r
theorem zRm : PSound Tryz.prog 104 zNX:=zB3 zPD
def zNQ (n : Nat) (xs : List AV) (r : Ret) : Prop:=∃ (a0 : List UInt8) (y0 : List UInt8),zEj n a0 = some y0 ∧ xs = [.s (.str a0)] ∧ r = .val (.s (.str y0))
def zI6 : zAx:=zAG fun xs r => ∃ n,zNQ n xs r
theorem zM8 : PSound Tryz.prog 105 zI6:=by
 have gok : ∀ (f : Nat) (s : zAx),(fun _ => none : Nat → Option zAx) f = some s → PSound Tryz.prog f s:=fun _ _ h => by cases h
 refine zAS tokW Tryz.call105 Tryz.func105 rfl (fun xs r h => by obtain ⟨n,_,_,_,rfl,_⟩:=h; show 1 ≤ 35; decide) 35 rfl ?_;rintro xs r w0 G0 ⟨n,s1,y0,h,rfl,rfl⟩ _;rw [zEj] at h;refine zAa ?_;refine zAb [] [] rfl ?_;show Tri _ _ _ _;refine zAa ?_;refine zAb [5] [] rfl ?_;show Tri _ _ _ _
 refine zAm (Le.rename [(0,0)] [(0,.s (.str s1)),(3,.orow 0)] [(0,.row 5 1 ((List.map brow) [b8of 34]))] 1 ⟨rfl,rfl,trivial⟩ ⟨rfl,⟨_,rfl,congrArg (Ob.row 5 1) (by simp [List.map_append,List.map_take,List.map_drop,irow,brow,zAF,List.map_cons,List.map_nil,zAy,Nd.encs_eq,Nd.enc,zAh,zAg,zAi,zAs,zAu,zAn,zAl,zAd])⟩,trivial⟩ rfl rfl rfl rfl rfl) ?_;refine zAa ?_;refine zAa ?_;refine zAb [] [] rfl ?_;show Tri _ _ _ _;obtain ⟨l5,hl,h⟩:=zAc h;refine zAp ⟨ofL [(3,.orow 0)],ofH [(0,.row 5 1 ((List.map brow) l5))],1⟩ ?_ (fun σ' hle => ?_)
 ·refine zAk (zAA (X:=Nat × Int × (List UInt8)) (fun y => match y with | (k,i3,l4) => ⟨ofL [(0,.s (.str s1)),(3,.orow 0),(4,.s (.int .i64 i3))],ofH [(0,.row 5 1 ((List.map brow) l4))],1⟩) (fun y => zBH s1 y.1 y.2.1 y.2.2 = some l5) (fun y => y.1) (n,0,[b8of 34]) hl ?_ ?_)
  ·exact (Le.rename [(0,0)] _ _ _ ⟨rfl,rfl,rfl,trivial⟩ ⟨rfl,⟨_,rfl,rfl⟩,trivial⟩ rfl rfl rfl rfl rfl)
  ·rintro ⟨k,i3,l4⟩ h;cases k with
   | zero => cases h
   | succ k =>
    replace h : zBH s1 (k+1) i3 l4 = some l5:=h;rw [zBH] at h;refine zAa ?_;refine zAa ?_;refine zAb [] [] rfl ?_;show Tri _ _ _ _;refine zAe rfl (fun hb => ?_) (fun hb => ?_)
    ·replace h:=zAr hb h;refine zAj ?_;show Tri _ _ _ _;refine zAa ?_;obtain ⟨l6,hj,h⟩:=zAc h;refine zAp ⟨ofL [(0,.s (.str s1)),(3,.orow 0),(4,.s (.int .i64 i3))],ofH [(0,.row 5 1 ((List.map brow) l6))],1⟩ ?_ (fun σ' hle => ?_)
     ·replace h:=hj;refine zAk ?_;refine zAa ?_;refine zAa ?_;obtain ⟨x7,hj,h⟩:=zAc h;refine zAp ⟨ofL [(0,.s (.str s1)),(3,.orow 0),(4,.s (.int .i64 i3)),(21,.s (.bool x7))],ofH [(0,.row 5 1 ((List.map brow) l4))],1⟩ ?_ (fun σ' hle => ?_)
      ·replace h:=hj;refine zAb [] [14,16,19] rfl ?_;obtain ⟨c8,hc8,h⟩:=zAc h;refine And.intro (zA4 hc8).1 ?_;intro v9 hv9;obtain rfl : (c8.toNat : Int) = v9:=(hv9.trans (zA4 hc8).2).symm;intro b hb;cases b with
       | true =>
        replace h:=zAr hb.symm h;cases h;exact (Le.rename [(0,0)] _ _ _ ⟨rfl,rfl,rfl,rfl,trivial⟩ ⟨rfl,⟨_,rfl,rfl⟩,trivial⟩ rfl rfl rfl rfl rfl)
       | false =>
        replace h:=zAq hb.symm h;obtain ⟨c10,hc10,h⟩:=zAc h;refine And.intro (zA4 hc10).1 ?_;intro v11 hv11;obtain rfl : (c10.toNat : Int) = v11:=(hv11.trans (zA4 hc10).2).symm;cases h;exact (Le.rename [(0,0)] _ _ _ ⟨rfl,rfl,rfl,rfl,trivial⟩ ⟨rfl,⟨_,rfl,rfl⟩,trivial⟩ rfl rfl rfl rfl rfl)
      ·show Tri _ _ _ _;refine zAm hle ?_;obtain ⟨l12,hj,h⟩:=zAc h;refine zAp ⟨ofL [(0,.s (.str s1)),(3,.orow 0),(4,.s (.int .i64 i3))],ofH [(0,.row 5 1 ((List.map brow) l12))],1⟩ ?_ (fun σ' hle => ?_)
       ·replace h:=hj;refine zAe rfl (fun hb => ?_) (fun hb => ?_)
        ·replace h:=zAr hb h;refine zAb [24] [23] rfl ?_;intro r13 hr13;obtain rfl : (List.map brow) [b8of 92] = r13:=(hr13.trans (by simp [List.map_append,List.map_take,List.map_drop,irow,brow,zAF,List.map_cons,List.map_nil,zAy,Nd.encs_eq,Nd.enc,zAh,zAg,zAi,zAs,zAu,zAn,zAl,zAd])).symm;obtain ⟨hq,h⟩:=zAJ h
         refine And.intro (show (((List.map brow) l4).length + ((List.map brow) [b8of 92]).length) * 1 ≤ 140737488355328 ∧ ((List.map brow) l4).length + ((List.map brow) [b8of 92]).length ≤ 9223372036854775807 from by simp only [List.length_append,List.length_cons,List.length_nil,List.length_map,rlen (fun _ => rfl)] at hq ⊢; omega) ?_;cases h
         exact (Le.trans (Le.rename [(1,0)] [(0,.s (.str s1)),(3,.orow 0),(4,.s (.int .i64 i3))] [(0,.row 5 1 ((List.map brow) (l4 ++ [b8of 92])))] 1 ⟨rfl,rfl,rfl,trivial⟩ ⟨rfl,⟨_,rfl,congrArg (Ob.row 5 1) (by simp [List.map_append,List.map_take,List.map_drop,irow,brow,zAF,List.map_cons,List.map_nil,zAy,Nd.encs_eq,Nd.enc,zAh,zAg,zAi,zAs,zAu,zAn,zAl,zAd])⟩,trivial⟩ rfl rfl rfl rfl rfl) (Le.rename [(0,0)] _ _ _ ⟨rfl,rfl,rfl,trivial⟩ ⟨rfl,⟨_,rfl,rfl⟩,trivial⟩ rfl rfl rfl rfl rfl))
        ·replace h:=zAq hb h;refine zAj ?_;cases h;exact (Le.rename [(0,0)] _ _ _ ⟨rfl,rfl,rfl,trivial⟩ ⟨rfl,⟨_,rfl,rfl⟩,trivial⟩ rfl rfl rfl rfl rfl)
       ·show Tri _ _ _ _;refine zAm hle ?_;refine zAb [30] [28,29] rfl ?_;obtain ⟨c14,hc14,h⟩:=zAc h;refine And.intro (zA4 hc14).1 ?_;intro v15 hv15;obtain rfl : (c14.toNat : Int) = v15:=(hv15.trans (zA4 hc14).2).symm;intro r16 hr16;obtain rfl : (List.map brow) [c14] = r16:=(hr16.trans (by simp [List.map_append,List.map_take,List.map_drop,irow,brow,zAF,List.map_cons,List.map_nil,zAy,Nd.encs_eq,Nd.enc,zAh,zAg,zAi,zAs,zAu,zAn,zAl,zAd])).symm;obtain ⟨hq,h⟩:=zAJ h
        refine And.intro (show (((List.map brow) l12).length + ((List.map brow) [c14]).length) * 1 ≤ 140737488355328 ∧ ((List.map brow) l12).length + ((List.map brow) [c14]).length ≤ 9223372036854775807 from by simp only [List.length_append,List.length_cons,List.length_nil,List.length_map,rlen (fun _ => rfl)] at hq ⊢; omega) ?_;cases h
        exact (Le.trans (Le.rename [(1,0)] [(0,.s (.str s1)),(3,.orow 0),(4,.s (.int .i64 i3))] [(0,.row 5 1 ((List.map brow) (l12 ++ [c14])))] 1 ⟨rfl,rfl,rfl,trivial⟩ ⟨rfl,⟨_,rfl,congrArg (Ob.row 5 1) (by simp [List.map_append,List.map_take,List.map_drop,irow,brow,zAF,List.map_cons,List.map_nil,zAy,Nd.encs_eq,Nd.enc,zAh,zAg,zAi,zAs,zAu,zAn,zAl,zAd])⟩,trivial⟩ rfl rfl rfl rfl rfl) (Le.rename [(0,0)] _ _ _ ⟨rfl,rfl,rfl,trivial⟩ ⟨rfl,⟨_,rfl,rfl⟩,trivial⟩ rfl rfl rfl rfl rfl))
     ·show Tri _ _ _ _;refine zAm hle ?_;refine zAb [] [] rfl ?_;refine ⟨(k,IntKind.i64.wrap (i3 + 1),l6),h,(Le.rename [(0,0)] _ _ _ ⟨rfl,rfl,rfl,trivial⟩ ⟨rfl,⟨_,rfl,rfl⟩,trivial⟩ rfl rfl rfl rfl rfl),Nat.lt_succ_self k⟩
    ·replace h:=zAq hb h;refine zAC ?_;cases h;exact (Le.rename [(0,0)] _ _ _ ⟨rfl,trivial⟩ ⟨rfl,⟨_,rfl,rfl⟩,trivial⟩ rfl rfl rfl rfl rfl)
 ·show Tri _ _ _ _;refine zAm hle ?_;refine zAa ?_;refine zAb [33] [32,34] rfl ?_;intro r17 hr17;obtain rfl : (List.map brow) [b8of 34] = r17:=(hr17.trans (by simp [List.map_append,List.map_take,List.map_drop,irow,brow,zAF,List.map_cons,List.map_nil,zAy,Nd.encs_eq,Nd.enc,zAh,zAg,zAi,zAs,zAu,zAn,zAl,zAd])).symm;obtain ⟨hq,h⟩:=zAJ h
  refine And.intro (show (((List.map brow) l5).length + ((List.map brow) [b8of 34]).length) * 1 ≤ 140737488355328 ∧ ((List.map brow) l5).length + ((List.map brow) [b8of 34]).length ≤ 9223372036854775807 from by simp only [List.length_append,List.length_cons,List.length_nil,List.length_map,rlen (fun _ => rfl)] at hq ⊢; omega) ?_
  have hraw : ((List.map brow) l5) ++ ((List.map brow) [b8of 34]) = (List.map brow) (l5 ++ [b8of 34]):=(show ((List.map brow) l5) ++ ((List.map brow) [b8of 34]) = (List.map brow) (l5 ++ [b8of 34]) from (by simp [List.map_append,List.map_take,List.map_drop,irow,brow,zAF,List.map_cons,List.map_nil,zAy,Nd.encs_eq,Nd.enc,zAh,zAg,zAi,zAs,zAu,zAn,zAl,zAd]))
  refine And.intro (show ((List.map brow) l5) ++ ((List.map brow) [b8of 34]) = ((((List.map brow) l5) ++ ((List.map brow) [b8of 34])).map zE9).map brow from by rw [hraw,zEe]) ?_;intro s18 hs18;obtain rfl : l5 ++ [b8of 34] = s18:=(hs18.trans ((congrArg (List.map zE9) hraw).trans (zEe _))).symm;show Tri _ _ _ _;refine zAm (Le.rename [] [(2,.s (.str (l5 ++ [b8of 34])))] [] 0 ⟨rfl,trivial⟩ trivial rfl rfl rfl rfl rfl) ?_;refine zAv ?_;have hy:=Option.some.inj h;subst hy;unfold zAO;exact ⟨_,Le.refl _ _,rfl,rfl⟩
def zFo (n : Nat) (xs : List AV) (r : Ret) : Prop:=∃ (a0 : Nd) (y0 : List UInt8),zCK n a0 = some y0 ∧ xs = [.agg ((Nd.enc a0).map .s)] ∧ r = .val (.s (.str y0))
theorem zNq (n : Nat) (ih : PSound Tryz.prog 79 (zAG (zFo n))) : PSound Tryz.prog 79 (zAG (zFo (n + 1))):=by
 have gok : ∀ f s,look? f [(104,zNX),(105,zI6),(79,zAG (zFo n))] = some s → PSound Tryz.prog f s:=zAB (by
  simp only [List.forall_mem_cons]
  exact ⟨zRm,zM8,ih,by simp⟩)
 refine zAS tokW Tryz.call79 Tryz.func79 rfl (fun xs r h => by obtain ⟨_,_,_,rfl,_⟩:=h; show 1 ≤ 69; decide) 69 rfl ?_;rintro xs r w0 G0 ⟨⟨a1_kind,a1_text,a1_cols,a1_kids⟩,y0,h,rfl,rfl⟩ _;rw [zCK] at h;refine zAa ?_;refine zAb [] [] rfl ?_;show Tri _ _ _ _;refine zAa ?_;refine zAb [3] [] rfl ?_;show Tri _ _ _ _
 refine zAm (Le.giveBox 0 [.str [],.str [114,111,119],.str [115,121,109],.str [110,117,109],.str [116,101,120,116],.str [102,114,97,99],.str [114,111,111,116],.str [115,117,98],.str [115,117,112],.str [98,111,116,104],.str [97,99,99,101,110,116],.str [102,101,110,99,101],.str [109,97,116,114,105,120]] rfl rfl) ?_;refine zAa ?_;refine zAb [] [] rfl ?_;obtain ⟨y2,hy2,h⟩:=zAc h;refine ⟨_,⟨_,_,_,hy2,rfl,rfl⟩,?_⟩
 obtain ⟨hq,h⟩:=zAJ h;refine And.intro (Nat.le_trans hq (by decide)) ?_;show Tri _ _ _ _;refine zAa ?_;refine zAa ?_;obtain ⟨x3,hj,h⟩:=zAc h
 refine zAp ⟨ofL [(1,.s (.pt [.int .i64 a1_kind,.str a1_text,.int .i64 a1_cols,.sl 4 (Nd.encs a1_kids)])),(3,.s (.pt [.str [],.str [114,111,119],.str [115,121,109],.str [110,117,109],.str [116,101,120,116],.str [102,114,97,99],.str [114,111,111,116],.str [115,117,98],.str [115,117,112],.str [98,111,116,104],.str [97,99,99,101,110,116],.str [102,101,110,99,101],.str [109,97,116,114,105,120]])),(4,.s (.str ([110,111,100,101] ++ y2))),(18,.s (.bool x3))],fun _ => none,0⟩ ?_ (fun σ' hle => ?_)
 ·replace h:=hj;refine zAb [] [14] rfl ?_;intro b hb;cases b with
  | true =>
   replace h:=zAr hb.symm h;cases h;exact (Le.rename [] _ [] 0 ⟨rfl,rfl,rfl,rfl,trivial⟩ trivial rfl rfl rfl rfl rfl)
  | false =>
   replace h:=zAq hb.symm h;cases h;exact (Le.rename [] _ [] 0 ⟨rfl,rfl,rfl,rfl,trivial⟩ trivial rfl rfl rfl rfl rfl)
 ·show Tri _ _ _ _;refine zAm hle ?_;obtain ⟨x4,hj,h⟩:=zAc h;refine zAp ⟨ofL [(1,.s (.pt [.int .i64 a1_kind,.str a1_text,.int .i64 a1_cols,.sl 4 (Nd.encs a1_kids)])),(4,.s (.str x4))],fun _ => none,0⟩ ?_ (fun σ' hle => ?_)
  ·replace h:=hj;refine zAe rfl (fun hb => ?_) (fun hb => ?_)
   ·replace h:=zAr hb h;refine zAb [] [20] rfl ?_;intro vsp hvsp;cases hc : (a1_kind == 1) with
    | true =>
     replace h:=zAr hc h;obtain rfl : (1 : Int) = vsp:=(hvsp.trans (eq_of_beq hc)).symm;refine And.intro (by decide) ?_;cases h;exact (Le.forget _ ⟨rfl,rfl,trivial⟩)
    | false =>
     replace h:=zAq hc h;cases hc : (a1_kind == 2) with
     | true =>
      replace h:=zAr hc h;obtain rfl : (2 : Int) = vsp:=(hvsp.trans (eq_of_beq hc)).symm;refine And.intro (by decide) ?_;cases h;exact (Le.forget _ ⟨rfl,rfl,trivial⟩)
     | false =>
      replace h:=zAq hc h;cases hc : (a1_kind == 3) with
      | true =>
       replace h:=zAr hc h;obtain rfl : (3 : Int) = vsp:=(hvsp.trans (eq_of_beq hc)).symm;refine And.intro (by decide) ?_;cases h;exact (Le.forget _ ⟨rfl,rfl,trivial⟩)
      | false =>
       replace h:=zAq hc h;cases hc : (a1_kind == 4) with
       | true =>
        replace h:=zAr hc h;obtain rfl : (4 : Int) = vsp:=(hvsp.trans (eq_of_beq hc)).symm;refine And.intro (by decide) ?_;cases h;exact (Le.forget _ ⟨rfl,rfl,trivial⟩)
       | false =>
        replace h:=zAq hc h;cases hc : (a1_kind == 5) with
        | true =>
         replace h:=zAr hc h;obtain rfl : (5 : Int) = vsp:=(hvsp.trans (eq_of_beq hc)).symm;refine And.intro (by decide) ?_;cases h;exact (Le.forget _ ⟨rfl,rfl,trivial⟩)
        | false =>
         replace h:=zAq hc h;cases hc : (a1_kind == 6) with
         | true =>
          replace h:=zAr hc h;obtain rfl : (6 : Int) = vsp:=(hvsp.trans (eq_of_beq hc)).symm;refine And.intro (by decide) ?_;cases h;exact (Le.forget _ ⟨rfl,rfl,trivial⟩)
         | false =>
          replace h:=zAq hc h;cases hc : (a1_kind == 7) with
          | true =>
           replace h:=zAr hc h;obtain rfl : (7 : Int) = vsp:=(hvsp.trans (eq_of_beq hc)).symm;refine And.intro (by decide) ?_;cases h;exact (Le.forget _ ⟨rfl,rfl,trivial⟩)
          | false =>
           replace h:=zAq hc h;cases hc : (a1_kind == 8) with
           | true =>
            replace h:=zAr hc h;obtain rfl : (8 : Int) = vsp:=(hvsp.trans (eq_of_beq hc)).symm;refine And.intro (by decide) ?_;cases h;exact (Le.forget _ ⟨rfl,rfl,trivial⟩)
           | false =>
            replace h:=zAq hc h;cases hc : (a1_kind == 9) with
            | true =>
             replace h:=zAr hc h;obtain rfl : (9 : Int) = vsp:=(hvsp.trans (eq_of_beq hc)).symm;refine And.intro (by decide) ?_;cases h;exact (Le.forget _ ⟨rfl,rfl,trivial⟩)
            | false =>
             replace h:=zAq hc h;cases hc : (a1_kind == 10) with
             | true =>
              replace h:=zAr hc h;obtain rfl : (10 : Int) = vsp:=(hvsp.trans (eq_of_beq hc)).symm;refine And.intro (by decide) ?_;cases h;exact (Le.forget _ ⟨rfl,rfl,trivial⟩)
             | false =>
              replace h:=zAq hc h;cases hc : (a1_kind == 11) with
              | true =>
               replace h:=zAr hc h;obtain rfl : (11 : Int) = vsp:=(hvsp.trans (eq_of_beq hc)).symm;refine And.intro (by decide) ?_;cases h;exact (Le.forget _ ⟨rfl,rfl,trivial⟩)
              | false =>
               replace h:=zAq hc h;cases hc : (a1_kind == 12) with
               | true =>
                replace h:=zAr hc h;obtain rfl : (12 : Int) = vsp:=(hvsp.trans (eq_of_beq hc)).symm;refine And.intro (by decide) ?_;cases h;exact (Le.forget _ ⟨rfl,rfl,trivial⟩)
               | false =>
                replace h:=zAq hc h;cases h
   ·replace h:=zAq hb h;refine zAj ?_;cases h;exact (Le.forget _ ⟨rfl,rfl,trivial⟩)
  ·show Tri _ _ _ _;refine zAm hle ?_;refine zAa ?_;refine zAa ?_;refine zAb [] [] rfl ?_;show Tri _ _ _ _;obtain ⟨x5,hj,h⟩:=zAc h;refine zAp ⟨ofL [(1,.s (.pt [.int .i64 a1_kind,.str a1_text,.int .i64 a1_cols,.sl 4 (Nd.encs a1_kids)])),(4,.s (.str x5))],fun _ => none,0⟩ ?_ (fun σ' hle => ?_)
   ·replace h:=hj;refine zAe rfl (fun hb => ?_) (fun hb => ?_)
    ·replace h:=zAr hb h;refine zAb [] [] rfl ?_;obtain ⟨hq,h⟩:=zAJ h;refine And.intro (Nat.le_trans hq (by decide)) ?_;obtain ⟨y6,hy6,h⟩:=zAc h;refine ⟨_,⟨_,_,_,hy6,rfl,rfl⟩,?_⟩
     obtain ⟨hq,h⟩:=zAJ h;refine And.intro (Nat.le_trans hq (by decide)) ?_;cases h;exact (Le.forget _ ⟨rfl,rfl,trivial⟩)
    ·replace h:=zAq hb h;refine zAj ?_;cases h;exact (Le.forget _ ⟨rfl,rfl,trivial⟩)
   ·show Tri _ _ _ _;refine zAm hle ?_;refine zAa ?_;refine zAa ?_;refine zAb [] [] rfl ?_;show Tri _ _ _ _;obtain ⟨x7,hj,h⟩:=zAc h;refine zAp ⟨ofL [(1,.s (.pt [.int .i64 a1_kind,.str a1_text,.int .i64 a1_cols,.sl 4 (Nd.encs a1_kids)])),(4,.s (.str x7))],fun _ => none,0⟩ ?_ (fun σ' hle => ?_)
    ·replace h:=hj;refine zAe rfl (fun hb => ?_) (fun hb => ?_)
     ·replace h:=zAr hb h;refine zAb [] [] rfl ?_;obtain ⟨hq,h⟩:=zAJ h;refine And.intro (Nat.le_trans hq (by decide)) ?_;obtain ⟨y8,hy8,h⟩:=zAc h;refine ⟨_,⟨_,_,_,hy8,rfl,rfl⟩,?_⟩
      obtain ⟨hq,h⟩:=zAJ h;refine And.intro (Nat.le_trans hq (by decide)) ?_;cases h;exact (Le.forget _ ⟨rfl,rfl,trivial⟩)
     ·replace h:=zAq hb h;refine zAj ?_;cases h;exact (Le.forget _ ⟨rfl,rfl,trivial⟩)
    ·show Tri _ _ _ _;refine zAm hle ?_;refine zAa ?_;refine zAa ?_;refine zAb [] [43] rfl ?_;intro n9 hn9;obtain rfl : (a1_kids.length : Int) = n9:=(hn9.trans (congrArg (fun m : Nat => (m : Int)) (rlen Nd.encs_eq a1_kids))).symm;show Tri _ _ _ _;refine zAe rfl (fun hb => ?_) (fun hb => ?_)
     ·replace h:=zAr hb h;refine zAa ?_;refine zAb [] [] rfl ?_;show Tri _ _ _ _;refine zAv ?_;have hy:=Option.some.inj h;subst hy;unfold zAO;exact ⟨_,Le.refl _ _,rfl,rfl⟩
     ·replace h:=zAq hb h;refine zAj ?_;show Tri _ _ _ _;refine zAa ?_;refine zAb [] [] rfl ?_;obtain ⟨hq,h⟩:=zAJ h;refine And.intro (Nat.le_trans hq (by decide)) ?_;show Tri _ _ _ _;refine zAa ?_;refine zAa ?_;refine zAb [] [] rfl ?_;show Tri _ _ _ _;obtain ⟨x12,hl,h⟩:=zAc h;refine zAp ⟨ofL [(4,.s (.str x12))],fun _ => none,0⟩ ?_ (fun σ' hle => ?_)
      ·refine zAk (zAA (X:=Nat × (List UInt8) × Int) (fun y => match y with | (k,x10,x11) => ⟨ofL [(1,.s (.pt [.int .i64 a1_kind,.str a1_text,.int .i64 a1_cols,.sl 4 (Nd.encs a1_kids)])),(4,.s (.str x10)),(5,.s (.int .i64 x11))],fun _ => none,0⟩) (fun y => zCu (zCK n) a1_kids y.1 y.2.1 y.2.2 = some x12) (fun y => y.1) (n,x7 ++ [40],0) hl ?_ ?_)
       ·exact (Le.forget _ ⟨rfl,rfl,rfl,trivial⟩)
       ·rintro ⟨k,x10,x11⟩ h;cases k with
        | zero => cases h
        | succ k =>
         replace h : zCu (zCK n) a1_kids (k+1) x10 x11 = some x12:=h;rw [zCu] at h;refine zAa ?_;refine zAa ?_;refine zAb [] [51] rfl ?_;intro n13 hn13;obtain rfl : (a1_kids.length : Int) = n13:=(hn13.trans (congrArg (fun m : Nat => (m : Int)) (rlen Nd.encs_eq a1_kids))).symm;show Tri _ _ _ _;refine zAe rfl (fun hb => ?_) (fun hb => ?_)
         ·replace h:=zAr hb h;refine zAj ?_;show Tri _ _ _ _;refine zAa ?_;obtain ⟨x14,hj,h⟩:=zAc h;refine zAp ⟨ofL [(1,.s (.pt [.int .i64 a1_kind,.str a1_text,.int .i64 a1_cols,.sl 4 (Nd.encs a1_kids)])),(4,.s (.str x14)),(5,.s (.int .i64 x11))],fun _ => none,0⟩ ?_ (fun σ' hle => ?_)
          ·replace h:=hj;refine zAk ?_;refine zAa ?_;refine zAa ?_;refine zAb [] [] rfl ?_;show Tri _ _ _ _;obtain ⟨x15,hj,h⟩:=zAc h;refine zAp ⟨ofL [(1,.s (.pt [.int .i64 a1_kind,.str a1_text,.int .i64 a1_cols,.sl 4 (Nd.encs a1_kids)])),(4,.s (.str x15)),(5,.s (.int .i64 x11))],fun _ => none,0⟩ ?_ (fun σ' hle => ?_)
           ·replace h:=hj;refine zAe rfl (fun hb => ?_) (fun hb => ?_)
            ·replace h:=zAr hb h;refine zAb [] [] rfl ?_;obtain ⟨hq,h⟩:=zAJ h;refine And.intro (Nat.le_trans hq (by decide)) ?_;cases h;exact (Le.forget _ ⟨rfl,rfl,rfl,trivial⟩)
            ·replace h:=zAq hb h;refine zAj ?_;cases h;exact (Le.forget _ ⟨rfl,rfl,rfl,trivial⟩)
           ·show Tri _ _ _ _;refine zAm hle ?_;refine zAb [] [63] rfl ?_;obtain ⟨⟨e16_kind,e16_text,e16_cols,e16_kids⟩,he16,h⟩:=zAc h;refine And.intro (zAw Nd.encs_eq he16).1 ?_;intro r17 hr17;obtain rfl : [.int .i64 e16_kind,.str e16_text,.int .i64 e16_cols,.sl 4 (Nd.encs e16_kids)] = r17:=(hr17.trans (zAw Nd.encs_eq he16).2.1).symm;obtain ⟨y18,hy18,h⟩:=zAc h;refine ⟨_,⟨_,_,hy18,rfl,rfl⟩,?_⟩
            obtain ⟨hq,h⟩:=zAJ h;refine And.intro (Nat.le_trans hq (by decide)) ?_;cases h;exact (Le.forget _ ⟨rfl,rfl,rfl,trivial⟩)
          ·show Tri _ _ _ _;refine zAm hle ?_;refine zAb [] [] rfl ?_;refine ⟨(k,x14,IntKind.i64.wrap (x11 + 1)),h,(Le.forget _ ⟨rfl,rfl,rfl,trivial⟩),Nat.lt_succ_self k⟩
         ·replace h:=zAq hb h;refine zAC ?_;cases h;exact (Le.forget _ ⟨rfl,trivial⟩)
      ·show Tri _ _ _ _;refine zAm hle ?_;refine zAa ?_;refine zAb [] [] rfl ?_;obtain ⟨hq,h⟩:=zAJ h;refine And.intro (Nat.le_trans hq (by decide)) ?_;show Tri _ _ _ _;refine zAv ?_;have hy:=Option.some.inj h;subst hy;unfold zAO;exact ⟨_,Le.refl _ _,rfl,rfl⟩
theorem zN0 : ∀ n,PSound Tryz.prog 79 (zAG (zFo n)):=by
 intro n
 induction n with
 | zero => exact zBw Tryz.call79 (fun xs r h => by obtain ⟨_,_,h,_⟩:=h; cases h)
 | succ n ih => exact zNq n ih
def zLC : zAx:=zAG fun xs r => ∃ n,zFo n xs r
theorem zPU : PSound Tryz.prog 79 zLC:=zB3 zN0
def zPB (n : Nat) (xs : List AV) (r : Ret) : Prop:=∃ (a0 : List Nd) (a1 : List Nd) (y0 : List (Int × Int)),zD1 n a0 a1 = some y0 ∧ xs = [.s (.sl 4 (Nd.encs a0)),.s (.sl 4 (Nd.encs a1))] ∧ r = .row 83 2 ((List.map zAl) y0)
def zHn : zAx:=zAG fun xs r => ∃ n,zPB n xs r
theorem zJm : PSound Tryz.prog 50 zHn:=by
 have gok : ∀ f s,look? f [(76,zJ8),(28,zFP),(77,zHm),(78,zLI),(79,zLC)] = some s → PSound Tryz.prog f s:=zAB (by
  simp only [List.forall_mem_cons]
  exact ⟨zOO,zGy,zJl,zP0,zPU,by simp⟩)
 refine zAS tokW Tryz.call50 Tryz.func50 rfl (fun xs r h => by obtain ⟨n,_,_,_,_,rfl,_⟩:=h; show 2 ≤ 141; decide) 141 rfl ?_;rintro xs r w0 G0 ⟨n,a1,a2,y0,h,rfl,rfl⟩ _;rw [zD1] at h;refine zAa ?_;refine zAb [4] [] rfl ?_;show Tri _ _ _ _;refine zAm (Le.rename [] [(0,.s (.sl 4 (Nd.encs a1))),(1,.s (.sl 4 (Nd.encs a2)))] [] 0 ⟨rfl,rfl,trivial⟩ trivial rfl rfl rfl rfl rfl) ?_;refine zAa ?_;refine zAb [] [] rfl ?_;obtain ⟨y3,hy3,h⟩:=zAc h;refine ⟨_,⟨_,_,_,_,hy3,rfl,rfl⟩,?_⟩
 show Tri _ _ _ _;refine zAa ?_;refine zAb [6] [] rfl ?_;show Tri _ _ _ _;refine zAm (Le.rename [(0,0)] [(0,.s (.sl 4 (Nd.encs a1))),(1,.s (.sl 4 (Nd.encs a2))),(5,.s (.sl 1 ((List.map zAu) y3))),(6,.orow 0)] [(0,.row 83 2 ((List.map zAl) []))] 1 ⟨rfl,rfl,rfl,rfl,trivial⟩ ⟨rfl,⟨_,rfl,congrArg (Ob.row 83 2) (by simp [List.map_append,List.map_take,List.map_drop,irow,brow,zAF,List.map_cons,List.map_nil,zAy,Nd.encs_eq,Nd.enc,zAh,zAg,zAi,zAs,zAu,zAn,zAl,zAd])⟩,trivial⟩ rfl rfl rfl rfl rfl) ?_;refine zAa ?_;refine zAb [] [] rfl ?_
 show Tri _ _ _ _;refine zAa ?_;obtain ⟨l8,hl,h⟩:=zAc h;refine zAp ⟨ofL [(6,.orow 0)],ofH [(0,.row 83 2 ((List.map zAl) l8))],1⟩ ?_ (fun σ' hle => ?_)
 ·refine zAk (zAA (X:=Nat × Int × Int × (List (Int × Int))) (fun y => match y with | (k,x5,x6,l7) => ⟨ofL [(0,.s (.sl 4 (Nd.encs a1))),(1,.s (.sl 4 (Nd.encs a2))),(5,.s (.sl 1 ((List.map zAu) y3))),(6,.orow 0),(7,.s (.int .i64 x5)),(8,.s (.int .i64 x6))],ofH [(0,.row 83 2 ((List.map zAl) l7))],1⟩) (fun y => zA7 n a1 a2 y3 y.1 y.2.1 y.2.2.1 y.2.2.2 = some l8) (fun y => y.1) (n,0,0,[]) hl ?_ ?_)
  ·exact (Le.rename [(0,0)] _ _ _ ⟨rfl,rfl,rfl,rfl,rfl,rfl,trivial⟩ ⟨rfl,⟨_,rfl,rfl⟩,trivial⟩ rfl rfl rfl rfl rfl)
  ·rintro ⟨k,x5,x6,l7⟩ h;cases k with
   | zero => cases h
   | succ k =>
    replace h : zA7 n a1 a2 y3 (k+1) x5 x6 l7 = some l8:=h;rw [zA7] at h;refine zAa ?_;refine zAa ?_;obtain ⟨x9,hj,h⟩:=zAc h;refine zAp ⟨ofL [(0,.s (.sl 4 (Nd.encs a1))),(1,.s (.sl 4 (Nd.encs a2))),(5,.s (.sl 1 ((List.map zAu) y3))),(6,.orow 0),(7,.s (.int .i64 x5)),(8,.s (.int .i64 x6)),(23,.s (.bool x9))],ofH [(0,.row 83 2 ((List.map zAl) l7))],1⟩ ?_ (fun σ' hle => ?_)
    ·replace h:=hj;refine zAb [] [16,18,21] rfl ?_;intro n10 hn10;obtain rfl : (a1.length : Int) = n10:=(hn10.trans (congrArg (fun m : Nat => (m : Int)) (rlen Nd.encs_eq a1))).symm;intro b hb;cases b with
     | true =>
      replace h:=zAr hb.symm h;intro n11 hn11;obtain rfl : (a2.length : Int) = n11:=(hn11.trans (congrArg (fun m : Nat => (m : Int)) (rlen Nd.encs_eq a2))).symm;cases h;exact (Le.rename [(0,0)] _ _ _ ⟨rfl,rfl,rfl,rfl,rfl,rfl,rfl,trivial⟩ ⟨rfl,⟨_,rfl,rfl⟩,trivial⟩ rfl rfl rfl rfl rfl)
     | false =>
      replace h:=zAq hb.symm h;cases h;exact (Le.rename [(0,0)] _ _ _ ⟨rfl,rfl,rfl,rfl,rfl,rfl,rfl,trivial⟩ ⟨rfl,⟨_,rfl,rfl⟩,trivial⟩ rfl rfl rfl rfl rfl)
    ·show Tri _ _ _ _;refine zAm hle ?_;refine zAe rfl (fun hb => ?_) (fun hb => ?_)
     ·replace h:=zAr hb h;refine zAj ?_;show Tri _ _ _ _;refine zAk ?_;refine zAa ?_;refine zAz (by exact tokW) (by exact gok) (by exact mixed) [] [26,32,35,40,43] [] rfl (by decide +kernel) ?_;obtain ⟨⟨e12_kind,e12_text,e12_cols,e12_kids⟩,he12,h⟩:=zAc h;refine And.intro (zAw Nd.encs_eq he12).1 ?_;intro r13 hr13;obtain rfl : [.int .i64 e12_kind,.str e12_text,.int .i64 e12_cols,.sl 4 (Nd.encs e12_kids)] = r13:=(hr13.trans (zAw Nd.encs_eq he12).2.1).symm;obtain ⟨y14,hy14,h⟩:=zAc h;refine ⟨_,⟨_,_,_,hy14,rfl,rfl⟩,?_⟩
      obtain ⟨e15,he15,h⟩:=zAc h;refine And.intro (zAw (fun _ => rfl) he15).1 ?_;intro r16 hr16;obtain rfl : [.sl 1 ((List.map (irow .i64)) e15)] = r16:=(hr16.trans (zAw (fun _ => rfl) he15).2.1).symm;obtain ⟨e17,he17,h⟩:=zAc h;refine And.intro (zAw (fun _ => rfl) he17).1 ?_;intro r18 hr18;obtain rfl : [.int .i64 e17] = r18:=(hr18.trans (zAw (fun _ => rfl) he17).2.1).symm;obtain ⟨e19,he19,h⟩:=zAc h;refine And.intro (zAw (fun _ => rfl) he19).1 ?_;intro r20 hr20;obtain rfl : [.sl 1 ((List.map (irow .i64)) e19)] = r20:=(hr20.trans (zAw (fun _ => rfl) he19).2.1).symm;obtain ⟨e21,he21,h⟩:=zAc h
      refine And.intro (zAw (fun _ => rfl) he21).1 ?_;intro r22 hr22;obtain rfl : [.int .i64 e21] = r22:=(hr22.trans (zAw (fun _ => rfl) he21).2.1).symm;show Tri _ _ _ _;refine zAa ?_;refine zAz (by exact tokW) (by exact gok) (by exact mixed) [] [48,53,57,62,65] [] rfl (by decide +kernel) ?_;obtain ⟨⟨e23_kind,e23_text,e23_cols,e23_kids⟩,he23,h⟩:=zAc h;refine And.intro (zAw Nd.encs_eq he23).1 ?_;intro r24 hr24;obtain rfl : [.int .i64 e23_kind,.str e23_text,.int .i64 e23_cols,.sl 4 (Nd.encs e23_kids)] = r24:=(hr24.trans (zAw Nd.encs_eq he23).2.1).symm;obtain ⟨y25,hy25,h⟩:=zAc h;refine ⟨_,⟨_,_,_,hy25,rfl,rfl⟩,?_⟩
      obtain ⟨e26,he26,h⟩:=zAc h;refine And.intro (zAw (fun _ => rfl) he26).1 ?_;intro r27 hr27;obtain rfl : [.sl 1 ((List.map (irow .i64)) e26)] = r27:=(hr27.trans (zAw (fun _ => rfl) he26).2.1).symm;obtain ⟨e28,he28,h⟩:=zAc h;refine And.intro (zAw (fun _ => rfl) he28).1 ?_;intro r29 hr29;obtain rfl : [.int .i64 e28] = r29:=(hr29.trans (zAw (fun _ => rfl) he28).2.1).symm;obtain ⟨e30,he30,h⟩:=zAc h;refine And.intro (zAw (fun _ => rfl) he30).1 ?_;intro r31 hr31;obtain rfl : [.sl 1 ((List.map (irow .i64)) e30)] = r31:=(hr31.trans (zAw (fun _ => rfl) he30).2.1).symm;obtain ⟨e32,he32,h⟩:=zAc h
      refine And.intro (zAw (fun _ => rfl) he32).1 ?_;intro r33 hr33;obtain rfl : [.int .i64 e32] = r33:=(hr33.trans (zAw (fun _ => rfl) he32).2.1).symm;show Tri _ _ _ _;refine zAk ?_;refine zAa ?_;obtain ⟨x34,hj,h⟩:=zAc h;refine zAp ⟨ofL [(0,.s (.sl 4 (Nd.encs a1))),(1,.s (.sl 4 (Nd.encs a2))),(5,.s (.sl 1 ((List.map zAu) y3))),(6,.orow 0),(7,.s (.int .i64 x5)),(8,.s (.int .i64 x6)),(9,.s (.bool ((IntKind.i64.wrap (y14 + e17)) == e21))),(10,.s (.bool ((IntKind.i64.wrap (y25 + e28)) == e32))),(70,.s (.bool x34))],ofH [(0,.row 83 2 ((List.map zAl) l7))],1⟩ ?_ (fun σ' hle => ?_)
      ·replace h:=hj;refine zAz (by exact tokW) (by exact gok) (by exact mixed) [] [73,77,80,83,87,93,97,102,105] [] rfl (by decide +kernel) ?_;obtain ⟨⟨e35_kind,e35_text,e35_cols,e35_kids⟩,he35,h⟩:=zAc h;refine And.intro (zAw Nd.encs_eq he35).1 ?_;intro r36 hr36;obtain rfl : [.int .i64 e35_kind,.str e35_text,.int .i64 e35_cols,.sl 4 (Nd.encs e35_kids)] = r36:=(hr36.trans (zAw Nd.encs_eq he35).2.1).symm;obtain ⟨⟨e37_kind,e37_text,e37_cols,e37_kids⟩,he37,h⟩:=zAc h;refine And.intro (zAw Nd.encs_eq he37).1 ?_;intro r38 hr38
       obtain rfl : [.int .i64 e37_kind,.str e37_text,.int .i64 e37_cols,.sl 4 (Nd.encs e37_kids)] = r38:=(hr38.trans (zAw Nd.encs_eq he37).2.1).symm;obtain ⟨y39,hy39,h⟩:=zAc h;refine ⟨_,⟨_,_,_,hy39,rfl,rfl⟩,?_⟩
       intro b hb;cases b with
       | true =>
        replace h:=zAr hb.symm h;obtain ⟨⟨e40_kind,e40_text,e40_cols,e40_kids⟩,he40,h⟩:=zAc h;refine And.intro (zAw Nd.encs_eq he40).1 ?_;intro r41 hr41;obtain rfl : [.int .i64 e40_kind,.str e40_text,.int .i64 e40_cols,.sl 4 (Nd.encs e40_kids)] = r41:=(hr41.trans (zAw Nd.encs_eq he40).2.1).symm;obtain ⟨⟨e42_kind,e42_text,e42_cols,e42_kids⟩,he42,h⟩:=zAc h;refine And.intro (zAw Nd.encs_eq he42).1 ?_;intro r43 hr43;obtain rfl : [.int .i64 e42_kind,.str e42_text,.int .i64 e42_cols,.sl 4 (Nd.encs e42_kids)] = r43:=(hr43.trans (zAw Nd.encs_eq he42).2.1).symm;obtain ⟨y44,hy44,h⟩:=zAc h;refine ⟨_,⟨_,_,_,_,hy44,rfl,rfl⟩,?_⟩
        obtain ⟨e45,he45,h⟩:=zAc h;refine And.intro (zAw (fun _ => rfl) he45).1 ?_;intro r46 hr46;obtain rfl : [.sl 1 ((List.map (irow .i64)) e45)] = r46:=(hr46.trans (zAw (fun _ => rfl) he45).2.1).symm;obtain ⟨e47,he47,h⟩:=zAc h;refine And.intro (zAw (fun _ => rfl) he47).1 ?_;intro r48 hr48;obtain rfl : [.int .i64 e47] = r48:=(hr48.trans (zAw (fun _ => rfl) he47).2.1).symm;obtain ⟨e49,he49,h⟩:=zAc h;refine And.intro (zAw (fun _ => rfl) he49).1 ?_;intro r50 hr50;obtain rfl : [.sl 1 ((List.map (irow .i64)) e49)] = r50:=(hr50.trans (zAw (fun _ => rfl) he49).2.1).symm;obtain ⟨e51,he51,h⟩:=zAc h
        refine And.intro (zAw (fun _ => rfl) he51).1 ?_;intro r52 hr52;obtain rfl : [.int .i64 e51] = r52:=(hr52.trans (zAw (fun _ => rfl) he51).2.1).symm;cases h;exact (Le.rename [(0,0)] _ _ _ ⟨rfl,rfl,rfl,rfl,rfl,rfl,rfl,rfl,rfl,trivial⟩ ⟨rfl,⟨_,rfl,rfl⟩,trivial⟩ rfl rfl rfl rfl rfl)
       | false =>
        replace h:=zAq hb.symm h;cases h;exact (Le.rename [(0,0)] _ _ _ ⟨rfl,rfl,rfl,rfl,rfl,rfl,rfl,rfl,rfl,trivial⟩ ⟨rfl,⟨_,rfl,rfl⟩,trivial⟩ rfl rfl rfl rfl rfl)
      ·show Tri _ _ _ _;refine zAm hle ?_;refine zAe rfl (fun hb => ?_) (fun hb => ?_)
       ·replace h:=zAr hb h;refine zAa ?_;refine zAb [114] [113] rfl ?_;intro r53 hr53;obtain rfl : (List.map zAl) [(x5,x6)] = r53:=(hr53.trans (by simp [List.map_append,List.map_take,List.map_drop,irow,brow,zAF,List.map_cons,List.map_nil,zAy,Nd.encs_eq,Nd.enc,zAh,zAg,zAi,zAs,zAu,zAn,zAl,zAd])).symm;obtain ⟨hq,h⟩:=zAJ h
        refine And.intro (show (((List.map zAl) l7).length + ((List.map zAl) [(x5,x6)]).length) * 16 ≤ 140737488355328 ∧ ((List.map zAl) l7).length + ((List.map zAl) [(x5,x6)]).length ≤ 9223372036854775807 from by simp only [List.length_append,List.length_cons,List.length_nil,List.length_map,rlen (fun _ => rfl)] at hq ⊢; omega) ?_;show Tri _ _ _ _
        refine zAm (Le.rename [(1,0)] [(0,.s (.sl 4 (Nd.encs a1))),(1,.s (.sl 4 (Nd.encs a2))),(5,.s (.sl 1 ((List.map zAu) y3))),(6,.orow 0),(7,.s (.int .i64 x5)),(8,.s (.int .i64 x6))] [(0,.row 83 2 ((List.map zAl) (l7 ++ [(x5,x6)])))] 1 ⟨rfl,rfl,rfl,rfl,rfl,rfl,trivial⟩ ⟨rfl,⟨_,rfl,congrArg (Ob.row 83 2) (by simp [List.map_append,List.map_take,List.map_drop,irow,brow,zAF,List.map_cons,List.map_nil,zAy,Nd.encs_eq,Nd.enc,zAh,zAg,zAi,zAs,zAu,zAn,zAl,zAd])⟩,trivial⟩ rfl rfl rfl rfl rfl) ?_;refine zAa ?_;refine zAb [] [] rfl ?_
        show Tri _ _ _ _;refine zAb [] [] rfl ?_;refine ⟨(k,IntKind.i64.wrap (x5 + 1),IntKind.i64.wrap (x6 + 1),l7 ++ [(x5,x6)]),h,(Le.rename [(0,0)] _ _ _ ⟨rfl,rfl,rfl,rfl,rfl,rfl,trivial⟩ ⟨rfl,⟨_,rfl,rfl⟩,trivial⟩ rfl rfl rfl rfl rfl),Nat.lt_succ_self k⟩
       ·replace h:=zAq hb h;refine zAa ?_;obtain ⟨x54,hj,h⟩:=zAc h;refine zAp ⟨ofL [(0,.s (.sl 4 (Nd.encs a1))),(1,.s (.sl 4 (Nd.encs a2))),(5,.s (.sl 1 ((List.map zAu) y3))),(6,.orow 0),(7,.s (.int .i64 x5)),(8,.s (.int .i64 x6)),(119,.s (.bool x54))],ofH [(0,.row 83 2 ((List.map zAl) l7))],1⟩ ?_ (fun σ' hle => ?_)
        ·replace h:=hj;refine zAz (by exact tokW) (by exact gok) (by exact mixed) [] [121,124,127,132] [] rfl (by decide +kernel) ?_;intro b hb;cases b with
         | true =>
          replace h:=zAr hb.symm h;intro b hb;cases b with
          | true =>
           replace h:=zAr hb.symm h;cases h;exact (Le.rename [(0,0)] _ _ _ ⟨rfl,rfl,rfl,rfl,rfl,rfl,rfl,trivial⟩ ⟨rfl,⟨_,rfl,rfl⟩,trivial⟩ rfl rfl rfl rfl rfl)
          | false =>
           replace h:=zAq hb.symm h;obtain ⟨⟨e55_kind,e55_text,e55_cols,e55_kids⟩,he55,h⟩:=zAc h;refine And.intro (zAw Nd.encs_eq he55).1 ?_;intro r56 hr56;obtain rfl : [.int .i64 e55_kind,.str e55_text,.int .i64 e55_cols,.sl 4 (Nd.encs e55_kids)] = r56:=(hr56.trans (zAw Nd.encs_eq he55).2.1).symm;obtain ⟨y57,hy57,h⟩:=zAc h;refine ⟨_,⟨_,_,_,hy57,rfl,rfl⟩,?_⟩
           obtain ⟨⟨e58_kind,e58_text,e58_cols,e58_kids⟩,he58,h⟩:=zAc h;refine And.intro (zAw Nd.encs_eq he58).1 ?_;intro r59 hr59;obtain rfl : [.int .i64 e58_kind,.str e58_text,.int .i64 e58_cols,.sl 4 (Nd.encs e58_kids)] = r59:=(hr59.trans (zAw Nd.encs_eq he58).2.1).symm;obtain ⟨y60,hy60,h⟩:=zAc h;refine ⟨_,⟨_,_,_,hy60,rfl,rfl⟩,?_⟩
           cases h;exact (Le.rename [(0,0)] _ _ _ ⟨rfl,rfl,rfl,rfl,rfl,rfl,rfl,trivial⟩ ⟨rfl,⟨_,rfl,rfl⟩,trivial⟩ rfl rfl rfl rfl rfl)
         | false =>
          replace h:=zAq hb.symm h;cases h;exact (Le.rename [(0,0)] _ _ _ ⟨rfl,rfl,rfl,rfl,rfl,rfl,rfl,trivial⟩ ⟨rfl,⟨_,rfl,rfl⟩,trivial⟩ rfl rfl rfl rfl rfl)
        ·show Tri _ _ _ _;refine zAm hle ?_;refine zAe rfl (fun hb => ?_) (fun hb => ?_)
         ·replace h:=zAr hb h;refine zAb [] [] rfl ?_;refine ⟨(k,IntKind.i64.wrap (x5 + 1),x6,l7),h,(Le.rename [(0,0)] _ _ _ ⟨rfl,rfl,rfl,rfl,rfl,rfl,trivial⟩ ⟨rfl,⟨_,rfl,rfl⟩,trivial⟩ rfl rfl rfl rfl rfl),Nat.lt_succ_self k⟩
         ·replace h:=zAq hb h;refine zAb [] [] rfl ?_;refine ⟨(k,x5,IntKind.i64.wrap (x6 + 1),l7),h,(Le.rename [(0,0)] _ _ _ ⟨rfl,rfl,rfl,rfl,rfl,rfl,trivial⟩ ⟨rfl,⟨_,rfl,rfl⟩,trivial⟩ rfl rfl rfl rfl rfl),Nat.lt_succ_self k⟩
     ·replace h:=zAq hb h;refine zAC ?_;cases h;exact (Le.rename [(0,0)] _ _ _ ⟨rfl,trivial⟩ ⟨rfl,⟨_,rfl,rfl⟩,trivial⟩ rfl rfl rfl rfl rfl)
 ·show Tri _ _ _ _;refine zAm hle ?_;refine zAa ?_;refine zAb [] [] rfl ?_;show Tri _ _ _ _;refine zAv ?_;have hy:=Option.some.inj h;subst hy;unfold zAO;exact ⟨_,Le.refl _ _,0,rfl,rfl⟩
def zNO (xs : List AV) (r : Ret) : Prop:=∃ (a0 : Int) (y0 : Bool),zDy a0 = some y0 ∧ xs = [.s (.int .u8 a0)] ∧ r = .val (.s (.bool y0))
def zGh : zAx:=zAG fun xs r => zNO xs r
theorem zIi : PSound Tryz.prog 101 zGh:=by
 have gok : ∀ (f : Nat) (s : zAx),(fun _ => none : Nat → Option zAx) f = some s → PSound Tryz.prog f s:=fun _ _ h => by cases h
 refine zAS tokW Tryz.call101 Tryz.func101 rfl (fun xs r h => by obtain ⟨_,_,_,rfl,_⟩:=h; show 1 ≤ 17; decide) 17 rfl ?_;rintro xs r w0 G0 ⟨c1,y0,h,rfl,rfl⟩ _;rw [zDy] at h;refine zAa ?_;refine zAb [] [] rfl ?_;show Tri _ _ _ _;refine zAa ?_;obtain ⟨x2,hj,h⟩:=zAc h;refine zAp ⟨ofL [(2,.s (.bool x2))],fun _ => none,0⟩ ?_ (fun σ' hle => ?_)
 ·replace h:=hj;refine zAb [] [5,9,12] rfl ?_;intro b hb;cases b with
  | true =>
   replace h:=zAr hb.symm h;intro b hb;cases b with
   | true =>
    replace h:=zAr hb.symm h;cases h;exact (Le.forget _ ⟨rfl,trivial⟩)
   | false =>
    replace h:=zAq hb.symm h;intro b hb;cases b with
    | true =>
     replace h:=zAr hb.symm h;cases h;exact (Le.forget _ ⟨rfl,trivial⟩)
    | false =>
     replace h:=zAq hb.symm h;cases h;exact (Le.forget _ ⟨rfl,trivial⟩)
  | false =>
   replace h:=zAq hb.symm h;intro b hb;subst hb;intro b hb;cases b with
   | true =>
    replace h:=zAr hb.symm h;cases h;exact (Le.forget _ ⟨rfl,trivial⟩)
   | false =>
    replace h:=zAq hb.symm h;cases h;exact (Le.forget _ ⟨rfl,trivial⟩)
 ·show Tri _ _ _ _;refine zAm hle ?_;refine zAv ?_;have hy:=Option.some.inj h;subst hy;unfold zAO;exact ⟨_,Le.refl _ _,rfl,rfl⟩
def zRG (n : Nat) (xs : List AV) (r : Ret) : Prop:=∃ (a0 : List UInt8) (a1 : Int) (y0 : Bool),zCX n a0 a1 = some y0 ∧ xs = [.s (.str a0),.s (.int .u8 a1)] ∧ r = .val (.s (.bool y0))
def zJ7 : zAx:=zAG fun xs r => ∃ n,zRG n xs r
theorem zLZ : PSound Tryz.prog 75 zJ7:=by
 have gok : ∀ (f : Nat) (s : zAx),(fun _ => none : Nat → Option zAx) f = some s → PSound Tryz.prog f s:=fun _ _ h => by cases h
 refine zAS tokW Tryz.call75 Tryz.func75 rfl (fun xs r h => by obtain ⟨n,_,_,_,_,rfl,_⟩:=h; show 2 ≤ 17; decide) 17 rfl ?_;rintro xs r w0 G0 ⟨n,s1,c2,y0,h,rfl,rfl⟩ _;rw [zCX] at h;refine zAa ?_;refine zAb [] [] rfl ?_;show Tri _ _ _ _;refine zAa ?_;refine zAa ?_;refine zAb [] [] rfl ?_;show Tri _ _ _ _;obtain ⟨fl,hl,ho1⟩:=zAc h;refine zDP (fl:=fl) (fun z => match z with | _ => ⟨ofL [],fun _ => none,0⟩) ?_ (fun z σ' hz hle => ?_)
 ·refine zAk (zAA (X:=Nat × Int) (fun y => match y with | (k,i3) => ⟨ofL [(0,.s (.str s1)),(1,.s (.int .u8 c2)),(5,.s (.int .i64 i3))],fun _ => none,0⟩) (fun y => zCp s1 c2 y.1 y.2 = some fl) (fun y => y.1) (n,0) hl ?_ ?_)
  ·exact (Le.forget _ ⟨rfl,rfl,rfl,trivial⟩)
  ·rintro ⟨k,i3⟩ h;cases k with
   | zero => cases h
   | succ k =>
    replace h : zCp s1 c2 (k+1) i3 = some fl:=h;rw [zCp] at h;refine zAa ?_;refine zAa ?_;refine zAb [] [] rfl ?_;show Tri _ _ _ _;refine zAe rfl (fun hb => ?_) (fun hb => ?_)
    ·replace h:=zAr hb h;refine zAj ?_;show Tri _ _ _ _;refine zAa ?_;refine zAk ?_;refine zAa ?_;refine zAb [] [14] rfl ?_;obtain ⟨c4,hc4,h⟩:=zAc h;refine And.intro (zA4 hc4).1 ?_;intro v5 hv5;obtain rfl : (c4.toNat : Int) = v5:=(hv5.trans (zA4 hc4).2).symm;show Tri _ _ _ _;refine zAe rfl (fun hb => ?_) (fun hb => ?_)
     ·replace h:=zAr hb h;refine zAa ?_;refine zAb [] [] rfl ?_;show Tri _ _ _ _;refine zAv ?_;cases h;replace h : some _ = some _:=ho1;have hy:=Option.some.inj h;subst hy;unfold zAO;exact ⟨_,Le.refl _ _,rfl,rfl⟩
     ·replace h:=zAq hb h;refine zAj ?_;show Tri _ _ _ _;refine zAb [] [] rfl ?_;refine ⟨(k,IntKind.i64.wrap (i3 + 1)),h,(Le.forget _ ⟨rfl,rfl,rfl,trivial⟩),Nat.lt_succ_self k⟩
    ·replace h:=zAq hb h;refine zAC ?_;cases h;exact ⟨_,rfl,(Le.forget _ trivial)⟩
 ·subst hz;obtain _:=z;replace h:=ho1;show Tri _ _ _ _;refine zAm hle ?_;refine zAa ?_;refine zAb [] [] rfl ?_;show Tri _ _ _ _;refine zAv ?_;have hy:=Option.some.inj h;subst hy;unfold zAO;exact ⟨_,Le.refl _ _,rfl,rfl⟩
def zJW (n : Nat) (xs : List AV) (r : Ret) : Prop:=∃ (a0 : Int) (y0 : Bool),zDJ n a0 = some y0 ∧ xs = [.s (.int .u8 a0)] ∧ r = .val (.s (.bool y0))
def zGg : zAx:=zAG fun xs r => ∃ n,zJW n xs r
theorem zJE : PSound Tryz.prog 100 zGg:=by
 have gok : ∀ f s,look? f [(101,zGh),(75,zJ7)] = some s → PSound Tryz.prog f s:=zAB (by
  simp only [List.forall_mem_cons]
  exact ⟨zIi,zLZ,by simp⟩)
 refine zAS tokW Tryz.call100 Tryz.func100 rfl (fun xs r h => by obtain ⟨n,_,_,_,rfl,_⟩:=h; show 1 ≤ 9; decide) 9 rfl ?_;rintro xs r w0 G0 ⟨n,c1,y0,h,rfl,rfl⟩ _;rw [zDJ] at h;refine zAa ?_;refine zAb [] [] rfl ?_;show Tri _ _ _ _;refine zAa ?_;obtain ⟨x2,hj,h⟩:=zAc h;refine zAp ⟨ofL [(2,.s (.bool x2))],fun _ => none,0⟩ ?_ (fun σ' hle => ?_)
 ·replace h:=hj;refine zAb [] [5] rfl ?_;obtain ⟨y3,hy3,h⟩:=zAc h;refine ⟨_,⟨_,_,hy3,rfl,rfl⟩,?_⟩
  intro b hb;cases b with
  | true =>
   replace h:=zAr hb.symm h;cases h;exact (Le.forget _ ⟨rfl,trivial⟩)
  | false =>
   replace h:=zAq hb.symm h;obtain ⟨y4,hy4,h⟩:=zAc h;refine ⟨_,⟨_,_,_,_,hy4,rfl,rfl⟩,?_⟩
   cases h;exact (Le.forget _ ⟨rfl,trivial⟩)
 ·show Tri _ _ _ _;refine zAm hle ?_;refine zAv ?_;have hy:=Option.some.inj h;subst hy;unfold zAO;exact ⟨_,Le.refl _ _,rfl,rfl⟩
def zAP (p : List UInt8) : List S:=[.str p]
def zK8 (xs : List AV) (r : Ret) : Prop:=∃ (y0 : List (List UInt8)),zD9 = some y0 ∧ xs = [] ∧ r = .val (.s (.sl 1 ((List.map zAP) y0)))
def zG9 : zAx:=zAG fun xs r => zK8 xs r
theorem zKC : PSound Tryz.prog 102 zG9:=by
 have gok : ∀ (f : Nat) (s : zAx),(fun _ => none : Nat → Option zAx) f = some s → PSound Tryz.prog f s:=fun _ _ h => by cases h
 refine zAS tokW Tryz.call102 Tryz.func102 rfl (fun xs r h => by obtain ⟨_,_,rfl,_⟩:=h; show 0 ≤ 2; decide) 2 rfl ?_;rintro xs r w0 G0 ⟨y0,h,rfl,rfl⟩ _;rw [zD9] at h;refine zAa ?_;refine zAb [] [] rfl ?_;show Tri _ _ _ _;refine zAa ?_;refine zAb [] [1] rfl ?_;intro r1 hr1
 obtain rfl : (List.map zAP) [[102,114,97,99],[114,111,111,116],[109,97,116,114,105,120],[102,101,110,99,101]] = r1:=(hr1.trans (by simp [List.map_append,List.map_take,List.map_drop,irow,brow,zAF,List.map_cons,List.map_nil,zAy,Nd.encs_eq,Nd.enc,zAh,zAg,zAi,zAs,zAu,zAn,zAl,zAd,zAP])).symm;show Tri _ _ _ _;refine zAv ?_;have hy:=Option.some.inj h;subst hy;unfold zAO;exact ⟨_,Le.refl _ _,rfl,rfl⟩
def zS7 (n : Nat) (xs : List AV) (r : Ret) : Prop:=∃ (a0 : List (List UInt8)) (a1 : List UInt8) (y0 : Bool),zD8 n a0 a1 = some y0 ∧ xs = [.s (.sl 1 ((List.map zAP) a0)),.s (.str a1)] ∧ r = .val (.s (.bool y0))
def zMx : zAx:=zAG fun xs r => ∃ n,zS7 n xs r
theorem zOM : PSound Tryz.prog 73 zMx:=by
 have gok : ∀ (f : Nat) (s : zAx),(fun _ => none : Nat → Option zAx) f = some s → PSound Tryz.prog f s:=fun _ _ h => by cases h
 refine zAS tokW Tryz.call73 Tryz.func73 rfl (fun xs r h => by obtain ⟨n,_,_,_,_,rfl,_⟩:=h; show 2 ≤ 18; decide) 18 rfl ?_;rintro xs r w0 G0 ⟨n,l1,s2,y0,h,rfl,rfl⟩ _;rw [zD8] at h;refine zAa ?_;refine zAb [] [] rfl ?_;show Tri _ _ _ _;refine zAa ?_;refine zAa ?_;refine zAb [] [] rfl ?_;show Tri _ _ _ _;obtain ⟨fl,hl,ho1⟩:=zAc h;refine zDP (fl:=fl) (fun z => match z with | _ => ⟨ofL [],fun _ => none,0⟩) ?_ (fun z σ' hz hle => ?_)
 ·refine zAk (zAA (X:=Nat × Int) (fun y => match y with | (k,i3) => ⟨ofL [(0,.s (.sl 1 ((List.map zAP) l1))),(1,.s (.str s2)),(5,.s (.int .i64 i3))],fun _ => none,0⟩) (fun y => zCV l1 s2 y.1 y.2 = some fl) (fun y => y.1) (n,0) hl ?_ ?_)
  ·exact (Le.forget _ ⟨rfl,rfl,rfl,trivial⟩)
  ·rintro ⟨k,i3⟩ h;cases k with
   | zero => cases h
   | succ k =>
    replace h : zCV l1 s2 (k+1) i3 = some fl:=h;rw [zCV] at h;refine zAa ?_;refine zAa ?_;refine zAb [] [8] rfl ?_;intro n4 hn4;obtain rfl : (l1.length : Int) = n4:=(hn4.trans (congrArg (fun m : Nat => (m : Int)) (rlen (fun _ => rfl) l1))).symm;show Tri _ _ _ _;refine zAe rfl (fun hb => ?_) (fun hb => ?_)
    ·replace h:=zAr hb h;refine zAj ?_;show Tri _ _ _ _;refine zAa ?_;refine zAk ?_;refine zAa ?_;refine zAb [] [14] rfl ?_;obtain ⟨e5,he5,h⟩:=zAc h;refine And.intro (zAw (fun _ => rfl) he5).1 ?_;intro r6 hr6;obtain rfl : [.str e5] = r6:=(hr6.trans (zAw (fun _ => rfl) he5).2.1).symm;show Tri _ _ _ _;refine zAe rfl (fun hb => ?_) (fun hb => ?_)
     ·replace h:=zAr hb h;refine zAa ?_;refine zAb [] [] rfl ?_;show Tri _ _ _ _;refine zAv ?_;cases h;replace h : some _ = some _:=ho1;have hy:=Option.some.inj h;subst hy;unfold zAO;exact ⟨_,Le.refl _ _,rfl,rfl⟩
     ·replace h:=zAq hb h;refine zAj ?_;show Tri _ _ _ _;refine zAb [] [] rfl ?_;refine ⟨(k,IntKind.i64.wrap (i3 + 1)),h,(Le.forget _ ⟨rfl,rfl,rfl,trivial⟩),Nat.lt_succ_self k⟩
    ·replace h:=zAq hb h;refine zAC ?_;cases h;exact ⟨_,rfl,(Le.forget _ trivial)⟩
 ·subst hz;obtain _:=z;replace h:=ho1;show Tri _ _ _ _;refine zAm hle ?_;refine zAa ?_;refine zAb [] [] rfl ?_;show Tri _ _ _ _;refine zAv ?_;have hy:=Option.some.inj h;subst hy;unfold zAO;exact ⟨_,Le.refl _ _,rfl,rfl⟩
def zMt (xs : List AV) (r : Ret) : Prop:=∃ (y0 : List (List UInt8)),zC7 = some y0 ∧ xs = [] ∧ r = .val (.s (.sl 1 ((List.map zAP) y0)))
def zFO : zAx:=zAG fun xs r => zMt xs r
theorem zHe : PSound Tryz.prog 74 zFO:=by
 have gok : ∀ (f : Nat) (s : zAx),(fun _ => none : Nat → Option zAx) f = some s → PSound Tryz.prog f s:=fun _ _ h => by cases h
 refine zAS tokW Tryz.call74 Tryz.func74 rfl (fun xs r h => by obtain ⟨_,_,rfl,_⟩:=h; show 0 ≤ 2; decide) 2 rfl ?_;rintro xs r w0 G0 ⟨y0,h,rfl,rfl⟩ _;rw [zC7] at h;refine zAa ?_;refine zAb [] [] rfl ?_;show Tri _ _ _ _;refine zAa ?_;refine zAb [] [1] rfl ?_;intro r1 hr1
 obtain rfl : (List.map zAP) [[104,97,116],[98,97,114],[118,101,99],[100,111,116],[116,105,108,100,101],[99,104,101,99,107]] = r1:=(hr1.trans (by simp [List.map_append,List.map_take,List.map_drop,irow,brow,zAF,List.map_cons,List.map_nil,zAy,Nd.encs_eq,Nd.enc,zAh,zAg,zAi,zAs,zAu,zAn,zAl,zAd,zAP])).symm;show Tri _ _ _ _;refine zAv ?_;have hy:=Option.some.inj h;subst hy;unfold zAO;exact ⟨_,Le.refl _ _,rfl,rfl⟩
end Go.Proofs.YtjdhkpdjecegnaaGreatDoor
namespace Go.Proofs.YtjdhkpdjecegnaaGreatDoor
open Go.Abs
def zNR (n : Nat) (xs : List AV) (r : Ret) : Prop:=∃ (a0 : List UInt8) (y0 : Bool),zEk n a0 = some y0 ∧ xs = [.s (.str a0)] ∧ r = .val (.s (.bool y0))
def zI7 : zAx:=zAG fun xs r => ∃ n,zNR n xs r
theorem zM9 : PSound Tryz.prog 70 zI7:=by
 have gok : ∀ f s,look? f [(100,zGg),(101,zGh),(102,zG9),(73,zMx),(74,zFO)] = some s → PSound Tryz.prog f s:=zAB (by
  simp only [List.forall_mem_cons]
  exact ⟨zJE,zIi,zKC,zOM,zHe,by simp⟩)
 refine zAS tokW Tryz.call70 Tryz.func70 rfl (fun xs r h => by obtain ⟨n,_,_,_,rfl,_⟩:=h; show 1 ≤ 41; decide) 41 rfl ?_;rintro xs r w0 G0 ⟨n,s1,y0,h,rfl,rfl⟩ _;rw [zEk] at h;refine zAa ?_;refine zAb [] [] rfl ?_;show Tri _ _ _ _;refine zAa ?_;refine zAa ?_;refine zAb [] [] rfl ?_;show Tri _ _ _ _;refine zAe rfl (fun hb => ?_) (fun hb => ?_)
 ·replace h:=zAr hb h;refine zAa ?_;refine zAb [] [8] rfl ?_;obtain ⟨c2,hc2,h⟩:=zAc h;refine And.intro (zA4 hc2).1 ?_;intro v3 hv3;obtain rfl : (c2.toNat : Int) = v3:=(hv3.trans (zA4 hc2).2).symm;obtain ⟨y4,hy4,h⟩:=zAc h;refine ⟨_,⟨_,_,_,hy4,rfl,rfl⟩,?_⟩
  show Tri _ _ _ _;refine zAv ?_;have hy:=Option.some.inj h;subst hy;unfold zAO;exact ⟨_,Le.refl _ _,rfl,rfl⟩
 ·replace h:=zAq hb h;refine zAj ?_;show Tri _ _ _ _;refine zAa ?_;refine zAa ?_;refine zAb [] [] rfl ?_;show Tri _ _ _ _;obtain ⟨fl,hl,ho1⟩:=zAc h;refine zDP (fl:=fl) (fun z => match z with | _ => ⟨ofL [(0,.s (.str s1))],fun _ => none,0⟩) ?_ (fun z σ' hz hle => ?_)
  ·refine zAk (zAA (X:=Nat × Int) (fun y => match y with | (k,i5) => ⟨ofL [(0,.s (.str s1)),(3,.s (.int .i64 i5))],fun _ => none,0⟩) (fun y => zBu s1 y.1 y.2 = some fl) (fun y => y.1) (n,0) hl ?_ ?_)
   ·exact (Le.forget _ ⟨rfl,rfl,trivial⟩)
   ·rintro ⟨k,i5⟩ h;cases k with
    | zero => cases h
    | succ k =>
     replace h : zBu s1 (k+1) i5 = some fl:=h;rw [zBu] at h;refine zAa ?_;refine zAa ?_;refine zAb [] [] rfl ?_;show Tri _ _ _ _;refine zAe rfl (fun hb => ?_) (fun hb => ?_)
     ·replace h:=zAr hb h;refine zAj ?_;show Tri _ _ _ _;refine zAa ?_;refine zAk ?_;refine zAa ?_;refine zAb [] [18] rfl ?_;obtain ⟨c6,hc6,h⟩:=zAc h;refine And.intro (zA4 hc6).1 ?_;intro v7 hv7;obtain rfl : (c6.toNat : Int) = v7:=(hv7.trans (zA4 hc6).2).symm;obtain ⟨y8,hy8,h⟩:=zAc h;refine ⟨_,⟨_,_,hy8,rfl,rfl⟩,?_⟩
      show Tri _ _ _ _;refine zAe rfl (fun hb => ?_) (fun hb => ?_)
      ·replace h:=zAr hb h;refine zAa ?_;refine zAb [] [] rfl ?_;show Tri _ _ _ _;refine zAv ?_;cases h;replace h : some _ = some _:=ho1;have hy:=Option.some.inj h;subst hy;unfold zAO;exact ⟨_,Le.refl _ _,rfl,rfl⟩
      ·replace h:=zAq hb h;refine zAj ?_;show Tri _ _ _ _;refine zAb [] [] rfl ?_;refine ⟨(k,IntKind.i64.wrap (i5 + 1)),h,(Le.forget _ ⟨rfl,rfl,trivial⟩),Nat.lt_succ_self k⟩
     ·replace h:=zAq hb h;refine zAC ?_;cases h;exact ⟨_,rfl,(Le.forget _ ⟨rfl,trivial⟩)⟩
  ·subst hz;obtain _:=z;replace h:=ho1;show Tri _ _ _ _;refine zAm hle ?_;refine zAa ?_;obtain ⟨x9,hj,h⟩:=zAc h;refine zAp ⟨ofL [(2,.s (.bool x9))],fun _ => none,0⟩ ?_ (fun σ' hle => ?_)
   ·replace h:=hj;refine zAb [] [24,29,35] rfl ?_;intro b hb;cases b with
    | true =>
     replace h:=zAr hb.symm h;intro b hb;cases b with
     | true =>
      replace h:=zAr hb.symm h;obtain ⟨y10,hy10,h⟩:=zAc h;refine ⟨_,⟨_,hy10,rfl,rfl⟩,?_⟩
      obtain ⟨y11,hy11,h⟩:=zAc h;refine ⟨_,⟨_,_,_,_,hy11,rfl,rfl⟩,?_⟩
      intro b hb;cases b with
      | true =>
       replace h:=zAr hb.symm h;obtain ⟨y12,hy12,h⟩:=zAc h;refine ⟨_,⟨_,hy12,rfl,rfl⟩,?_⟩
       obtain ⟨y13,hy13,h⟩:=zAc h;refine ⟨_,⟨_,_,_,_,hy13,rfl,rfl⟩,?_⟩
       cases h;exact (Le.forget _ ⟨rfl,trivial⟩)
      | false =>
       replace h:=zAq hb.symm h;cases h;exact (Le.forget _ ⟨rfl,trivial⟩)
     | false =>
      replace h:=zAq hb.symm h;intro b hb;subst hb;cases h;exact (Le.forget _ ⟨rfl,trivial⟩)
    | false =>
     replace h:=zAq hb.symm h;intro b hb;subst hb;intro b hb;subst hb;cases h;exact (Le.forget _ ⟨rfl,trivial⟩)
   ·show Tri _ _ _ _;refine zAm hle ?_;refine zAv ?_;have hy:=Option.some.inj h;subst hy;unfold zAO;exact ⟨_,Le.refl _ _,rfl,rfl⟩
def zPy (xs : List AV) (r : Ret) : Prop:=∃ (a0 : Int) (y0 : Bool),zEZ a0 = some y0 ∧ xs = [.s (.int .u8 a0)] ∧ r = .val (.s (.bool y0))
def zJ5 : zAx:=zAG fun xs r => zPy xs r
theorem zOL : PSound Tryz.prog 103 zJ5:=by
 have gok : ∀ (f : Nat) (s : zAx),(fun _ => none : Nat → Option zAx) f = some s → PSound Tryz.prog f s:=fun _ _ h => by cases h
 refine zAS tokW Tryz.call103 Tryz.func103 rfl (fun xs r h => by obtain ⟨_,_,_,rfl,_⟩:=h; show 1 ≤ 9; decide) 9 rfl ?_;rintro xs r w0 G0 ⟨c1,y0,h,rfl,rfl⟩ _;rw [zEZ] at h;refine zAa ?_;refine zAb [] [] rfl ?_;show Tri _ _ _ _;refine zAa ?_;obtain ⟨x2,hj,h⟩:=zAc h;refine zAp ⟨ofL [(2,.s (.bool x2))],fun _ => none,0⟩ ?_ (fun σ' hle => ?_)
 ·replace h:=hj;refine zAb [] [5] rfl ?_;intro b hb;cases b with
  | true =>
   replace h:=zAr hb.symm h;cases h;exact (Le.forget _ ⟨rfl,trivial⟩)
  | false =>
   replace h:=zAq hb.symm h;cases h;exact (Le.forget _ ⟨rfl,trivial⟩)
 ·show Tri _ _ _ _;refine zAm hle ?_;refine zAv ?_;have hy:=Option.some.inj h;subst hy;unfold zAO;exact ⟨_,Le.refl _ _,rfl,rfl⟩
def zNP (n : Nat) (xs : List AV) (r : Ret) : Prop:=∃ (a0 : List UInt8) (y0 : Bool),zEi n a0 = some y0 ∧ xs = [.s (.str a0)] ∧ r = .val (.s (.bool y0))
def zI5 : zAx:=zAG fun xs r => ∃ n,zNP n xs r
theorem zM7 : PSound Tryz.prog 71 zI5:=by
 have gok : ∀ f s,look? f [(103,zJ5)] = some s → PSound Tryz.prog f s:=zAB (by
  simp only [List.forall_mem_cons]
  exact ⟨zOL,by simp⟩)
 refine zAS tokW Tryz.call71 Tryz.func71 rfl (fun xs r h => by obtain ⟨n,_,_,_,rfl,_⟩:=h; show 1 ≤ 45; decide) 45 rfl ?_;rintro xs r w0 G0 ⟨n,s1,y0,h,rfl,rfl⟩ _;rw [zEi] at h;refine zAa ?_;refine zAb [] [] rfl ?_;show Tri _ _ _ _;refine zAa ?_;refine zAb [] [] rfl ?_;show Tri _ _ _ _;refine zAa ?_;refine zAa ?_;refine zAb [] [] rfl ?_;show Tri _ _ _ _;obtain ⟨fl,hl,ho1⟩:=zAc h;refine zDP (fl:=fl) (fun z => match z with | points4 => ⟨ofL [(0,.s (.str s1)),(3,.s (.int .i64 points4))],fun _ => none,0⟩) ?_ (fun points4 σ' hz hle => ?_)
 ·refine zAk (zAA (X:=Nat × Int × Int) (fun y => match y with | (k,points2,i3) => ⟨ofL [(0,.s (.str s1)),(3,.s (.int .i64 points2)),(4,.s (.int .i64 i3))],fun _ => none,0⟩) (fun y => zBY s1 y.1 y.2.1 y.2.2 = some fl) (fun y => y.1) (n,0,0) hl ?_ ?_)
  ·exact (Le.forget _ ⟨rfl,rfl,rfl,trivial⟩)
  ·rintro ⟨k,points2,i3⟩ h;cases k with
   | zero => cases h
   | succ k =>
    replace h : zBY s1 (k+1) points2 i3 = some fl:=h;rw [zBY] at h;refine zAa ?_;refine zAa ?_;refine zAb [] [] rfl ?_;show Tri _ _ _ _;refine zAe rfl (fun hb => ?_) (fun hb => ?_)
    ·replace h:=zAr hb h;refine zAj ?_;show Tri _ _ _ _;refine zAa ?_;obtain ⟨fl,hj,ho2⟩:=zAc h;refine zDP (fl:=fl) (fun z => match z with | points5 => ⟨ofL [(0,.s (.str s1)),(3,.s (.int .i64 points5)),(4,.s (.int .i64 i3))],fun _ => none,0⟩) ?_ (fun points5 σ' hz hle => ?_)
     ·replace h:=hj;refine zAk ?_;refine zAa ?_;obtain ⟨x6,hj,h⟩:=zAc h;refine zAp ⟨ofL [(0,.s (.str s1)),(3,.s (.int .i64 points2)),(4,.s (.int .i64 i3)),(25,.s (.bool x6))],fun _ => none,0⟩ ?_ (fun σ' hle => ?_)
      ·replace h:=hj;refine zAb [] [13,15,19] rfl ?_;obtain ⟨c7,hc7,h⟩:=zAc h;refine And.intro (zA4 hc7).1 ?_;intro v8 hv8;obtain rfl : (c7.toNat : Int) = v8:=(hv8.trans (zA4 hc7).2).symm;intro b hb;cases b with
       | true =>
        replace h:=zAr hb.symm h;intro b hb;cases b with
        | true =>
         replace h:=zAr hb.symm h;cases h;exact (Le.forget _ ⟨rfl,rfl,rfl,rfl,trivial⟩)
        | false =>
         replace h:=zAq hb.symm h;cases h;exact (Le.forget _ ⟨rfl,rfl,rfl,rfl,trivial⟩)
       | false =>
        replace h:=zAq hb.symm h;intro b hb;subst hb;cases h;exact (Le.forget _ ⟨rfl,rfl,rfl,rfl,trivial⟩)
      ·show Tri _ _ _ _;refine zAm hle ?_;refine zAe rfl (fun hb => ?_) (fun hb => ?_)
       ·replace h:=zAr hb h;refine zAb [] [] rfl ?_;cases h;exact ⟨_,rfl,(Le.forget _ ⟨rfl,rfl,rfl,trivial⟩)⟩
       ·replace h:=zAq hb h;refine zAa ?_;refine zAb [] [30] rfl ?_;obtain ⟨c9,hc9,h⟩:=zAc h;refine And.intro (zA4 hc9).1 ?_;intro v10 hv10;obtain rfl : (c9.toNat : Int) = v10:=(hv10.trans (zA4 hc9).2).symm;obtain ⟨y11,hy11,h⟩:=zAc h;refine ⟨_,⟨_,_,hy11,rfl,rfl⟩,?_⟩
        show Tri _ _ _ _;refine zAe rfl (fun hb => ?_) (fun hb => ?_)
        ·replace h:=zAr hb h;refine zAa ?_;refine zAb [] [] rfl ?_;show Tri _ _ _ _;refine zAv ?_;cases h;replace h : some _ = some _:=ho2;cases h;replace h : some _ = some _:=ho1;have hy:=Option.some.inj h;subst hy;unfold zAO;exact ⟨_,Le.refl _ _,rfl,rfl⟩
        ·replace h:=zAq hb h;refine zAj ?_;cases h;exact ⟨_,rfl,(Le.forget _ ⟨rfl,rfl,rfl,trivial⟩)⟩
     ·subst hz;replace h:=ho2;show Tri _ _ _ _;refine zAm hle ?_;refine zAb [] [] rfl ?_;refine ⟨(k,points5,IntKind.i64.wrap (i3 + 1)),h,(Le.forget _ ⟨rfl,rfl,rfl,trivial⟩),Nat.lt_succ_self k⟩
    ·replace h:=zAq hb h;refine zAC ?_;cases h;exact ⟨_,rfl,(Le.forget _ ⟨rfl,rfl,trivial⟩)⟩
 ·subst hz;replace h:=ho1;show Tri _ _ _ _;refine zAm hle ?_;refine zAa ?_;obtain ⟨x12,hj,h⟩:=zAc h;refine zAp ⟨ofL [(2,.s (.bool x12))],fun _ => none,0⟩ ?_ (fun σ' hle => ?_)
  ·replace h:=hj;refine zAb [] [36,41] rfl ?_;intro b hb;cases b with
   | true =>
    replace h:=zAr hb.symm h;intro b hb;cases b with
    | true =>
     replace h:=zAr hb.symm h;cases h;exact (Le.forget _ ⟨rfl,trivial⟩)
    | false =>
     replace h:=zAq hb.symm h;cases h;exact (Le.forget _ ⟨rfl,trivial⟩)
   | false =>
    replace h:=zAq hb.symm h;intro b hb;subst hb;cases h;exact (Le.forget _ ⟨rfl,trivial⟩)
  ·show Tri _ _ _ _;refine zAm hle ?_;refine zAv ?_;have hy:=Option.some.inj h;subst hy;unfold zAO;exact ⟨_,Le.refl _ _,rfl,rfl⟩
def zJX (n : Nat) (xs : List AV) (r : Ret) : Prop:=∃ (a0 : List UInt8) (y0 : Bool),zCW n a0 = some y0 ∧ xs = [.s (.str a0)] ∧ r = .val (.s (.bool y0))
def zGi : zAx:=zAG fun xs r => ∃ n,zJX n xs r
theorem zJF : PSound Tryz.prog 72 zGi:=by
 have gok : ∀ (f : Nat) (s : zAx),(fun _ => none : Nat → Option zAx) f = some s → PSound Tryz.prog f s:=fun _ _ h => by cases h
 refine zAS tokW Tryz.call72 Tryz.func72 rfl (fun xs r h => by obtain ⟨n,_,_,_,rfl,_⟩:=h; show 1 ≤ 20; decide) 20 rfl ?_;rintro xs r w0 G0 ⟨n,s1,y0,h,rfl,rfl⟩ _;rw [zCW] at h;refine zAa ?_;refine zAb [] [] rfl ?_;show Tri _ _ _ _;refine zAa ?_;refine zAa ?_;refine zAb [] [] rfl ?_;show Tri _ _ _ _;obtain ⟨fl,hl,ho1⟩:=zAc h;refine zDP (fl:=fl) (fun z => match z with | _ => ⟨ofL [],fun _ => none,0⟩) ?_ (fun z σ' hz hle => ?_)
 ·refine zAk (zAA (X:=Nat × Int) (fun y => match y with | (k,i2) => ⟨ofL [(0,.s (.str s1)),(3,.s (.int .i64 i2))],fun _ => none,0⟩) (fun y => zBk s1 y.1 y.2 = some fl) (fun y => y.1) (n,0) hl ?_ ?_)
  ·exact (Le.forget _ ⟨rfl,rfl,trivial⟩)
  ·rintro ⟨k,i2⟩ h;cases k with
   | zero => cases h
   | succ k =>
    replace h : zBk s1 (k+1) i2 = some fl:=h;rw [zBk] at h;refine zAa ?_;refine zAa ?_;refine zAb [] [] rfl ?_;show Tri _ _ _ _;refine zAe rfl (fun hb => ?_) (fun hb => ?_)
    ·replace h:=zAr hb h;refine zAj ?_;show Tri _ _ _ _;refine zAa ?_;refine zAk ?_;refine zAa ?_;obtain ⟨x3,hj,h⟩:=zAc h;refine zAp ⟨ofL [(0,.s (.str s1)),(3,.s (.int .i64 i2)),(19,.s (.bool x3))],fun _ => none,0⟩ ?_ (fun σ' hle => ?_)
     ·replace h:=hj;refine zAb [] [12,14,17] rfl ?_;obtain ⟨c4,hc4,h⟩:=zAc h;refine And.intro (zA4 hc4).1 ?_;intro v5 hv5;obtain rfl : (c4.toNat : Int) = v5:=(hv5.trans (zA4 hc4).2).symm;intro b hb;cases b with
      | true =>
       replace h:=zAr hb.symm h;cases h;exact (Le.forget _ ⟨rfl,rfl,rfl,trivial⟩)
      | false =>
       replace h:=zAq hb.symm h;obtain ⟨c6,hc6,h⟩:=zAc h;refine And.intro (zA4 hc6).1 ?_;intro v7 hv7;obtain rfl : (c6.toNat : Int) = v7:=(hv7.trans (zA4 hc6).2).symm;cases h;exact (Le.forget _ ⟨rfl,rfl,rfl,trivial⟩)
     ·show Tri _ _ _ _;refine zAm hle ?_;refine zAe rfl (fun hb => ?_) (fun hb => ?_)
      ·replace h:=zAr hb h;refine zAa ?_;refine zAb [] [] rfl ?_;show Tri _ _ _ _;refine zAv ?_;cases h;replace h : some _ = some _:=ho1;have hy:=Option.some.inj h;subst hy;unfold zAO;exact ⟨_,Le.refl _ _,rfl,rfl⟩
      ·replace h:=zAq hb h;refine zAj ?_;show Tri _ _ _ _;refine zAb [] [] rfl ?_;refine ⟨(k,IntKind.i64.wrap (i2 + 1)),h,(Le.forget _ ⟨rfl,rfl,trivial⟩),Nat.lt_succ_self k⟩
    ·replace h:=zAq hb h;refine zAC ?_;cases h;exact ⟨_,rfl,(Le.forget _ trivial)⟩
 ·subst hz;obtain _:=z;replace h:=ho1;show Tri _ _ _ _;refine zAm hle ?_;refine zAa ?_;refine zAb [] [] rfl ?_;show Tri _ _ _ _;refine zAv ?_;have hy:=Option.some.inj h;subst hy;unfold zAO;exact ⟨_,Le.refl _ _,rfl,rfl⟩
def zQX (n : Nat) (xs : List AV) (r : Ret) : Prop:=∃ (a0 : Nd) (y0 : Bool),zFF n a0 = some y0 ∧ xs = [.agg ((Nd.enc a0).map .s)] ∧ r = .val (.s (.bool y0))
def zLG : zAx:=zAG fun xs r => ∃ n,zQX n xs r
theorem zPY : PSound Tryz.prog 48 zLG:=by
 have gok : ∀ f s,look? f [(70,zI7),(71,zI5),(72,zGi),(74,zFO),(73,zMx),(75,zJ7)] = some s → PSound Tryz.prog f s:=zAB (by
  simp only [List.forall_mem_cons]
  exact ⟨zM9,zM7,zJF,zHe,zOM,zLZ,by simp⟩)
 refine zAS tokW Tryz.call48 Tryz.func48 rfl (fun xs r h => by obtain ⟨n,_,_,_,rfl,_⟩:=h; show 1 ≤ 53; decide) 53 rfl ?_;rintro xs r w0 G0 ⟨n,⟨n1_kind,n1_text,n1_cols,n1_kids⟩,y0,h,rfl,rfl⟩ _;rw [zFF] at h;refine zAa ?_;refine zAb [] [] rfl ?_;show Tri _ _ _ _;refine zAa ?_;refine zAa ?_;refine zAb [] [] rfl ?_;show Tri _ _ _ _;refine zAk ?_;refine zAa ?_;refine zAb [] [] rfl ?_;show Tri _ _ _ _;refine zAe rfl (fun hb => ?_) (fun hb => ?_)
 ·replace h:=zAr hb h;refine zAa ?_;refine zAb [] [] rfl ?_;obtain ⟨y2,hy2,h⟩:=zAc h;refine ⟨_,⟨_,_,_,hy2,rfl,rfl⟩,?_⟩
  show Tri _ _ _ _;refine zAv ?_;have hy:=Option.some.inj h;subst hy;unfold zAO;exact ⟨_,Le.refl _ _,rfl,rfl⟩
 ·replace h:=zAq hb h;refine zAa ?_;refine zAb [] [] rfl ?_;show Tri _ _ _ _;refine zAe rfl (fun hb => ?_) (fun hb => ?_)
  ·replace h:=zAr hb h;refine zAa ?_;refine zAb [] [] rfl ?_;obtain ⟨y3,hy3,h⟩:=zAc h;refine ⟨_,⟨_,_,_,hy3,rfl,rfl⟩,?_⟩
   show Tri _ _ _ _;refine zAv ?_;have hy:=Option.some.inj h;subst hy;unfold zAO;exact ⟨_,Le.refl _ _,rfl,rfl⟩
  ·replace h:=zAq hb h;refine zAa ?_;refine zAb [] [] rfl ?_;show Tri _ _ _ _;refine zAe rfl (fun hb => ?_) (fun hb => ?_)
   ·replace h:=zAr hb h;refine zAa ?_;obtain ⟨x4,hj,h⟩:=zAc h;refine zAp ⟨ofL [(2,.s (.bool x4))],fun _ => none,0⟩ ?_ (fun σ' hle => ?_)
    ·replace h:=hj;refine zAb [] [21] rfl ?_;intro b hb;cases b with
     | true =>
      replace h:=zAr hb.symm h;obtain ⟨y5,hy5,h⟩:=zAc h;refine ⟨_,⟨_,_,_,hy5,rfl,rfl⟩,?_⟩
      cases h;exact (Le.forget _ ⟨rfl,trivial⟩)
     | false =>
      replace h:=zAq hb.symm h;cases h;exact (Le.forget _ ⟨rfl,trivial⟩)
    ·show Tri _ _ _ _;refine zAm hle ?_;refine zAv ?_;have hy:=Option.some.inj h;subst hy;unfold zAO;exact ⟨_,Le.refl _ _,rfl,rfl⟩
   ·replace h:=zAq hb h;refine zAa ?_;refine zAb [] [] rfl ?_;show Tri _ _ _ _;refine zAe rfl (fun hb => ?_) (fun hb => ?_)
    ·replace h:=zAr hb h;refine zAa ?_;refine zAz (by exact tokW) (by exact gok) (by exact mixed) [] [] [] rfl (by decide +kernel) ?_;obtain ⟨y6,hy6,h⟩:=zAc h;refine ⟨_,⟨_,hy6,rfl,rfl⟩,?_⟩
     obtain ⟨y7,hy7,h⟩:=zAc h;refine ⟨_,⟨_,_,_,_,hy7,rfl,rfl⟩,?_⟩
     show Tri _ _ _ _;refine zAv ?_;have hy:=Option.some.inj h;subst hy;unfold zAO;exact ⟨_,Le.refl _ _,rfl,rfl⟩
    ·replace h:=zAq hb h;refine zAa ?_;refine zAb [] [] rfl ?_;show Tri _ _ _ _;refine zAe rfl (fun hb => ?_) (fun hb => ?_)
     ·replace h:=zAr hb h;refine zAa ?_;obtain ⟨x8,hj,h⟩:=zAc h;refine zAp ⟨ofL [(2,.s (.bool x8))],fun _ => none,0⟩ ?_ (fun σ' hle => ?_)
      ·replace h:=hj;refine zAb [] [38,41,44,47] rfl ?_;intro b hb;cases b with
       | true =>
        replace h:=zAr hb.symm h;obtain ⟨c9,hc9,h⟩:=zAc h;refine And.intro (zA4 hc9).1 ?_;intro v10 hv10;obtain rfl : (c9.toNat : Int) = v10:=(hv10.trans (zA4 hc9).2).symm;obtain ⟨y11,hy11,h⟩:=zAc h;refine ⟨_,⟨_,_,_,_,hy11,rfl,rfl⟩,?_⟩
        intro b hb;cases b with
        | true =>
         replace h:=zAr hb.symm h;obtain ⟨c12,hc12,h⟩:=zAc h;refine And.intro (zA4 hc12).1 ?_;intro v13 hv13;obtain rfl : (c12.toNat : Int) = v13:=(hv13.trans (zA4 hc12).2).symm;obtain ⟨y14,hy14,h⟩:=zAc h;refine ⟨_,⟨_,_,_,_,hy14,rfl,rfl⟩,?_⟩
         cases h;exact (Le.forget _ ⟨rfl,trivial⟩)
        | false =>
         replace h:=zAq hb.symm h;cases h;exact (Le.forget _ ⟨rfl,trivial⟩)
       | false =>
        replace h:=zAq hb.symm h;intro b hb;subst hb;cases h;exact (Le.forget _ ⟨rfl,trivial⟩)
      ·show Tri _ _ _ _;refine zAm hle ?_;refine zAv ?_;have hy:=Option.some.inj h;subst hy;unfold zAO;exact ⟨_,Le.refl _ _,rfl,rfl⟩
     ·replace h:=zAq hb h;refine zAj ?_;show Tri _ _ _ _;refine zAa ?_;refine zAb [] [] rfl ?_;show Tri _ _ _ _;refine zAv ?_;have hy:=Option.some.inj h;subst hy;unfold zAO;exact ⟨_,Le.refl _ _,rfl,rfl⟩
def zQW (xs : List AV) (r : Ret) : Prop:=∃ (a0 : Nd) (y0 : Bool),zFE a0 = some y0 ∧ xs = [.agg ((Nd.enc a0).map .s)] ∧ r = .val (.s (.bool y0))
def zLE : zAx:=zAG fun xs r => zQW xs r
theorem zPW : PSound Tryz.prog 49 zLE:=by
 have gok : ∀ (f : Nat) (s : zAx),(fun _ => none : Nat → Option zAx) f = some s → PSound Tryz.prog f s:=fun _ _ h => by cases h
 refine zAS tokW Tryz.call49 Tryz.func49 rfl (fun xs r h => by obtain ⟨_,_,_,rfl,_⟩:=h; show 1 ≤ 64; decide) 64 rfl ?_;rintro xs r w0 G0 ⟨⟨n1_kind,n1_text,n1_cols,n1_kids⟩,y0,h,rfl,rfl⟩ _;rw [zFE] at h;refine zAa ?_;refine zAb [] [] rfl ?_;show Tri _ _ _ _;refine zAa ?_;refine zAb [] [6] rfl ?_;intro n2 hn2;obtain rfl : (n1_kids.length : Int) = n2:=(hn2.trans (congrArg (fun m : Nat => (m : Int)) (rlen Nd.encs_eq n1_kids))).symm;show Tri _ _ _ _;refine zAa ?_;refine zAa ?_;refine zAb [] [] rfl ?_;show Tri _ _ _ _;refine zAe rfl (fun hb => ?_) (fun hb => ?_)
 ·replace h:=zAr hb h;refine zAa ?_;obtain ⟨x3,hj,h⟩:=zAc h;refine zAp ⟨ofL [(2,.s (.bool x3))],fun _ => none,0⟩ ?_ (fun σ' hle => ?_)
  ·replace h:=hj;refine zAb [] [13,18,22,26] rfl ?_;intro b hb;cases b with
   | true =>
    replace h:=zAr hb.symm h;intro b hb;cases b with
    | true =>
     replace h:=zAr hb.symm h;intro b hb;cases b with
     | true =>
      replace h:=zAr hb.symm h;intro b hb;cases b with
      | true =>
       replace h:=zAr hb.symm h;obtain ⟨hq,h⟩:=zAJ h;refine And.intro hq ?_;cases h;exact (Le.forget _ ⟨rfl,trivial⟩)
      | false =>
       replace h:=zAq hb.symm h;cases h;exact (Le.forget _ ⟨rfl,trivial⟩)
     | false =>
      replace h:=zAq hb.symm h;intro b hb;subst hb;cases h;exact (Le.forget _ ⟨rfl,trivial⟩)
    | false =>
     replace h:=zAq hb.symm h;intro b hb;subst hb;intro b hb;subst hb;cases h;exact (Le.forget _ ⟨rfl,trivial⟩)
   | false =>
    replace h:=zAq hb.symm h;intro b hb;subst hb;intro b hb;subst hb;intro b hb;subst hb;cases h;exact (Le.forget _ ⟨rfl,trivial⟩)
  ·show Tri _ _ _ _;refine zAm hle ?_;refine zAv ?_;have hy:=Option.some.inj h;subst hy;unfold zAO;exact ⟨_,Le.refl _ _,rfl,rfl⟩
 ·replace h:=zAq hb h;refine zAj ?_;show Tri _ _ _ _;refine zAa ?_;refine zAa ?_;refine zAb [] [] rfl ?_;show Tri _ _ _ _;refine zAe rfl (fun hb => ?_) (fun hb => ?_)
  ·replace h:=zAr hb h;refine zAa ?_;refine zAb [] [] rfl ?_;show Tri _ _ _ _;refine zAv ?_;have hy:=Option.some.inj h;subst hy;unfold zAO;exact ⟨_,Le.refl _ _,rfl,rfl⟩
  ·replace h:=zAq hb h;refine zAj ?_;show Tri _ _ _ _;refine zAa ?_;refine zAa ?_;refine zAb [] [] rfl ?_;show Tri _ _ _ _;obtain ⟨fl,hj,ho1⟩:=zAc h;refine zDP (fl:=fl) (fun z => match z with | _ => ⟨ofL [],fun _ => none,0⟩) ?_ (fun z σ' hz hle => ?_)
   ·replace h:=hj;refine zAk ?_;refine zAa ?_;refine zAb [] [] rfl ?_;show Tri _ _ _ _;refine zAe rfl (fun hb => ?_) (fun hb => ?_)
    ·replace h:=zAr hb h;refine zAa ?_;refine zAb [] [] rfl ?_;show Tri _ _ _ _;refine zAv ?_;cases h;replace h : some _ = some _:=ho1;have hy:=Option.some.inj h;subst hy;unfold zAO;exact ⟨_,Le.refl _ _,rfl,rfl⟩
    ·replace h:=zAq hb h;refine zAa ?_;refine zAa ?_;refine zAb [] [] rfl ?_;show Tri _ _ _ _;obtain ⟨x4,hj,h⟩:=zAc h;refine zAp ⟨ofL [(3,.s (.int .i64 (n1_kids.length : Int))),(37,.s (.int .i64 n1_kind)),(42,.s (.bool x4))],fun _ => none,0⟩ ?_ (fun σ' hle => ?_)
     ·replace h:=hj;refine zAe rfl (fun hb => ?_) (fun hb => ?_)
      ·replace h:=zAr hb h;refine zAj ?_;cases h;exact (Le.forget _ ⟨rfl,rfl,rfl,trivial⟩)
      ·replace h:=zAq hb h;refine zAa ?_;refine zAb [] [] rfl ?_;show Tri _ _ _ _;refine zAe rfl (fun hb => ?_) (fun hb => ?_)
       ·replace h:=zAr hb h;refine zAj ?_;cases h;exact (Le.forget _ ⟨rfl,rfl,rfl,trivial⟩)
       ·replace h:=zAq hb h;refine zAb [] [] rfl ?_;cases h;exact (Le.forget _ ⟨rfl,rfl,rfl,trivial⟩)
     ·show Tri _ _ _ _;refine zAm hle ?_;refine zAe rfl (fun hb => ?_) (fun hb => ?_)
      ·replace h:=zAr hb h;refine zAa ?_;refine zAb [] [] rfl ?_;show Tri _ _ _ _;refine zAv ?_;cases h;replace h : some _ = some _:=ho1;have hy:=Option.some.inj h;subst hy;unfold zAO;exact ⟨_,Le.refl _ _,rfl,rfl⟩
      ·replace h:=zAq hb h;refine zAa ?_;refine zAa ?_;refine zAb [] [] rfl ?_;show Tri _ _ _ _;obtain ⟨x5,hj,h⟩:=zAc h;refine zAp ⟨ofL [(3,.s (.int .i64 (n1_kids.length : Int))),(37,.s (.int .i64 n1_kind)),(48,.s (.bool x5))],fun _ => none,0⟩ ?_ (fun σ' hle => ?_)
       ·replace h:=hj;refine zAe rfl (fun hb => ?_) (fun hb => ?_)
        ·replace h:=zAr hb h;refine zAj ?_;cases h;exact (Le.forget _ ⟨rfl,rfl,rfl,trivial⟩)
        ·replace h:=zAq hb h;refine zAa ?_;refine zAb [] [] rfl ?_;show Tri _ _ _ _;refine zAe rfl (fun hb => ?_) (fun hb => ?_)
         ·replace h:=zAr hb h;refine zAj ?_;cases h;exact (Le.forget _ ⟨rfl,rfl,rfl,trivial⟩)
         ·replace h:=zAq hb h;refine zAa ?_;refine zAb [] [] rfl ?_;show Tri _ _ _ _;refine zAe rfl (fun hb => ?_) (fun hb => ?_)
          ·replace h:=zAr hb h;refine zAj ?_;cases h;exact (Le.forget _ ⟨rfl,rfl,rfl,trivial⟩)
          ·replace h:=zAq hb h;refine zAb [] [] rfl ?_;cases h;exact (Le.forget _ ⟨rfl,rfl,rfl,trivial⟩)
       ·show Tri _ _ _ _;refine zAm hle ?_;refine zAe rfl (fun hb => ?_) (fun hb => ?_)
        ·replace h:=zAr hb h;refine zAa ?_;refine zAb [] [] rfl ?_;show Tri _ _ _ _;refine zAv ?_;cases h;replace h : some _ = some _:=ho1;have hy:=Option.some.inj h;subst hy;unfold zAO;exact ⟨_,Le.refl _ _,rfl,rfl⟩
        ·replace h:=zAq hb h;refine zAa ?_;refine zAb [] [] rfl ?_;show Tri _ _ _ _;refine zAe rfl (fun hb => ?_) (fun hb => ?_)
         ·replace h:=zAr hb h;refine zAa ?_;refine zAb [] [] rfl ?_;show Tri _ _ _ _;refine zAv ?_;cases h;replace h : some _ = some _:=ho1;have hy:=Option.some.inj h;subst hy;unfold zAO;exact ⟨_,Le.refl _ _,rfl,rfl⟩
         ·replace h:=zAq hb h;refine zAa ?_;refine zAa ?_;refine zAb [] [] rfl ?_;show Tri _ _ _ _;obtain ⟨x6,hj,h⟩:=zAc h;refine zAp ⟨ofL [(3,.s (.int .i64 (n1_kids.length : Int))),(59,.s (.bool x6))],fun _ => none,0⟩ ?_ (fun σ' hle => ?_)
          ·replace h:=hj;refine zAe rfl (fun hb => ?_) (fun hb => ?_)
           ·replace h:=zAr hb h;refine zAj ?_;cases h;exact (Le.forget _ ⟨rfl,rfl,trivial⟩)
           ·replace h:=zAq hb h;refine zAb [] [] rfl ?_;cases h;exact (Le.forget _ ⟨rfl,rfl,trivial⟩)
          ·show Tri _ _ _ _;refine zAm hle ?_;refine zAe rfl (fun hb => ?_) (fun hb => ?_)
           ·replace h:=zAr hb h;refine zAa ?_;refine zAb [] [] rfl ?_;show Tri _ _ _ _;refine zAv ?_;cases h;replace h : some _ = some _:=ho1;have hy:=Option.some.inj h;subst hy;unfold zAO;exact ⟨_,Le.refl _ _,rfl,rfl⟩
           ·replace h:=zAq hb h;refine zAj ?_;cases h;exact ⟨_,rfl,(Le.forget _ trivial)⟩
   ·subst hz;obtain _:=z;replace h:=ho1;show Tri _ _ _ _;refine zAm hle ?_;refine zAa ?_;refine zAb [] [] rfl ?_;show Tri _ _ _ _;refine zAv ?_;have hy:=Option.some.inj h;subst hy;unfold zAO;exact ⟨_,Le.refl _ _,rfl,rfl⟩
def zFp (n : Nat) (xs : List AV) (r : Ret) : Prop:=∃ (a0 : Nd) (y0 : Bool),zC8 n a0 = some y0 ∧ xs = [.agg ((Nd.enc a0).map .s)] ∧ r = .val (.s (.bool y0))
theorem zNr (n : Nat) (ih : PSound Tryz.prog 27 (zAG (zFp n))) : PSound Tryz.prog 27 (zAG (zFp (n + 1))):=by
 have gok : ∀ f s,look? f [(48,zLG),(49,zLE),(27,zAG (zFp n))] = some s → PSound Tryz.prog f s:=zAB (by
  simp only [List.forall_mem_cons]
  exact ⟨zPY,zPW,ih,by simp⟩)
 refine zAS tokW Tryz.call27 Tryz.func27 rfl (fun xs r h => by obtain ⟨_,_,_,rfl,_⟩:=h; show 1 ≤ 39; decide) 39 rfl ?_;rintro xs r w0 G0 ⟨⟨n1_kind,n1_text,n1_cols,n1_kids⟩,y0,h,rfl,rfl⟩ _;rw [zC8] at h;refine zAa ?_;refine zAb [] [] rfl ?_;show Tri _ _ _ _;refine zAa ?_;refine zAa ?_;obtain ⟨x2,hj,h⟩:=zAc h;refine zAp ⟨ofL [(1,.s (.pt [.int .i64 n1_kind,.str n1_text,.int .i64 n1_cols,.sl 4 (Nd.encs n1_kids)])),(11,.s (.bool x2))],fun _ => none,0⟩ ?_ (fun σ' hle => ?_)
 ·replace h:=hj;refine zAb [] [7] rfl ?_;obtain ⟨y3,hy3,h⟩:=zAc h;refine ⟨_,⟨_,_,_,hy3,rfl,rfl⟩,?_⟩
  intro b hb;cases b with
  | true =>
   replace h:=zAr hb.symm h;cases h;exact (Le.forget _ ⟨rfl,rfl,trivial⟩)
  | false =>
   replace h:=zAq hb.symm h;obtain ⟨y4,hy4,h⟩:=zAc h;refine ⟨_,⟨_,_,hy4,rfl,rfl⟩,?_⟩
   cases h;exact (Le.forget _ ⟨rfl,rfl,trivial⟩)
 ·show Tri _ _ _ _;refine zAm hle ?_;refine zAe rfl (fun hb => ?_) (fun hb => ?_)
  ·replace h:=zAr hb h;refine zAa ?_;refine zAb [] [] rfl ?_;show Tri _ _ _ _;refine zAv ?_;have hy:=Option.some.inj h;subst hy;unfold zAO;exact ⟨_,Le.refl _ _,rfl,rfl⟩
  ·replace h:=zAq hb h;refine zAj ?_;show Tri _ _ _ _;refine zAa ?_;refine zAa ?_;refine zAb [] [] rfl ?_;show Tri _ _ _ _;obtain ⟨fl,hl,ho1⟩:=zAc h;refine zDP (fl:=fl) (fun z => match z with | _ => ⟨ofL [],fun _ => none,0⟩) ?_ (fun z σ' hz hle => ?_)
   ·refine zAk (zAA (X:=Nat × Int) (fun y => match y with | (k,i5) => ⟨ofL [(1,.s (.pt [.int .i64 n1_kind,.str n1_text,.int .i64 n1_cols,.sl 4 (Nd.encs n1_kids)])),(3,.s (.int .i64 i5))],fun _ => none,0⟩) (fun y => zCw (zC8 n) n1_kind n1_kids y.1 y.2 = some fl) (fun y => y.1) (n,0) hl ?_ ?_)
    ·exact (Le.forget _ ⟨rfl,rfl,trivial⟩)
    ·rintro ⟨k,i5⟩ h;cases k with
     | zero => cases h
     | succ k =>
      replace h : zCw (zC8 n) n1_kind n1_kids (k+1) i5 = some fl:=h;rw [zCw] at h;refine zAa ?_;refine zAa ?_;refine zAb [] [15] rfl ?_;intro n6 hn6;obtain rfl : (n1_kids.length : Int) = n6:=(hn6.trans (congrArg (fun m : Nat => (m : Int)) (rlen Nd.encs_eq n1_kids))).symm;show Tri _ _ _ _;refine zAe rfl (fun hb => ?_) (fun hb => ?_)
      ·replace h:=zAr hb h;refine zAj ?_;show Tri _ _ _ _;refine zAa ?_;refine zAk ?_;refine zAa ?_;obtain ⟨x7,hj,h⟩:=zAc h;refine zAp ⟨ofL [(1,.s (.pt [.int .i64 n1_kind,.str n1_text,.int .i64 n1_cols,.sl 4 (Nd.encs n1_kids)])),(3,.s (.int .i64 i5)),(38,.s (.bool x7))],fun _ => none,0⟩ ?_ (fun σ' hle => ?_)
       ·replace h:=hj;refine zAz (by exact tokW) (by exact gok) (by exact mixed) [] [22,30,34] [] rfl (by decide +kernel) ?_;obtain ⟨⟨e8_kind,e8_text,e8_cols,e8_kids⟩,he8,h⟩:=zAc h;refine And.intro (zAw Nd.encs_eq he8).1 ?_;intro r9 hr9;obtain rfl : [.int .i64 e8_kind,.str e8_text,.int .i64 e8_cols,.sl 4 (Nd.encs e8_kids)] = r9:=(hr9.trans (zAw Nd.encs_eq he8).2.1).symm;intro b hb;cases b with
        | true =>
         replace h:=zAr hb.symm h;cases h;exact (Le.forget _ ⟨rfl,rfl,rfl,trivial⟩)
        | false =>
         replace h:=zAq hb.symm h;obtain ⟨⟨e10_kind,e10_text,e10_cols,e10_kids⟩,he10,h⟩:=zAc h;refine And.intro (zAw Nd.encs_eq he10).1 ?_;intro r11 hr11;obtain rfl : [.int .i64 e10_kind,.str e10_text,.int .i64 e10_cols,.sl 4 (Nd.encs e10_kids)] = r11:=(hr11.trans (zAw Nd.encs_eq he10).2.1).symm;obtain ⟨y12,hy12,h⟩:=zAc h;refine ⟨_,⟨_,_,hy12,rfl,rfl⟩,?_⟩
         cases h;exact (Le.forget _ ⟨rfl,rfl,rfl,trivial⟩)
       ·show Tri _ _ _ _;refine zAm hle ?_;refine zAe rfl (fun hb => ?_) (fun hb => ?_)
        ·replace h:=zAr hb h;refine zAa ?_;refine zAb [] [] rfl ?_;show Tri _ _ _ _;refine zAv ?_;cases h;replace h : some _ = some _:=ho1;have hy:=Option.some.inj h;subst hy;unfold zAO;exact ⟨_,Le.refl _ _,rfl,rfl⟩
        ·replace h:=zAq hb h;refine zAj ?_;show Tri _ _ _ _;refine zAb [] [] rfl ?_;refine ⟨(k,IntKind.i64.wrap (i5 + 1)),h,(Le.forget _ ⟨rfl,rfl,trivial⟩),Nat.lt_succ_self k⟩
      ·replace h:=zAq hb h;refine zAC ?_;cases h;exact ⟨_,rfl,(Le.forget _ trivial)⟩
   ·subst hz;obtain _:=z;replace h:=ho1;show Tri _ _ _ _;refine zAm hle ?_;refine zAa ?_;refine zAb [] [] rfl ?_;show Tri _ _ _ _;refine zAv ?_;have hy:=Option.some.inj h;subst hy;unfold zAO;exact ⟨_,Le.refl _ _,rfl,rfl⟩
theorem zN1 : ∀ n,PSound Tryz.prog 27 (zAG (zFp n)):=by
 intro n
 induction n with
 | zero => exact zBw Tryz.call27 (fun xs r h => by obtain ⟨_,_,h,_⟩:=h; cases h)
 | succ n ih => exact zNr n ih
def zLD : zAx:=zAG fun xs r => ∃ n,zFp n xs r
theorem zPV : PSound Tryz.prog 27 zLD:=zB3 zN1
def zEL (n : Nat) (xs : List AV) (r : Ret) : Prop:=∃ (a0 : Nd) (y0 : Int),zCt n a0 = some y0 ∧ xs = [.agg ((Nd.enc a0).map .s)] ∧ r = .val (.s (.int .i64 y0))
theorem zLy (n : Nat) (ih : PSound Tryz.prog 29 (zAG (zEL n))) : PSound Tryz.prog 29 (zAG (zEL (n + 1))):=by
 have gok : ∀ f s,look? f [(29,zAG (zEL n))] = some s → PSound Tryz.prog f s:=zAB (by
  simp only [List.forall_mem_cons]
  exact ⟨ih,by simp⟩)
 refine zAS tokW Tryz.call29 Tryz.func29 rfl (fun xs r h => by obtain ⟨_,_,_,rfl,_⟩:=h; show 1 ≤ 22; decide) 22 rfl ?_;rintro xs r w0 G0 ⟨⟨n1_kind,n1_text,n1_cols,n1_kids⟩,y0,h,rfl,rfl⟩ _;rw [zCt] at h;refine zAa ?_;refine zAb [] [] rfl ?_;show Tri _ _ _ _;refine zAa ?_;refine zAb [] [] rfl ?_;show Tri _ _ _ _;refine zAa ?_;refine zAa ?_;refine zAb [] [] rfl ?_;show Tri _ _ _ _;obtain ⟨out4,hl,h⟩:=zAc h;refine zAp ⟨ofL [(3,.s (.int .i64 out4))],fun _ => none,0⟩ ?_ (fun σ' hle => ?_)
 ·refine zAk (zAA (X:=Nat × Int × Int) (fun y => match y with | (k,out2,i3) => ⟨ofL [(1,.s (.pt [.int .i64 n1_kind,.str n1_text,.int .i64 n1_cols,.sl 4 (Nd.encs n1_kids)])),(3,.s (.int .i64 out2)),(4,.s (.int .i64 i3))],fun _ => none,0⟩) (fun y => zCc (zCt n) n1_kids y.1 y.2.1 y.2.2 = some out4) (fun y => y.1) (n,0,0) hl ?_ ?_)
  ·exact (Le.forget _ ⟨rfl,rfl,rfl,trivial⟩)
  ·rintro ⟨k,out2,i3⟩ h;cases k with
   | zero => cases h
   | succ k =>
    replace h : zCc (zCt n) n1_kids (k+1) out2 i3 = some out4:=h;rw [zCc] at h;refine zAa ?_;refine zAa ?_;refine zAb [] [8] rfl ?_;intro n5 hn5;obtain rfl : (n1_kids.length : Int) = n5:=(hn5.trans (congrArg (fun m : Nat => (m : Int)) (rlen Nd.encs_eq n1_kids))).symm;show Tri _ _ _ _;refine zAe rfl (fun hb => ?_) (fun hb => ?_)
    ·replace h:=zAr hb h;refine zAj ?_;show Tri _ _ _ _;refine zAa ?_;refine zAk ?_;refine zAb [] [16] rfl ?_;obtain ⟨⟨e6_kind,e6_text,e6_cols,e6_kids⟩,he6,h⟩:=zAc h;refine And.intro (zAw Nd.encs_eq he6).1 ?_;intro r7 hr7;obtain rfl : [.int .i64 e6_kind,.str e6_text,.int .i64 e6_cols,.sl 4 (Nd.encs e6_kids)] = r7:=(hr7.trans (zAw Nd.encs_eq he6).2.1).symm;obtain ⟨y8,hy8,h⟩:=zAc h;refine ⟨_,⟨_,_,hy8,rfl,rfl⟩,?_⟩
     show Tri _ _ _ _;refine zAb [] [] rfl ?_;refine ⟨(k,(if out2 < y8 then y8 else out2),IntKind.i64.wrap (i3 + 1)),h,(Le.forget _ ⟨rfl,rfl,rfl,trivial⟩),Nat.lt_succ_self k⟩
    ·replace h:=zAq hb h;refine zAC ?_;cases h;exact (Le.forget _ ⟨rfl,trivial⟩)
 ·show Tri _ _ _ _;refine zAm hle ?_;refine zAa ?_;refine zAb [] [] rfl ?_;show Tri _ _ _ _;refine zAv ?_;have hy:=Option.some.inj h;subst hy;unfold zAO;exact ⟨_,Le.refl _ _,rfl,rfl⟩
theorem zMB : ∀ n,PSound Tryz.prog 29 (zAG (zEL n)):=by
 intro n
 induction n with
 | zero => exact zBw Tryz.call29 (fun xs r h => by obtain ⟨_,_,h,_⟩:=h; cases h)
 | succ n ih => exact zLy n ih
def zJ4 : zAx:=zAG fun xs r => ∃ n,zEL n xs r
theorem zOK : PSound Tryz.prog 29 zJ4:=zB3 zMB
def zMo (n : Nat) (xs : List AV) (r : Ret) : Prop:=∃ (a0 : List UInt8) (y0 : Nd),zEw n a0 = some y0 ∧ xs = [.s (.str a0)] ∧ r = .val (.agg ((Nd.enc y0).map .s))
def zHP : zAx:=zAG fun xs r => ∃ n,zMo n xs r
theorem zLj : PSound Tryz.prog 20 zHP:=by
 have gok : ∀ (f : Nat) (s : zAx),(fun _ => none : Nat → Option zAx) f = some s → PSound Tryz.prog f s:=fun _ _ h => by cases h
 refine zAS tokW Tryz.call20 Tryz.func20 rfl (fun xs r h => by obtain ⟨n,_,_,_,rfl,_⟩:=h; show 1 ≤ 24; decide) 24 rfl ?_;rintro xs r w0 G0 ⟨n,s1,y0,h,rfl,rfl⟩ _;rw [zEw] at h;refine zAa ?_;refine zAb [2] [] rfl ?_;show Tri _ _ _ _;refine zAa ?_;refine zAb [3] [] rfl ?_;show Tri _ _ _ _;refine zAa ?_;refine zAa ?_;refine zAb [] [] rfl ?_;show Tri _ _ _ _;obtain ⟨l6,hl,h⟩:=zAc h;refine zAp ⟨ofL [(2,.op 0 0),(3,.op 1 0)],ofH [(0,.box 24 [.s (.int .i64 0),.s (.str []),.s (.int .i64 0),.nl 4]),(1,.box 24 [.s (.int .i64 1),.s (.str []),.s (.int .i64 0),.orow 2]),(2,.row 24 4 (Nd.encs l6))],3⟩ ?_ (fun σ' hle => ?_)
 ·refine zAk (zAA (X:=Nat × Int × (List Nd)) (fun y => match y with | (k,i4,l5) => ⟨ofL [(0,.s (.str s1)),(2,.op 0 0),(3,.op 1 0),(4,.s (.int .i64 i4))],ofH [(0,.box 24 [.s (.int .i64 0),.s (.str []),.s (.int .i64 0),.nl 4]),(1,.box 24 [.s (.int .i64 1),.s (.str []),.s (.int .i64 0),.orow 2]),(2,.row 24 4 (Nd.encs l5))],3⟩) (fun y => zCF s1 y.1 y.2.1 y.2.2 = some l6) (fun y => y.1) (n,0,[]) hl ?_ ?_)
  ·exact (Le.trans (Le.trans (Le.rename [(0,0),(1,1)] [(0,.s (.str s1)),(2,.op 0 0),(3,.op 1 0),(4,.s (.int .i64 0))] [(0,.box 24 [.s (.int .i64 0),.s (.str []),.s (.int .i64 0),.nl 4]),(1,.box 24 [.s (.int .i64 1),.s (.str []),.s (.int .i64 0),.nl 4])] 2 ⟨rfl,rfl,rfl,rfl,trivial⟩ ⟨rfl,⟨_,rfl,rfl⟩,rfl,⟨_,rfl,rfl⟩,trivial⟩ rfl rfl rfl rfl rfl) (Le.takeNil 1 3 24 rfl rfl (by decide))) (Le.rename [(0,0),(1,1),(2,2)] _ _ _ ⟨rfl,rfl,rfl,rfl,trivial⟩ ⟨rfl,⟨_,rfl,rfl⟩,rfl,⟨_,rfl,rfl⟩,rfl,⟨_,rfl,congrArg (Ob.row 24 4) (by simp [List.map_append,List.map_take,List.map_drop,irow,brow,zAF,List.map_cons,List.map_nil,zAy,Nd.encs_eq,Nd.enc,zAh,zAg,zAi,zAs,zAu,zAn,zAl,zAd,zAP])⟩,trivial⟩ rfl rfl rfl rfl rfl))
  ·rintro ⟨k,i4,l5⟩ h;cases k with
   | zero => cases h
   | succ k =>
    replace h : zCF s1 (k+1) i4 l5 = some l6:=h;rw [zCF] at h;refine zAa ?_;refine zAa ?_;refine zAb [] [] rfl ?_;show Tri _ _ _ _;refine zAe rfl (fun hb => ?_) (fun hb => ?_)
    ·replace h:=zAr hb h;refine zAj ?_;show Tri _ _ _ _;refine zAa ?_;refine zAk ?_;refine zAz (by exact tokW) (by exact gok) (by exact mixed) [21] [20] [1,9,11] rfl (by decide +kernel) ?_;obtain ⟨hq,h⟩:=zAJ h;refine And.intro hq ?_;intro r7 hr7;obtain rfl : Nd.encs [Nd.mk 2 ((s1.take (IntKind.i64.wrap (i4 + 1)).toNat).drop i4.toNat) 0 []] = r7:=(hr7.trans (by simp [List.map_append,List.map_take,List.map_drop,irow,brow,zAF,List.map_cons,List.map_nil,zAy,Nd.encs_eq,Nd.enc,zAh,zAg,zAi,zAs,zAu,zAn,zAl,zAd,zAP])).symm
     obtain ⟨hq,h⟩:=zAJ h;refine And.intro (show ((Nd.encs l5).length + (Nd.encs [Nd.mk 2 ((s1.take (IntKind.i64.wrap (i4 + 1)).toNat).drop i4.toNat) 0 []]).length) * 56 ≤ 140737488355328 ∧ (Nd.encs l5).length + (Nd.encs [Nd.mk 2 ((s1.take (IntKind.i64.wrap (i4 + 1)).toNat).drop i4.toNat) 0 []]).length ≤ 9223372036854775807 from by simp only [List.length_append,List.length_cons,List.length_nil,List.length_map,rlen Nd.encs_eq] at hq ⊢; omega) ?_;show Tri _ _ _ _
     refine zAm (Le.rename [(0,0),(1,1),(3,2)] [(0,.s (.str s1)),(2,.op 0 0),(3,.op 1 0),(4,.s (.int .i64 i4))] [(0,.box 24 [.s (.int .i64 0),.s (.str []),.s (.int .i64 0),.nl 4]),(1,.box 24 [.s (.int .i64 1),.s (.str []),.s (.int .i64 0),.orow 2]),(2,.row 24 4 (Nd.encs (l5 ++ [Nd.mk 2 ((s1.take (IntKind.i64.wrap (i4 + 1)).toNat).drop i4.toNat) 0 []])))] 3 ⟨rfl,rfl,rfl,rfl,trivial⟩ ⟨rfl,⟨_,rfl,rfl⟩,rfl,⟨_,rfl,rfl⟩,rfl,⟨_,rfl,congrArg (Ob.row 24 4) (by simp [List.map_append,List.map_take,List.map_drop,irow,brow,zAF,List.map_cons,List.map_nil,zAy,Nd.encs_eq,Nd.enc,zAh,zAg,zAi,zAs,zAu,zAn,zAl,zAd,zAP])⟩,trivial⟩ rfl rfl rfl rfl rfl) ?_
     refine zAb [] [] rfl ?_;refine ⟨(k,IntKind.i64.wrap (i4 + 1),l5 ++ [Nd.mk 2 ((s1.take (IntKind.i64.wrap (i4 + 1)).toNat).drop i4.toNat) 0 []]),h,(Le.rename [(0,0),(1,1),(2,2)] _ _ _ ⟨rfl,rfl,rfl,rfl,trivial⟩ ⟨rfl,⟨_,rfl,rfl⟩,rfl,⟨_,rfl,rfl⟩,rfl,⟨_,rfl,rfl⟩,trivial⟩ rfl rfl rfl rfl rfl),Nat.lt_succ_self k⟩
    ·replace h:=zAq hb h;refine zAC ?_;cases h;exact (Le.rename [(0,0),(1,1),(2,2)] _ _ _ ⟨rfl,rfl,trivial⟩ ⟨rfl,⟨_,rfl,rfl⟩,rfl,⟨_,rfl,rfl⟩,rfl,⟨_,rfl,rfl⟩,trivial⟩ rfl rfl rfl rfl rfl)
 ·show Tri _ _ _ _;refine zAm hle ?_;refine zAa ?_;refine zAb [] [] rfl ?_;show Tri _ _ _ _;refine zAv ?_;have hy:=Option.some.inj h;subst hy;unfold zAO;exact ⟨_,(Le.trans (Le.rename [(0,0),(2,1)] [(2,.op 0 0)] [(0,.box 24 [.s (.int .i64 1),.s (.str []),.s (.int .i64 0),.orow 1]),(1,.row 24 4 (Nd.encs l6))] 2 ⟨rfl,trivial⟩ ⟨rfl,⟨_,rfl,rfl⟩,rfl,⟨_,rfl,rfl⟩,trivial⟩ rfl rfl rfl rfl rfl) (Le.giveRow 1 rfl)),rfl,rfl⟩
def zPv (n : Nat) (xs : List AV) (r : Ret) : Prop:=∃ (y0 : Bool),zFU n = some y0 ∧ xs = [] ∧ r = .val (.s (.bool y0))
def zJ1 : zAx:=zAG fun xs r => ∃ n,zPv n xs r
theorem zOH : PSound Tryz.prog 6 zJ1:=by
 have gok : ∀ f s,look? f [(20,zHP),(14,zJ0)] = some s → PSound Tryz.prog f s:=zAB (by
  simp only [List.forall_mem_cons]
  exact ⟨zLj,zOG,by simp⟩)
 refine zAS tokW Tryz.call6 Tryz.func6 rfl (fun xs r h => by obtain ⟨n,_,_,rfl,_⟩:=h; show 0 ≤ 15; decide) 15 rfl ?_;rintro xs r w0 G0 ⟨n,y0,h,rfl,rfl⟩ _;rw [zFU] at h;refine zAa ?_;refine zAb [] [] rfl ?_;show Tri _ _ _ _;refine zAa ?_;refine zAb [] [] rfl ?_;obtain ⟨⟨y1_kind,y1_text,y1_cols,y1_kids⟩,hy1,h⟩:=zAc h;refine ⟨_,⟨_,_,_,hy1,rfl,rfl⟩,?_⟩
 obtain ⟨⟨y2_kind,y2_text,y2_cols,y2_kids⟩,hy2,h⟩:=zAc h;refine ⟨_,⟨_,_,_,hy2,rfl,rfl⟩,?_⟩
 obtain ⟨⟨y3,y4⟩,hy3,h⟩:=zAc h;refine ⟨_,⟨_,_,_,_,_,hy3,rfl,rfl⟩,?_⟩
 show Tri _ _ _ _;refine zAa ?_;obtain ⟨x5,hj,h⟩:=zAc h;refine zAp ⟨ofL [(0,.s (.bool x5))],fun _ => none,0⟩ ?_ (fun σ' hle => ?_)
 ·replace h:=hj;refine zAb [] [11] rfl ?_;intro b hb;cases b with
  | true =>
   replace h:=zAr hb.symm h;cases h;exact (Le.forget _ ⟨rfl,trivial⟩)
  | false =>
   replace h:=zAq hb.symm h;cases h;exact (Le.forget _ ⟨rfl,trivial⟩)
 ·show Tri _ _ _ _;refine zAm hle ?_;refine zAv ?_;have hy:=Option.some.inj h;subst hy;unfold zAO;exact ⟨_,Le.refl _ _,rfl,rfl⟩
def zFq (n : Nat) (xs : List AV) (r : Ret) : Prop:=∃ (a0 : Nd) (a1 : Int) (y0 : Int),zC9 n a0 a1 = some y0 ∧ xs = [.agg ((Nd.enc a0).map .s),.s (.int .i64 a1)] ∧ r = .val (.s (.int .i64 y0))
theorem zNs (n : Nat) (ih : PSound Tryz.prog 42 (zAG (zFq n))) : PSound Tryz.prog 42 (zAG (zFq (n + 1))):=by
 have gok : ∀ f s,look? f [(42,zAG (zFq n))] = some s → PSound Tryz.prog f s:=zAB (by
  simp only [List.forall_mem_cons]
  exact ⟨ih,by simp⟩)
 refine zAS tokW Tryz.call42 Tryz.func42 rfl (fun xs r h => by obtain ⟨_,_,_,_,rfl,_⟩:=h; show 2 ≤ 27; decide) 27 rfl ?_;rintro xs r w0 G0 ⟨⟨n1_kind,n1_text,n1_cols,n1_kids⟩,most2,y0,h,rfl,rfl⟩ _;rw [zC9] at h;refine zAa ?_;refine zAb [] [] rfl ?_;show Tri _ _ _ _;refine zAa ?_;refine zAb [] [] rfl ?_;show Tri _ _ _ _;refine zAa ?_;refine zAa ?_;refine zAb [] [] rfl ?_;show Tri _ _ _ _;obtain ⟨most5,hl,h⟩:=zAc h;refine zAp ⟨ofL [(1,.s (.int .i64 most5))],fun _ => none,0⟩ ?_ (fun σ' hle => ?_)
 ·refine zAk (zAA (X:=Nat × Int × Int) (fun y => match y with | (k,most3,i4) => ⟨ofL [(1,.s (.int .i64 most3)),(2,.s (.pt [.int .i64 n1_kind,.str n1_text,.int .i64 n1_cols,.sl 4 (Nd.encs n1_kids)])),(5,.s (.int .i64 i4))],fun _ => none,0⟩) (fun y => zB6 (zC9 n) n1_kids y.1 y.2.1 y.2.2 = some most5) (fun y => y.1) (n,IntKind.i64.wrap (most2 - 1),0) hl ?_ ?_)
  ·exact (Le.forget _ ⟨rfl,rfl,rfl,trivial⟩)
  ·rintro ⟨k,most3,i4⟩ h;cases k with
   | zero => cases h
   | succ k =>
    replace h : zB6 (zC9 n) n1_kids (k+1) most3 i4 = some most5:=h;rw [zB6] at h;refine zAa ?_;refine zAa ?_;obtain ⟨x6,hj,h⟩:=zAc h;refine zAp ⟨ofL [(1,.s (.int .i64 most3)),(2,.s (.pt [.int .i64 n1_kind,.str n1_text,.int .i64 n1_cols,.sl 4 (Nd.encs n1_kids)])),(5,.s (.int .i64 i4)),(16,.s (.bool x6))],fun _ => none,0⟩ ?_ (fun σ' hle => ?_)
    ·replace h:=hj;refine zAb [] [11,13] rfl ?_;intro n7 hn7;obtain rfl : (n1_kids.length : Int) = n7:=(hn7.trans (congrArg (fun m : Nat => (m : Int)) (rlen Nd.encs_eq n1_kids))).symm;intro b hb;cases b with
     | true =>
      replace h:=zAr hb.symm h;cases h;exact (Le.forget _ ⟨rfl,rfl,rfl,rfl,trivial⟩)
     | false =>
      replace h:=zAq hb.symm h;cases h;exact (Le.forget _ ⟨rfl,rfl,rfl,rfl,trivial⟩)
    ·show Tri _ _ _ _;refine zAm hle ?_;refine zAe rfl (fun hb => ?_) (fun hb => ?_)
     ·replace h:=zAr hb h;refine zAj ?_;show Tri _ _ _ _;refine zAa ?_;refine zAk ?_;refine zAb [] [22] rfl ?_;obtain ⟨⟨e8_kind,e8_text,e8_cols,e8_kids⟩,he8,h⟩:=zAc h;refine And.intro (zAw Nd.encs_eq he8).1 ?_;intro r9 hr9;obtain rfl : [.int .i64 e8_kind,.str e8_text,.int .i64 e8_cols,.sl 4 (Nd.encs e8_kids)] = r9:=(hr9.trans (zAw Nd.encs_eq he8).2.1).symm;obtain ⟨y10,hy10,h⟩:=zAc h;refine ⟨_,⟨_,_,_,hy10,rfl,rfl⟩,?_⟩
      show Tri _ _ _ _;refine zAb [] [] rfl ?_;refine ⟨(k,y10,IntKind.i64.wrap (i4 + 1)),h,(Le.forget _ ⟨rfl,rfl,rfl,trivial⟩),Nat.lt_succ_self k⟩
     ·replace h:=zAq hb h;refine zAC ?_;cases h;exact (Le.forget _ ⟨rfl,trivial⟩)
 ·show Tri _ _ _ _;refine zAm hle ?_;refine zAa ?_;refine zAb [] [] rfl ?_;show Tri _ _ _ _;refine zAv ?_;have hy:=Option.some.inj h;subst hy;unfold zAO;exact ⟨_,Le.refl _ _,rfl,rfl⟩
theorem zN2 : ∀ n,PSound Tryz.prog 42 (zAG (zFq n)):=by
 intro n
 induction n with
 | zero => exact zBw Tryz.call42 (fun xs r h => by obtain ⟨_,_,_,h,_⟩:=h; cases h)
 | succ n ih => exact zNs n ih
def zLF : zAx:=zAG fun xs r => ∃ n,zFq n xs r
theorem zPX : PSound Tryz.prog 42 zLF:=zB3 zN2
def zRF (n : Nat) (xs : List AV) (r : Ret) : Prop:=∃ (a0 : Nd) (a1 : Int) (y0 : Bool),zFD n a0 a1 = some y0 ∧ xs = [.agg ((Nd.enc a0).map .s),.s (.int .i64 a1)] ∧ r = .val (.s (.bool y0))
def zNW : zAx:=zAG fun xs r => ∃ n,zRF n xs r
theorem zRl : PSound Tryz.prog 21 zNW:=by
 have gok : ∀ f s,look? f [(42,zLF)] = some s → PSound Tryz.prog f s:=zAB (by
  simp only [List.forall_mem_cons]
  exact ⟨zPX,by simp⟩)
 refine zAS tokW Tryz.call21 Tryz.func21 rfl (fun xs r h => by obtain ⟨n,_,_,_,_,rfl,_⟩:=h; show 2 ≤ 9; decide) 9 rfl ?_;rintro xs r w0 G0 ⟨n,⟨n1_kind,n1_text,n1_cols,n1_kids⟩,most2,y0,h,rfl,rfl⟩ _;rw [zFD] at h;refine zAa ?_;refine zAb [] [] rfl ?_;show Tri _ _ _ _;refine zAa ?_;refine zAb [] [] rfl ?_;obtain ⟨y3,hy3,h⟩:=zAc h;refine ⟨_,⟨_,_,_,_,hy3,rfl,rfl⟩,?_⟩
 show Tri _ _ _ _;refine zAv ?_;have hy:=Option.some.inj h;subst hy;unfold zAO;exact ⟨_,Le.refl _ _,rfl,rfl⟩
def zRE (n : Nat) (xs : List AV) (r : Ret) : Prop:=∃ (a0 : Nd) (a1 : Nd) (y0 : Bool),zGv n a0 a1 = some y0 ∧ xs = [.agg ((Nd.enc a0).map .s),.agg ((Nd.enc a1).map .s)] ∧ r = .val (.s (.bool y0))
def zNV : zAx:=zAG fun xs r => ∃ n,zRE n xs r
theorem zRk : PSound Tryz.prog 7 zNV:=by
 have gok : ∀ f s,look? f [(21,zNW)] = some s → PSound Tryz.prog f s:=zAB (by
  simp only [List.forall_mem_cons]
  exact ⟨zRl,by simp⟩)
 refine zAS tokW Tryz.call7 Tryz.func7 rfl (fun xs r h => by obtain ⟨n,_,_,_,_,rfl,_⟩:=h; show 2 ≤ 11; decide) 11 rfl ?_;rintro xs r w0 G0 ⟨n,⟨a1_kind,a1_text,a1_cols,a1_kids⟩,⟨b2_kind,b2_text,b2_cols,b2_kids⟩,y0,h,rfl,rfl⟩ _;rw [zGv] at h;refine zAa ?_;refine zAb [] [] rfl ?_;show Tri _ _ _ _;refine zAa ?_;obtain ⟨x3,hj,h⟩:=zAc h;refine zAp ⟨ofL [(4,.s (.bool x3))],fun _ => none,0⟩ ?_ (fun σ' hle => ?_)
 ·replace h:=hj;refine zAb [] [7] rfl ?_;obtain ⟨y4,hy4,h⟩:=zAc h;refine ⟨_,⟨_,_,_,_,hy4,rfl,rfl⟩,?_⟩
  intro b hb;cases b with
  | true =>
   replace h:=zAr hb.symm h;obtain ⟨y5,hy5,h⟩:=zAc h;refine ⟨_,⟨_,_,_,_,hy5,rfl,rfl⟩,?_⟩
   cases h;exact (Le.forget _ ⟨rfl,trivial⟩)
  | false =>
   replace h:=zAq hb.symm h;cases h;exact (Le.forget _ ⟨rfl,trivial⟩)
 ·show Tri _ _ _ _;refine zAm hle ?_;refine zAv ?_;have hy:=Option.some.inj h;subst hy;unfold zAO;exact ⟨_,Le.refl _ _,rfl,rfl⟩
def zEM (n : Nat) (xs : List AV) (r : Ret) : Prop:=∃ (a0 : Nd) (a1 : Nd) (y0 : Bool),zCv n a0 a1 = some y0 ∧ xs = [.agg ((Nd.enc a0).map .s),.agg ((Nd.enc a1).map .s)] ∧ r = .val (.s (.bool y0))
def zCh (n : Nat) (xs : List AV) (r : Ret) : Prop:=∃ (a0 : List Nd) (a1 : List Nd) (y0 : Bool),zBZ n a0 a1 = some y0 ∧ xs = [.s (.sl 4 (Nd.encs a0)),.s (.sl 4 (Nd.encs a1))] ∧ r = .val (.s (.bool y0))
theorem zLz (n : Nat) (ih_r09_Equal : PSound Tryz.prog 15 (zAG (zEM n))) (ih_r09_SameItems : PSound Tryz.prog 38 (zAG (zCh n))) : PSound Tryz.prog 15 (zAG (zEM (n + 1))):=by
 have gok : ∀ f s,look? f [(38,zAG (zCh n))] = some s → PSound Tryz.prog f s:=zAB (by
  simp only [List.forall_mem_cons]
  exact ⟨ih_r09_SameItems,by simp⟩)
 refine zAS tokW Tryz.call15 Tryz.func15 rfl (fun xs r h => by obtain ⟨_,_,_,_,rfl,_⟩:=h; show 2 ≤ 31; decide) 31 rfl ?_;rintro xs r w0 G0 ⟨⟨a1_kind,a1_text,a1_cols,a1_kids⟩,⟨b2_kind,b2_text,b2_cols,b2_kids⟩,y0,h,rfl,rfl⟩ _;rw [zCv] at h;refine zAa ?_;refine zAb [] [] rfl ?_;show Tri _ _ _ _;refine zAa ?_;obtain ⟨x3,hj,h⟩:=zAc h;refine zAp ⟨ofL [(4,.s (.bool x3))],fun _ => none,0⟩ ?_ (fun σ' hle => ?_)
 ·replace h:=hj;refine zAb [] [10,17,24] rfl ?_;intro b hb;cases b with
  | true =>
   replace h:=zAr hb.symm h;intro b hb;cases b with
   | true =>
    replace h:=zAr hb.symm h;intro b hb;cases b with
    | true =>
     replace h:=zAr hb.symm h;obtain ⟨y4,hy4,h⟩:=zAc h;refine ⟨_,⟨_,_,_,hy4,rfl,rfl⟩,?_⟩
     cases h;exact (Le.forget _ ⟨rfl,trivial⟩)
    | false =>
     replace h:=zAq hb.symm h;cases h;exact (Le.forget _ ⟨rfl,trivial⟩)
   | false =>
    replace h:=zAq hb.symm h;intro b hb;subst hb;cases h;exact (Le.forget _ ⟨rfl,trivial⟩)
  | false =>
   replace h:=zAq hb.symm h;intro b hb;subst hb;intro b hb;subst hb;cases h;exact (Le.forget _ ⟨rfl,trivial⟩)
 ·show Tri _ _ _ _;refine zAm hle ?_;refine zAv ?_;have hy:=Option.some.inj h;subst hy;unfold zAO;exact ⟨_,Le.refl _ _,rfl,rfl⟩
theorem zIp (n : Nat) (ih_r09_Equal : PSound Tryz.prog 15 (zAG (zEM n))) (ih_r09_SameItems : PSound Tryz.prog 38 (zAG (zCh n))) : PSound Tryz.prog 38 (zAG (zCh (n + 1))):=by
 have gok : ∀ f s,look? f [(15,zAG (zEM n))] = some s → PSound Tryz.prog f s:=zAB (by
  simp only [List.forall_mem_cons]
  exact ⟨ih_r09_Equal,by simp⟩)
 refine zAS tokW Tryz.call38 Tryz.func38 rfl (fun xs r h => by obtain ⟨_,_,_,_,rfl,_⟩:=h; show 2 ≤ 27; decide) 27 rfl ?_;rintro xs r w0 G0 ⟨a1,b2,y0,h,rfl,rfl⟩ _;rw [zBZ] at h;refine zAa ?_;refine zAb [] [] rfl ?_;show Tri _ _ _ _;refine zAa ?_;refine zAa ?_;refine zAb [] [7,9] rfl ?_;intro n3 hn3;obtain rfl : (a1.length : Int) = n3:=(hn3.trans (congrArg (fun m : Nat => (m : Int)) (rlen Nd.encs_eq a1))).symm;intro n4 hn4;obtain rfl : (b2.length : Int) = n4:=(hn4.trans (congrArg (fun m : Nat => (m : Int)) (rlen Nd.encs_eq b2))).symm;show Tri _ _ _ _;refine zAe rfl (fun hb => ?_) (fun hb => ?_)
 ·replace h:=zAr hb h;refine zAa ?_;refine zAb [] [] rfl ?_;show Tri _ _ _ _;refine zAv ?_;have hy:=Option.some.inj h;subst hy;unfold zAO;exact ⟨_,Le.refl _ _,rfl,rfl⟩
 ·replace h:=zAq hb h;refine zAj ?_;show Tri _ _ _ _;refine zAa ?_;refine zAa ?_;refine zAb [] [] rfl ?_;show Tri _ _ _ _;obtain ⟨fl,hl,ho1⟩:=zAc h;refine zDP (fl:=fl) (fun z => match z with | _ => ⟨ofL [],fun _ => none,0⟩) ?_ (fun z σ' hz hle => ?_)
  ·refine zAk (zAA (X:=Nat × Int) (fun y => match y with | (k,i5) => ⟨ofL [(0,.s (.sl 4 (Nd.encs a1))),(1,.s (.sl 4 (Nd.encs b2))),(5,.s (.int .i64 i5))],fun _ => none,0⟩) (fun y => zBt (zCv n) a1 b2 y.1 y.2 = some fl) (fun y => y.1) (n,0) hl ?_ ?_)
   ·exact (Le.forget _ ⟨rfl,rfl,rfl,trivial⟩)
   ·rintro ⟨k,i5⟩ h;cases k with
    | zero => cases h
    | succ k =>
     replace h : zBt (zCv n) a1 b2 (k+1) i5 = some fl:=h;rw [zBt] at h;refine zAa ?_;refine zAa ?_;refine zAb [] [13] rfl ?_;intro n6 hn6;obtain rfl : (a1.length : Int) = n6:=(hn6.trans (congrArg (fun m : Nat => (m : Int)) (rlen Nd.encs_eq a1))).symm;show Tri _ _ _ _;refine zAe rfl (fun hb => ?_) (fun hb => ?_)
     ·replace h:=zAr hb h;refine zAj ?_;show Tri _ _ _ _;refine zAa ?_;refine zAk ?_;refine zAa ?_;refine zAz (by exact tokW) (by exact gok) (by exact mixed) [] [19,23] [] rfl (by decide +kernel) ?_;obtain ⟨⟨e7_kind,e7_text,e7_cols,e7_kids⟩,he7,h⟩:=zAc h;refine And.intro (zAw Nd.encs_eq he7).1 ?_;intro r8 hr8;obtain rfl : [.int .i64 e7_kind,.str e7_text,.int .i64 e7_cols,.sl 4 (Nd.encs e7_kids)] = r8:=(hr8.trans (zAw Nd.encs_eq he7).2.1).symm;obtain ⟨⟨e9_kind,e9_text,e9_cols,e9_kids⟩,he9,h⟩:=zAc h;refine And.intro (zAw Nd.encs_eq he9).1 ?_;intro r10 hr10
      obtain rfl : [.int .i64 e9_kind,.str e9_text,.int .i64 e9_cols,.sl 4 (Nd.encs e9_kids)] = r10:=(hr10.trans (zAw Nd.encs_eq he9).2.1).symm;obtain ⟨y11,hy11,h⟩:=zAc h;refine ⟨_,⟨_,_,_,hy11,rfl,rfl⟩,?_⟩
      show Tri _ _ _ _;refine zAe rfl (fun hb => ?_) (fun hb => ?_)
      ·replace h:=zAr hb h;refine zAa ?_;refine zAb [] [] rfl ?_;show Tri _ _ _ _;refine zAv ?_;cases h;replace h : some _ = some _:=ho1;have hy:=Option.some.inj h;subst hy;unfold zAO;exact ⟨_,Le.refl _ _,rfl,rfl⟩
      ·replace h:=zAq hb h;refine zAj ?_;show Tri _ _ _ _;refine zAb [] [] rfl ?_;refine ⟨(k,IntKind.i64.wrap (i5 + 1)),h,(Le.forget _ ⟨rfl,rfl,rfl,trivial⟩),Nat.lt_succ_self k⟩
     ·replace h:=zAq hb h;refine zAC ?_;cases h;exact ⟨_,rfl,(Le.forget _ trivial)⟩
  ·subst hz;obtain _:=z;replace h:=ho1;show Tri _ _ _ _;refine zAm hle ?_;refine zAa ?_;refine zAb [] [] rfl ?_;show Tri _ _ _ _;refine zAv ?_;have hy:=Option.some.inj h;subst hy;unfold zAO;exact ⟨_,Le.refl _ _,rfl,rfl⟩
theorem zLb : ∀ n,PSound Tryz.prog 15 (zAG (zEM n)) ∧ PSound Tryz.prog 38 (zAG (zCh n)):=by
 intro n
 induction n with
 | zero =>
  refine ⟨?_,?_⟩
  ·exact zBw Tryz.call15 (fun xs r h => by obtain ⟨_,_,_,h,_⟩:=h; rw [zCv] at h; cases h)
  ·exact zBw Tryz.call38 (fun xs r h => by obtain ⟨_,_,_,h,_⟩:=h; rw [zBZ] at h; cases h)
 | succ n ih =>
  obtain ⟨ih_r09_Equal,ih_r09_SameItems⟩:=ih;exact ⟨zLz n ih_r09_Equal ih_r09_SameItems,zIp n ih_r09_Equal ih_r09_SameItems⟩
def zGj : zAx:=zAG fun xs r => ∃ n,zCh n xs r
theorem zJG : PSound Tryz.prog 38 zGj:=zB3 (fun n => (zLb n).2)
end Go.Proofs.YtjdhkpdjecegnaaGreatDoor
namespace Go.Proofs
open Go.RowKit Go.Lib
theorem Tryz.Grow_nil_sint (w : World) :
  Calls Tryz.prog 69 #[.slice none 0 0,.int .i64 0] w fun e w' => e = .returned (.slice none 0 0) ∧ w' = w:=by
 have h2 : wrap64 0 = 0:=by unfold wrap64; omega
 go_enter Tryz.func69,Tryz.ntmps69
 go_wp2
 go_ret
 exact ⟨rfl,rfl⟩
set_option maxHeartbeats 4000000 in
theorem Tryz.Grow_new_sint (i0 : TypeInfo) (z : Value) (hi0 : Tryz.prog.info? 3 = some i0) (hz0 : i0.zero = some z) (hs0 : 0 < i0.size)
  (n : Nat) (w : World) (hroom : 0 < n) (hbig : n * i0.bytes ≤ 140737488355328) (h63 : n ≤ 4611686018427387904) :
  Calls Tryz.prog 69 #[.slice none 0 0,.int .i64 n] w fun e w' =>
   e = .returned (.slice (some ⟨w.heap.size,0,none⟩) 0 (grownCap w n 0 3)) ∧
   w' = w.drew.alloc (.cells (#[] ++ Builtin.zeroCells z.cells n ++ Builtin.zeroCells z.cells (grownCap w n 0 3 - n)) 3):=by
 have h1 : ¬ ((n : Int) < 0) :=(by omega);have h2 : wrap64 0 = 0 :=(by unfold wrap64; omega);have h3 : wrap64 (n : Int) = (n : Int) :=(by unfold wrap64; omega);have h4 : (n : Int) > 0 :=(by omega);have hold : (Builtin.firstCells i0.size 0 (.slice none 0 0)).run Tryz.prog w.drew = .ok ([] : List Value).toArray w.drew:=run_firstCells_none w.drew i0.size 0 0 0;have hrz : ∀ ty,(Builtin.append_ #[43,3] ty #[.slice none 0 0,.int .i64 (n : Int)]).run Tryz.prog w =
   .ok (.slice (some ⟨w.heap.size,0,none⟩) n (grownCap w n 0 3)) (w.drew.alloc (.cells (#[] ++ Builtin.zeroCells z.cells n ++ Builtin.zeroCells z.cells (grownCap w n 0 3 - n)) 3)):=fun ty => by
  have h:=Lib.run_append_grow_zeros w 43 3 ty 3 i0 z .i64 .i64 Tryz.underlying43 Tryz.underlying3 hi0 hz0 none 0 0 [] hold n (by omega) hs0 (by omega) (by omega) (by omega)
   (by rw [Nat.zero_add]; exact growslice_fits hroom hbig)
  rw [Nat.zero_add] at h;exact h
 have hGn : n ≤ grownCap w n 0 3:=grownCap_ge w _ _ _;obtain ⟨G,hG⟩ : ∃ G,G = grownCap w n 0 3:=⟨_,rfl⟩
 rw [← hG] at hrz hGn ⊢;have hG63 : G ≤ 9223372036854775807:=by
  have:=grownCap_le_maxLen w n 0 3 (by unfold maxLen; omega)
  rw [← hG] at this;unfold maxLen at this
  omega
 clear hold hG
 go_enter Tryz.func69,Tryz.ntmps69
 go_wp2_with (at_builtin; refine Lib.wpList_append_run _ rfl _ _ _ _ rfl _ _ rfl rfl _ _ (hrz _) ?_)
 all_goals (go_ret; exact ⟨rfl,rfl⟩)
end Go.Proofs
namespace Go.Proofs.YtjdhkpdjecegnaaGreatDoor
open Go.Abs
theorem zUw (z : Array Value) (n : Nat) : (Builtin.zeroCells z n).size = n * z.size:=by simp [Builtin.zeroCells]
def zHN (xs : List AV) (r : Ret) : Prop:=∃ (a0 : Int) (y0 : List Int),zCN a0 = some y0 ∧ xs = [.nl 1,.s (.int .i64 a0)] ∧ r = .row 3 1 ((List.map (irow .i64)) y0)
def zE7 : zAx:=zUU fun xs r => zHN xs r
theorem zHA : PSound Tryz.prog 69 zE7 :=
 ⟨Tryz.call69,fun G w xs vs r hl hg _ hv ⟨a0,y0,hm,hx,hr⟩ => by
  subst hx; subst hr
  obtain ⟨⟨q1,q2⟩,hm⟩:=zAJ hm;obtain rfl:=Option.some.inj hm;obtain ⟨n,rfl⟩:=Int.eq_ofNat_of_zero_le q1;simp only [AVals,AVal,Rep] at hv;obtain ⟨_,_,rfl,rfl,_,_,rfl,rfl,rfl⟩:=hv
  by_cases h0 : n = 0
  ·subst h0;exact (Tryz.Grow_nil_sint w).mono fun e w' ⟨h1,h2⟩ => by
    subst h2;exact ⟨_,G,h1,Ext.refl hl,fun r hr => (by cases hr),by decide,.inl ⟨rfl,rfl⟩⟩
  obtain ⟨d,info,z,b1,b2,b3,b4,b5,b6,b7,b8,b9,b10⟩:=tokW 3 _ rfl;have i1 : info.size = 1:=b4;have i2 : info.bytes = 8:=b5;have hzs : z.cells.size = 1:=zIu b7 b8 b9;refine (Tryz.Grow_new_sint info z b3 b6 (by omega) n w (by omega) (by rw [i2]; omega) (by omega)).mono fun e w' ⟨h1,h2⟩ => ?_
  have hge : n ≤ grownCap w n 0 3 :=(by unfold grownCap Question.cut; simp);generalize grownCap w n 0 3 = g at *;refine ⟨_,G,h1,?_,fun r hr => (by cases hr),by decide,.inr ⟨w.heap.size,g,#[] ++ Builtin.zeroCells z.cells n ++ Builtin.zeroCells z.cells (g - n),rfl,Nat.zero_le _,?_,by rw [h2]; exact zC0 w.drew _,fun h => Nat.lt_irrefl _ (hl _ h),Nat.le_refl _,fun i s hi => by cases hi⟩⟩
  ·rw [h2]
   exact (Ext.drew hl).trans (Ext.own (w:=w.drew) hl _)
  ·simp only [Array.size_append,Array.size_empty,zUw,hzs]
   omega,
 fun R hR => (by cases hR),fun R hR => (by cases hR)⟩
def zHi (xs : List AV) (r : Ret) : Prop:=∃ (a0 : List Int) (y0 : List Int),zDm a0 = some y0 ∧ xs = [.s (.sl 1 ((List.map (irow .i64)) a0))] ∧ r = .val (.s (.sl 1 ((List.map (irow .i64)) y0)))
def zEQ : zAx:=zAG fun xs r => zHi xs r
theorem zG1 : PSound Tryz.prog 66 zEQ:=by
 have gok : ∀ (f : Nat) (s : zAx),(fun _ => none : Nat → Option zAx) f = some s → PSound Tryz.prog f s:=fun _ _ h => by cases h
 refine zAS tokW Tryz.call66 Tryz.func66 rfl (fun xs r h => by obtain ⟨_,_,_,rfl,_⟩:=h; show 1 ≤ _; decide) _ rfl ?_;rintro xs r w0 G0 ⟨l,y,h,rfl,rfl⟩ _;obtain ⟨hq,h⟩:=zAJ h;obtain rfl:=Option.some.inj h;have hlen : ((List.map (irow .i64)) l).length = l.length:=rlen (fun _ => rfl) l;refine zAa ?_;refine zAb [] [] rfl ?_;show Tri _ _ _ _;refine zAa ?_;refine zAa ?_;refine zAb [] [] rfl ?_;intro b hb;show Tri _ _ _ _;cases b with
 | true =>
  have hl:=hb rfl;refine zAe rfl (fun _ => ?_) (fun h => by cases h)
  refine zAa ?_;refine zAb [] [] rfl ?_;show Tri _ _ _ _;refine zAv ?_;unfold zAO;exact ⟨_,Le.refl _ _,congrArg (fun z => some (AV.s (.sl 1 z))) hl.symm,rfl⟩
 | false =>
  refine zAe rfl (fun h => by cases h) (fun _ => ?_)
  refine zAj ?_;show Tri _ _ _ _;refine zAa ?_;refine zAb [5,7] [] rfl ?_;refine And.intro (show (([] : List (List S)).length + ((List.map (irow .i64)) l).length) * 8 ≤ 140737488355328 ∧ ([] : List (List S)).length + ((List.map (irow .i64)) l).length ≤ 9223372036854775807 from by rw [hlen]; simp only [List.length_nil]; omega) ?_;show Tri _ _ _ _;refine zAv ?_;unfold zAO;exact ⟨_,Le.giveRow 1 (e:=3) (sz:=1) (rows:=(List.map (irow .i64)) l) rfl,rfl,rfl⟩
end Go.Proofs.YtjdhkpdjecegnaaGreatDoor
namespace Go.Proofs.YtjdhkpdjecegnaaGreatDoor
open Go.Abs
def zAM (p : List Nd) : List S:=[.sl 4 (Nd.encs p)]
def zAH (p : ((Int × List Int × Int × Int × List Nd × Int × List UInt8 × List UInt8) × List Nd)) : List S:=[.int .i64 p.1.1,.sl 1 ((List.map (irow .i64)) p.1.2.1),.int .i64 p.1.2.2.1,.int .i64 p.1.2.2.2.1,.sl 4 (Nd.encs p.1.2.2.2.2.1),.int .i64 p.1.2.2.2.2.2.1,.str p.1.2.2.2.2.2.2.1,.str p.1.2.2.2.2.2.2.2,.sl 4 (Nd.encs p.2)]
def zPs (xs : List AV) (r : Ret) : Prop:=∃ (a0 : List Int) (y0 : List Int),zFS a0 = some y0 ∧ xs = [.s (.sl 1 ((List.map (irow .i64)) a0))] ∧ r = .val (.s (.sl 1 ((List.map (irow .i64)) y0)))
def zJY : zAx:=zAG fun xs r => zPs xs r
theorem zOE : PSound Tryz.prog 43 zJY:=by
 have gok : ∀ f s,look? f [(66,zEQ)] = some s → PSound Tryz.prog f s:=zAB (by
  simp only [List.forall_mem_cons]
  exact ⟨zG1,by simp⟩)
 refine zAS tokW Tryz.call43 Tryz.func43 rfl (fun xs r h => by obtain ⟨_,_,_,rfl,_⟩:=h; show 1 ≤ 5; decide) 5 rfl ?_;rintro xs r w0 G0 ⟨l1,y0,h,rfl,rfl⟩ _;rw [zFS] at h;refine zAa ?_;refine zAb [] [] rfl ?_;show Tri _ _ _ _;refine zAa ?_;refine zAb [] [] rfl ?_;obtain ⟨y2,hy2,h⟩:=zAc h;refine ⟨_,⟨_,_,hy2,rfl,rfl⟩,?_⟩
 show Tri _ _ _ _;refine zAv ?_;have hy:=Option.some.inj h;subst hy;unfold zAO;exact ⟨_,Le.refl _ _,rfl,rfl⟩
def zND (n : Nat) (xs : List AV) (r : Ret) : Prop:=∃ (a0 : List Nd) (y0 : List Nd),zFc n a0 = some y0 ∧ xs = [.s (.sl 4 (Nd.encs a0))] ∧ r = .row 24 4 (Nd.encs y0)
def zIY : zAx:=zAG fun xs r => ∃ n,zND n xs r
theorem zM0 : PSound Tryz.prog 44 zIY:=by
 have gok : ∀ f s,look? f [(34,zJZ)] = some s → PSound Tryz.prog f s:=zAB (by
  simp only [List.forall_mem_cons]
  exact ⟨zOF,by simp⟩)
 refine zAS tokW Tryz.call44 Tryz.func44 rfl (fun xs r h => by obtain ⟨n,_,_,_,rfl,_⟩:=h; show 1 ≤ 20; decide) 20 rfl ?_;rintro xs r w0 G0 ⟨n,l1,y0,h,rfl,rfl⟩ _;rw [zFc] at h;refine zAa ?_;refine zAb [2] [] rfl ?_;show Tri _ _ _ _;refine zAm (Le.rename [] [(0,.s (.sl 4 (Nd.encs l1)))] [] 0 ⟨rfl,trivial⟩ trivial rfl rfl rfl rfl rfl) ?_;refine zAa ?_;refine zAb [3] [] rfl ?_;show Tri _ _ _ _
 refine zAm (Le.rename [(0,0)] [(0,.s (.sl 4 (Nd.encs l1))),(3,.orow 0)] [(0,.row 24 4 (Nd.encs []))] 1 ⟨rfl,rfl,trivial⟩ ⟨rfl,⟨_,rfl,congrArg (Ob.row 24 4) (by simp [List.map_append,List.map_take,List.map_drop,irow,brow,zAF,List.map_cons,List.map_nil,zAy,Nd.encs_eq,Nd.enc,zAh,zAg,zAi,zAs,zAu,zAn,zAl,zAd,zAP,zAM,zAH])⟩,trivial⟩ rfl rfl rfl rfl rfl) ?_;refine zAa ?_;refine zAa ?_;refine zAb [] [6] rfl ?_;intro n2 hn2;obtain rfl : (l1.length : Int) = n2:=(hn2.trans (congrArg (fun m : Nat => (m : Int)) (rlen Nd.encs_eq l1))).symm
 show Tri _ _ _ _;obtain ⟨l6,hl,h⟩:=zAc h;refine zAp ⟨ofL [(3,.orow 0)],ofH [(0,.row 24 4 (Nd.encs l6))],1⟩ ?_ (fun σ' hle => ?_)
 ·refine zAk (zAA (X:=Nat × Int × (List Nd)) (fun y => match y with | (k,x4,l5) => ⟨ofL [(0,.s (.sl 4 (Nd.encs l1))),(3,.orow 0),(6,.s (.int .i64 (l1.length : Int))),(7,.s (.int .i64 x4))],ofH [(0,.row 24 4 (Nd.encs l5))],1⟩) (fun y => zBV l1 y.1 y.2.1 y.2.2 = some l6) (fun y => y.1) (n,0,[]) hl ?_ ?_)
  ·exact (Le.rename [(0,0)] _ _ _ ⟨rfl,rfl,rfl,rfl,trivial⟩ ⟨rfl,⟨_,rfl,rfl⟩,trivial⟩ rfl rfl rfl rfl rfl)
  ·rintro ⟨k,x4,l5⟩ h;cases k with
   | zero => cases h
   | succ k =>
    replace h : zBV l1 (k+1) x4 l5 = some l6:=h;rw [zBV] at h;refine zAa ?_;refine zAb [] [] rfl ?_;show Tri _ _ _ _;refine zAa ?_;refine zAe rfl (fun hb => ?_) (fun hb => ?_)
    ·replace h:=zAr hb h;refine zAj ?_;show Tri _ _ _ _;refine zAa ?_;refine zAk ?_;refine zAa ?_;refine zAb [] [] rfl ?_;show Tri _ _ _ _;refine zAb [17] [13,16] rfl ?_;obtain ⟨⟨e7_kind,e7_text,e7_cols,e7_kids⟩,he7,h⟩:=zAc h;refine And.intro (zAw Nd.encs_eq he7).1 ?_;intro r8 hr8;obtain rfl : [.int .i64 e7_kind,.str e7_text,.int .i64 e7_cols,.sl 4 (Nd.encs e7_kids)] = r8:=(hr8.trans (zAw Nd.encs_eq he7).2.1).symm;obtain ⟨⟨y9_kind,y9_text,y9_cols,y9_kids⟩,hy9,h⟩:=zAc h;refine ⟨_,⟨_,_,hy9,rfl,rfl⟩,?_⟩
     intro r10 hr10;obtain rfl : Nd.encs [Nd.mk y9_kind y9_text y9_cols y9_kids] = r10:=(hr10.trans (by simp [List.map_append,List.map_take,List.map_drop,irow,brow,zAF,List.map_cons,List.map_nil,zAy,Nd.encs_eq,Nd.enc,zAh,zAg,zAi,zAs,zAu,zAn,zAl,zAd,zAP,zAM,zAH])).symm;obtain ⟨hq,h⟩:=zAJ h
     refine And.intro (show ((Nd.encs l5).length + (Nd.encs [Nd.mk y9_kind y9_text y9_cols y9_kids]).length) * 56 ≤ 140737488355328 ∧ (Nd.encs l5).length + (Nd.encs [Nd.mk y9_kind y9_text y9_cols y9_kids]).length ≤ 9223372036854775807 from by simp only [List.length_append,List.length_cons,List.length_nil,List.length_map,rlen Nd.encs_eq] at hq ⊢; omega) ?_;show Tri _ _ _ _
     refine zAm (Le.rename [(1,0)] [(0,.s (.sl 4 (Nd.encs l1))),(3,.orow 0),(6,.s (.int .i64 (l1.length : Int))),(7,.s (.int .i64 x4))] [(0,.row 24 4 (Nd.encs (l5 ++ [Nd.mk y9_kind y9_text y9_cols y9_kids])))] 1 ⟨rfl,rfl,rfl,rfl,trivial⟩ ⟨rfl,⟨_,rfl,congrArg (Ob.row 24 4) (by simp [List.map_append,List.map_take,List.map_drop,irow,brow,zAF,List.map_cons,List.map_nil,zAy,Nd.encs_eq,Nd.enc,zAh,zAg,zAi,zAs,zAu,zAn,zAl,zAd,zAP,zAM,zAH])⟩,trivial⟩ rfl rfl rfl rfl rfl) ?_;refine zAb [] [] rfl ?_
     refine ⟨(k,IntKind.i64.wrap (x4 + 1),l5 ++ [Nd.mk y9_kind y9_text y9_cols y9_kids]),h,(Le.rename [(0,0)] _ _ _ ⟨rfl,rfl,rfl,rfl,trivial⟩ ⟨rfl,⟨_,rfl,rfl⟩,trivial⟩ rfl rfl rfl rfl rfl),Nat.lt_succ_self k⟩
    ·replace h:=zAq hb h;refine zAC ?_;cases h;exact (Le.rename [(0,0)] _ _ _ ⟨rfl,trivial⟩ ⟨rfl,⟨_,rfl,rfl⟩,trivial⟩ rfl rfl rfl rfl rfl)
 ·show Tri _ _ _ _;refine zAm hle ?_;refine zAa ?_;refine zAb [] [] rfl ?_;show Tri _ _ _ _;refine zAv ?_;have hy:=Option.some.inj h;subst hy;unfold zAO;exact ⟨_,Le.refl _ _,0,rfl,rfl⟩
def zRD (n : Nat) (xs : List AV) (r : Ret) : Prop:=∃ (a0 : (Int × List Int × Int × Int × List Nd × Int × List UInt8 × List UInt8)) (y0 : (Int × List Int × Int × Int × List Nd × Int × List UInt8 × List UInt8)),zGu n a0 = some y0 ∧ xs = [.agg ((zAd a0).map .s)] ∧ r = .val (.agg ((zAd y0).map .s))
def zNU : zAx:=zAG fun xs r => ∃ n,zRD n xs r
theorem zRj : PSound Tryz.prog 24 zNU:=by
 have gok : ∀ f s,look? f [(43,zJY),(44,zIY)] = some s → PSound Tryz.prog f s:=zAB (by
  simp only [List.forall_mem_cons]
  exact ⟨zOE,zM0,by simp⟩)
 refine zAS tokW Tryz.call24 Tryz.func24 rfl (fun xs r h => by obtain ⟨n,_,_,_,rfl,_⟩:=h; show 1 ≤ 12; decide) 12 rfl ?_;rintro xs r w0 G0 ⟨n,⟨op1_kind,op1_row,op1_at,op1_n,op1_nodes,op1_slot,op1_old,op1_text⟩,y0,h,rfl,rfl⟩ _;rw [zGu] at h;refine zAa ?_;refine zAb [1,2] [] rfl ?_;show Tri _ _ _ _;refine zAa ?_;refine zAb [] [] rfl ?_;obtain ⟨y2,hy2,h⟩:=zAc h;refine ⟨_,⟨_,_,hy2,rfl,rfl⟩,?_⟩
 show Tri _ _ _ _;refine zAa ?_;refine zAb [] [] rfl ?_;obtain ⟨y3,hy3,h⟩:=zAc h;refine ⟨_,⟨_,_,_,hy3,rfl,rfl⟩,?_⟩
 show Tri _ _ _ _;refine zAa ?_;refine zAb [] [] rfl ?_;show Tri _ _ _ _;refine zAv ?_;have hy:=Option.some.inj h;subst hy;unfold zAO;exact ⟨_,Le.refl _ _,rfl,rfl⟩
end Go.Proofs.YtjdhkpdjecegnaaGreatDoor
namespace Go.Abs
def ownB (β : Nat → Value) (hp : Nat → Option Ob) : Nat → Prop:=fun b => ∃ k ob,hp k = some ob ∧ blk (β k) = some b
def rcx (P : Program) (N m l : Nat) (w : World) (X G : Nat → Prop) (B : Nat → Value) : Cx:={ P:=P,w0:=w,X:=X,G0:=G,N:=N,n0:=m,B0:=B,ro:=some l }
def lcx (P : Program) (N m : Nat) (w : World) (X G : Nat → Prop) (B : Nat → Value) (D : Nat) : Cx:={ P:=P,w0:=w,X:=X,G0:=G,N:=N,n0:=m,B0:=B,ds:=[{ target:=.collected D,args:=#[] }] }
theorem ObAt.turn {c1 c2 : Cx} {G : Nat → Prop} {w w2 : World} {β : Nat → Value} {v : Value} {o : Ob} (hk : Keep G G w w2) (hb : ∀ b,blk v = some b → w2.heap[b]? = w.heap[b]?) (hm : ∀ b,blk v = some b → c2.mine b) (h : ObAt c1 G w β v o) : ObAt c2 G w2 β v o:=by
 cases o with
 | box xs =>
  obtain ⟨b,e,cur,q1,q2,q3,q4,q5,q6⟩:=h;exact ⟨b,e,cur,q1,(hb b (by rw [q1]; rfl)).trans q2,q3,hm b (by rw [q1]; rfl),q5.keep hk,q6⟩
 | row e sz rows =>
  obtain ⟨q1,q2,q3⟩:=h;refine ⟨q1,q2,q3.imp id ?_⟩
  rintro ⟨b,cap,cur,g1,g2,g3,g4,g5,g6,g7⟩
  exact ⟨b,cap,cur,g1,g2,g3,(hb b (by rw [g1]; rfl)).trans g4,g5,hm b (by rw [g1]; rfl),fun i s hi => let ⟨u,hu,hr⟩:=g7 i s hi; ⟨u,hu,hr.keep hk⟩⟩
 | arow e sz rows =>
  obtain ⟨q1,q2,q3⟩:=h;refine ⟨q1,q2,q3.imp id ?_⟩
  rintro ⟨b,cap,cur,g1,g2,g3,g4,g5,g6,g7⟩
  exact ⟨b,cap,cur,g1,g2,g3,(hb b (by rw [g1]; rfl)).trans g4,g5,hm b (by rw [g1]; rfl),fun i s hi => let ⟨u,hu,hr,h1⟩:=g7 i s hi; ⟨u,hu,hr.keep hk,h1⟩⟩
theorem ObAt.cells {c : Cx} {G : Nat → Prop} {w : World} {β : Nat → Value} {v : Value} {o : Ob} (h : ObAt c G w β v o) : ∀ b,blk v = some b → ∃ cur e f,w.heap[b]? = some (.cells cur e f):=fun b hb => by
 cases o with
 | box xs =>
  obtain ⟨b',e,cur,rfl,q2,_⟩:=h;cases hb; exact ⟨_,_,_,q2⟩
 | row e sz rows =>
  obtain ⟨_,_,h | ⟨b',cap,cur,rfl,_,_,q2,_⟩⟩:=h
  ·rw [h.1] at hb; cases hb
  ·cases hb; exact ⟨_,_,_,q2⟩
 | arow e sz rows =>
  obtain ⟨_,_,h | ⟨b',cap,cur,rfl,_,_,q2,_⟩⟩:=h
  ·rw [h.1] at hb; cases hb
  ·cases hb; exact ⟨_,_,_,q2⟩
section
variable {c : Cx} {G : Nat → Prop} {β : Nat → Value} {σ : St} {a : Act} {w : World}
theorem Conc.not_own (hc : Conc c G β σ a w) {l : Nat} {o : Obj} (hl : w.heap[l]? = some o) (ho : o.isCells = false) : ¬ ownB β σ.hp l:=fun ⟨k,ob,h1,h2⟩ => by
 obtain ⟨cur,e,f,h3⟩:=(hc.hp k ob h1).cells l h2;rw [hl] at h3;cases h3;cases ho
theorem Conc.re (hc : Conc c G β σ a w) {c2 : Cx} {w2 : World} {a2 : Act} {env2 : Nat → AV} (hk : ∀ b,G b → w2.heap[b]? = w.heap[b]?) (ho : ∀ b,ownB β σ.hp b → w2.heap[b]? = w.heap[b]?) (hs : w.heap.size ≤ w2.heap.size)
  (hd : a2.defers = c2.ds) (hN : a2.tmps.size = c2.N) (he : ∀ t,AVal G w β (env2 t) (a2.tmps.getD t undef)) (hel : ∀ t,(env2 t).lt σ.nx = true) (hm : ∀ b,ownB β σ.hp b → c2.mine b)
  (hsub : ∀ b,c2.G0 b → G b) (hnew : ∀ b,G b → c2.G0 b ∨ c2.mine b) (hfr : Fr c2.X c2.w0 w2) (hst : c2.n0 ≤ σ.nx ∧ ∀ k,k < c2.n0 → β k = c2.B0 k) : Conc c2 G β ⟨env2,σ.hp,σ.nx⟩ a2 w2:=by
 have hkp : Keep G G w w2:=⟨fun _ h => h,hk⟩
 exact {
  defers:=hd
  size:=hN
  env:=fun t => (he t).keep hkp
  envlt:=hel
  hp:=fun k ob h => (hc.hp k ob h).turn hkp (fun b hb => ho b ⟨k,ob,h,hb⟩) (fun b hb => hm b ⟨k,ob,h,hb⟩)
  hplt:=hc.hplt
  inj:=hc.inj
  lt:=fun b hb => Nat.lt_of_lt_of_le (hc.lt b hb) hs
  sub:=hsub
  new:=hnew
  fr:=hfr
  stay:=hst
  glob:=hc.glob.keep hkp }
theorem Ext.alloc0 (h : ∀ b,G b → b < w.heap.size) (o : Obj) : Ext G G w (w.alloc o) :=
 ⟨rfl,rfl,rfl,by rw [World.size_alloc]; omega,fun b hb => zBB w o hb,fun _ h => h,fun _ h => .inl h,fun b hb => by rw [World.size_alloc]; have:=h b hb; omega⟩
end
structure Grown (A B : World) : Prop where
 os : B.os = A.os
 tape : B.tape = A.tape
 output : B.output = A.output
 size : A.heap.size ≤ B.heap.size
 old : ∀ b,b < A.heap.size → B.heap[b]? = A.heap[b]?
theorem Grown.ext {A B : World} {G : Nat → Prop} (h : Grown A B) (hl : ∀ b,G b → b < A.heap.size) : Ext G G A B:=⟨h.os,h.tape,h.output,h.size,h.old,fun _ h => h,fun _ h => .inl h,fun b hb => Nat.lt_of_lt_of_le (hl b hb) h.size⟩
def zHI (P : Program) (fid sz : Nat) : Prop :=
 ∀ (G : Nat → Prop) (w0 : World) (v : Value) (rows : List (List S)),(∀ b,G b → b < w0.heap.size) → GlobOk G w0 → Rep G w0 (.pt [.sl sz rows]) v → (∀ r ∈ rows,r.length = sz) → rows.length ≤ 4611686018427387904 →
  ∀ (l : Nat) (J : Nat → World → Prop) (W : World),w0.heap.size ≤ W.heap.size → (∀ b,G b → W.heap[b]? = w0.heap[b]?) → (∀ i A B,J i A → Grown A B → J i B) →
   (∀ i j row u W1,i + j + 1 = rows.length → rows[j]? = some row → J i W1 → w0.heap.size ≤ W1.heap.size → (∀ b,G b → W1.heap[b]? = w0.heap[b]?) → (∀ β,AVal G W1 β (.agg (row.map .s)) u) →
    YieldAt Fence.wide 0 P l #[.int .i64 (j : Int),u] W1 fun e W2 => e = .returned (.bool true) ∧ J (i + 1) W2 ∧ w0.heap.size ≤ W2.heap.size ∧ ∀ b,G b → W2.heap[b]? = w0.heap[b]?) →
   J 0 W → CallsIn Fence.wide 1 P fid #[.func (.yield l) #[] #[],v] W fun e W' => (∃ u,e = .returned u) ∧ J rows.length W'
structure Sw (c c2 : Cx) (D : Nat) : Prop where
 fr : Fr c.X c.w0 c2.w0
 mine : ∀ b,c2.X b → c.mine b
 sub : ∀ b,c.G0 b → c2.G0 b
 new : ∀ b,c2.G0 b → c.G0 b ∨ c.mine b
 blk : c2.w0.heap[D]? = some (.deferred (some []))
 nX : ¬ c2.X D
 nG : ¬ c2.G0 D
 ge : c.w0.heap.size ≤ D
def zIP (σ : St) (p1 p2 : Nat) (j : Nat) (row : List S) (e : (Nat → Option Ob) × Nat) : St :=
 ⟨fun t => bif Nat.beq t p2 then .agg (row.map .s) else bif Nat.beq t p1 then .s (.int .i64 (j : Int)) else σ.env t,e.1,e.2⟩
def Rl (w : World) (X : Nat → Prop) (l : Nat) : Prop:=(∃ r,w.heap[l]? = some (.loop r)) ∧ ¬ X l
theorem zGP {tm : Array Value} {p t : Nat} {v : Value} (hp : p < tm.size) : (tm.setIfInBounds p v).getD t undef = if t = p then v else tm.getD t undef:=by
 rw [Array.getD_eq_getD_getElem?,Array.getD_eq_getD_getElem?]
 by_cases h : t = p
 ·subst h;rw [if_pos rfl,Array.getElem?_setIfInBounds_self_of_lt hp]
  rfl
 ·rw [if_neg h,Array.getElem?_setIfInBounds_ne (Ne.symm h)]
theorem zip2 {α β : Type} (a b : α) (x y : β) : #[a,b].zip #[x,y] = #[(a,x),(b,y)]:=by
 apply Array.ext'
 simp [Array.toList_zip]
theorem nbeq {a b : Nat} (h : a ≠ b) : Nat.beq a b = false:=by
 cases e : Nat.beq a b with
 | false => rfl
 | true => exact absurd (Nat.eq_of_beq_eq_true e) h
theorem zMS {n : Nat} : ∀ (row : List S),AV.ltAll n (row.map .s) = true
 | [] => rfl
 | s :: r => by simp only [List.map_cons,AV.ltAll,Bool.and_eq_true]; exact ⟨rfl,zMS r⟩
theorem zTS {c : Cx} {G : Nat → Prop} {β : Nat → Value} {σ : St} {a : Act} {w : World} (hc : Conc c G β σ a w) (hro : c.ro = none) (hds : c.ds = []) {tg p1 p2 fid sz : Nat} {rows : List (List S)} {assign body : Code}
  (hit : zHI c.P fid sz) (hcall : ∀ args w,(callFunc fid args).run c.P w = .ok (.enter fid args) w) (he : σ.env tg = .clo fid [.s (.pt [.sl sz rows])]) (hrl : ∀ r ∈ rows,r.length = sz) (hlen : rows.length ≤ 4611686018427387904)
  (E : Nat → (Nat → Option Ob) × Nat) (hE : E 0 = (σ.hp,σ.nx)) (m : Nat) (hm : ∀ t,(σ.env t).lt m = true) (hm0 : c.n0 ≤ m) (hmE : ∀ i,m ≤ (E i).2) (hp1 : p1 < c.N) (hp2 : p2 < c.N)
  (hround : ∀ i j row,i + j + 1 = rows.length → rows[j]? = some row → ∀ l w X G B,Rl w X l → Tri (rcx c.P c.N m l w X G B) assign (zIP σ p1 p2 j row (E i)) (fun e σ1 => e = .normal ∧ ∀ w X G B,Rl w X l →
   Tri (rcx c.P c.N m l w X G B) body σ1 (fun e σ2 => e = .normal ∧ ∃ σ3,Le (rcx c.P c.N m l w X G B) σ2 σ3 ∧ σ3.hp = (E (i + 1)).1 ∧ σ3.nx = (E (i + 1)).2)))
  {Φ : Exit → Act → World → Prop} (hdone : ∀ D w2 X G2 G' β' a2,Sw c (lcx c.P c.N c.n0 w2 X G2 c.B0 D) D → Conc (lcx c.P c.N c.n0 w2 X G2 c.B0 D) G' β' ⟨σ.env,(E rows.length).1,(E rows.length).2⟩ a2 w2 → Φ .normal a2 w2) :
  (Code.rangeFunc (.tmp tg) #[p1,p2] assign body).wpIn (rF none) 2 c.P Φ a w:=by
 have hg:=hc.env tg;rw [he] at hg;simp only [AVal,AVals] at hg;obtain ⟨vs,hg,v,vs',rfl,hv,rfl⟩:=hg;have hg : a.eval (.tmp tg) = .func (.func fid) #[] #[v]:=hg;have hiter:=hit G w v rows hc.lt hc.glob hv hrl hlen;refine wpIn_rangeFunc fun fn _ => ?_
 obtain ⟨rec,hrec⟩ : ∃ rec : LoopState → Loop,rec = fun st => { state:=st,pending:=none,fn:=fn,tmps:=a.tmps,params:=#[p1,p2],assign:=assign,body:=body,defers:=w.heap.size }:=⟨_,rfl⟩
 obtain ⟨l,hl0⟩ : ∃ l,l = w.heap.size + 1:=⟨_,rfl⟩
 obtain ⟨D,hD0⟩ : ∃ D,D = w.heap.size:=⟨_,rfl⟩
 obtain ⟨W1,hW1⟩ : ∃ W1,(w.alloc (.deferred (some []))).alloc (.loop (rec .ready)) = W1:=⟨_,rfl⟩
 have hL1 : W1.heap[l]? = some (.loop (rec .ready)):=by
  have:=World.alloc_heap_new (w.alloc (.deferred (some []))) (.loop (rec .ready))
  rw [World.size_alloc] at this;rw [← hW1,hl0]; exact this
 have hDD : W1.heap[D]? = some (.deferred (some [])):=by
  have:=zBB (w.alloc (.deferred (some []))) (.loop (rec .ready)) (b:=w.heap.size) (by rw [World.size_alloc]; omega)
  rw [← hW1,hD0,this]
  exact World.alloc_heap_new w _
 have hc1 : Conc c G β σ a W1:=by
  rw [← hW1]
  have h1:=hc.ext (Ext.alloc0 hc.lt (.deferred (some [])))
  exact h1.ext (Ext.alloc0 h1.lt (.loop (rec .ready)))
 have hlD : l ≠ D :=(by omega);have hcl : c.w0.heap.size ≤ D :=(by rw [hD0]; exact hc.fr.size);refine ⟨l,[{ target:=.collected D,args:=#[] }],W1,{ target:=.fn (.func fid) #[v],args:=#[.func (.yield l) #[] #[]] },W1,fid,#[.func (.yield l) #[] #[]] ++ #[v],W1,?_,?_,?_,?_,fun h => (by cases h),?_⟩
 ·rw [← hW1,hrec,hl0,hD0]; exact run_enterLoop_outer _ _ _ _ _
 ·simp only [resolve,hg]
  simp [go_sem]
 ·intro f' hf'; trivial
 ·simp [invoke,go_sem,hcall]
 have key:=hiter l (fun i W => W.heap[l]? = some (.loop (rec .ready)) ∧ W.heap[D]? = some (.deferred (some [])) ∧ ∃ G' β',Conc c G' β' ⟨σ.env,(E i).1,(E i).2⟩ a W ∧ (∀ b,G b → G' b) ∧ ¬ G' l ∧ ¬ G' D) W1 (by rw [← hW1,World.size_alloc,World.size_alloc]; omega)
  (fun b hb => by
   have hb':=hc.lt b hb;rw [← hW1,zBB _ _ (by rw [World.size_alloc]; omega),zBB _ _ hb'])
  (fun i A B ⟨h1,h2,G',β',h3,h4⟩ hg => ⟨(hg.old l (Array.getElem?_eq_some_iff.1 h1).1).trans h1,(hg.old D (Array.getElem?_eq_some_iff.1 h2).1).trans h2,G',β',h3.ext (hg.ext h3.lt),h4⟩)
  ?_ ⟨hL1,hDD,G,β,by rw [hE]; exact hc1,fun _ h => h,fun h => by have:=hc.lt _ h; omega,fun h => by have:=hc.lt _ h; omega⟩
 ·refine key.mono ?_;rintro e W3 ⟨⟨u,rfl⟩,h1,h2,G3,β3,hc3,hG3,hnl,hnD⟩
  have hend:=run_endLoop (P:=c.P) h1 (by rw [hrec]; simp)
  rw [hrec] at hend;refine ⟨none,_,hend,?_⟩
  dsimp only;have hnol : ¬ ownB β3 (E rows.length).1 l:=hc3.not_own h1 rfl;have hnoD : ¬ ownB β3 (E rows.length).1 D:=hc3.not_own h2 rfl;have hl3 : l < W3.heap.size:=(Array.getElem?_eq_some_iff.1 h1).1;generalize hW4 : W3.putObj l _ = W4;have hoth : ∀ b,b ≠ l → W4.heap[b]? = W3.heap[b]?:=fun b hb => by rw [← hW4]; exact World.putObj_heap_other hb
  have hsz : W4.heap.size = W3.heap.size :=(by rw [← hW4]; exact World.putObj_size);have hfr4 : Fr c.X c.w0 W4:=⟨by rw [← hW4]; exact hc3.fr.os,by rw [← hW4]; exact hc3.fr.tape,by rw [← hW4]; exact hc3.fr.output,by rw [hsz]; exact hc3.fr.size,fun b hb hx => (hoth b (by omega)).trans (hc3.fr.old b hb hx)⟩
  refine hdone D W4 (ownB β3 (E rows.length).1) G3 G3 β3 _ ⟨hfr4,fun b ⟨k,ob,q1,q2⟩ => (row_block (hc3.hp k ob q1) b q2).2,hc3.sub,hc3.new,(hoth D (Ne.symm hlD)).trans h2,hnoD,hnD,hcl⟩ ?_;exact hc3.re (c2:=lcx c.P c.N c.n0 W4 (ownB β3 (E rows.length).1) G3 c.B0 D) (fun b hb => hoth b fun h => hnl (h ▸ hb)) (fun b hb => hoth b fun h => hnol (h ▸ hb)) (by rw [hsz]; exact Nat.le_refl _)
   (by show _ :: a.defers = _; rw [hc.defers,hds]; rfl) hc.size hc3.env hc3.envlt (fun b hb => .inl hb) (fun b hb => hb) (fun b hb => .inl hb) (Fr.refl _ _) hc3.stay
 ·rintro i j row u W hiN hrow ⟨h1,h2,G',β',hcW,hGG,hnl,hnD⟩ hszW hGk hval;have hy:=run_yield (P:=c.P) (args:=#[.int .i64 (j : Int),u]) h1 (by rw [hrec]; rfl)
  rw [hrec] at hy;have hnol : ¬ ownB β' (E i).1 l:=hcW.not_own h1 rfl;have hnoD : ¬ ownB β' (E i).1 D:=hcW.not_own h2 rfl;have hlW : l < W.heap.size:=(Array.getElem?_eq_some_iff.1 h1).1;have hDW : D < W.heap.size:=(Array.getElem?_eq_some_iff.1 h2).1;have hkW : Keep G G' w W:=⟨hGG,fun b hb => (hGk b hb)⟩
  have htm : ((#[p1,p2].zip #[Value.int .i64 (j : Int),u]).foldl (fun tmps (x : Nat × Value) => tmps.setIfInBounds x.1 x.2) a.tmps) = (a.tmps.setIfInBounds p1 (.int .i64 (j : Int))).setIfInBounds p2 (u) :=(by rw [zip2]; rfl);have hy : (Instr.yield l #[.int .i64 (j : Int),u]).run c.P W = .ok (.round l fn ((a.tmps.setIfInBounds p1 (.int .i64 (j : Int))).setIfInBounds p2 (u)) assign body) W :=(by rw [← htm]; exact hy);refine ⟨fn,_,assign,body,hy,roundIn_of_wpIn trivial ?_⟩
  have hs1 : p1 < a.tmps.size :=(by rw [hcW.size]; exact hp1);have hs2 : p2 < (a.tmps.setIfInBounds p1 (.int .i64 (j : Int))).size :=(by rw [Array.size_setIfInBounds,hcW.size]; exact hp2);have hA : Conc (rcx c.P c.N m l W (ownB β' (E i).1) G' β') G' β' (zIP σ p1 p2 j row (E i)) { tmps:=(a.tmps.setIfInBounds p1 (.int .i64 (j : Int))).setIfInBounds p2 (u),defers:=[] } W:=by
   refine hcW.re (c2:=rcx c.P c.N m l W (ownB β' (E i).1) G' β') (fun _ _ => rfl) (fun _ _ => rfl) (Nat.le_refl _) rfl (by show _ = c.N; rw [Array.size_setIfInBounds,Array.size_setIfInBounds]; exact hcW.size) (fun t => ?_) (fun t => ?_) (fun b hb => .inl hb) (fun _ h => h) (fun _ h => .inl h) (Fr.refl _ _) ⟨hmE i,fun _ _ => rfl⟩
   ·dsimp only;rw [zGP hs2,zGP hs1]
    by_cases e2 : t = p2
    ·subst e2;rw [if_pos rfl,Nat.beq_refl,cond_true]
     exact (hval β').keep ⟨hGG,fun _ _ => rfl⟩
    ·rw [if_neg e2,nbeq e2,cond_false]
     by_cases e1 : t = p1
     ·subst e1;rw [if_pos rfl,Nat.beq_refl,cond_true]
      simp [AVal,Rep]
     ·rw [if_neg e1,nbeq e1,cond_false]
      exact hcW.env t
   ·dsimp only
    by_cases e2 : t = p2
    ·subst e2; rw [Nat.beq_refl,cond_true]; simp only [AV.lt]; exact zMS row
    ·rw [nbeq e2,cond_false]
     by_cases e1 : t = p1
     ·subst e1; rw [Nat.beq_refl,cond_true]; rfl
     ·rw [nbeq e1,cond_false]; exact hcW.envlt t
  have hTri:=hround i j row hiN hrow l W (ownB β' (E i).1) G' β' ⟨⟨_,h1⟩,hnol⟩
  unfold Tri at hTri;refine wpIn_mono (zQT (m:=0) (hTri _ _ _ _ hA)) ?_;rintro e a1 Wb ⟨e',G2,β2,σ1,rfl,⟨rfl,hbody⟩,hB⟩
  have bl : Wb.heap[l]? = W.heap[l]?:=hB.fr.old l hlW hnol;have bD : Wb.heap[D]? = W.heap[D]?:=hB.fr.old D hDW hnoD;have hlb : l < Wb.heap.size:=Nat.lt_of_lt_of_le hlW hB.fr.size;have hn2l : ¬ G2 l:=fun h => (hB.new l h).elim hnl (fun h => h.elim hnol (fun h => by have : W.heap.size ≤ l:=h; omega))
  have hn2D : ¬ G2 D:=fun h => (hB.new D h).elim hnD (fun h => h.elim hnoD (fun h => by have : W.heap.size ≤ D:=h; omega))
  refine ⟨_,run_beginRound (bl.trans h1) (by rw [hrec]),?_⟩
  generalize hW2 : Wb.putObj l _ = W2;have oth2 : ∀ b,b ≠ l → W2.heap[b]? = Wb.heap[b]?:=fun b hb => by rw [← hW2]; exact World.putObj_heap_other hb
  have sz2 : W2.heap.size = Wb.heap.size :=(by rw [← hW2]; exact World.putObj_size);have l2 : W2.heap[l]? = some (.loop { rec .ready with state:=.busy }) :=(by rw [← hW2]; exact World.putObj_heap_same hlb);have hno1l : ¬ ownB β2 σ1.hp l:=hB.not_own (bl.trans h1) rfl;have hno1D : ¬ ownB β2 σ1.hp D:=hB.not_own (bD.trans h2) rfl;have hB2 : Conc (rcx c.P c.N m l W2 (ownB β2 σ1.hp) G2 β') G2 β2 σ1 a1 W2 :=
   hB.re (c2:=rcx c.P c.N m l W2 (ownB β2 σ1.hp) G2 β') (fun b hb => oth2 b fun h => hn2l (h ▸ hb)) (fun b hb => oth2 b fun h => hno1l (h ▸ hb)) (by rw [sz2]; exact Nat.le_refl _) hB.defers hB.size hB.env hB.envlt (fun b hb => .inl hb) (fun _ h => h) (fun _ h => .inl h) (Fr.refl _ _) hB.stay
  have hTri2:=hbody W2 (ownB β2 σ1.hp) G2 β' ⟨⟨_,l2⟩,hno1l⟩
  unfold Tri at hTri2;refine wpIn_mono (zQT (m:=0) (hTri2 _ _ _ _ hB2)) ?_;rintro e a2 Wc ⟨e',G3,β3,σ2,rfl,⟨rfl,σ3,hle,hhp,hnx⟩,hC0⟩
  unfold Le at hle;obtain ⟨G4,β4,hC⟩:=hle _ _ _ _ hC0;have hl2 : l < W2.heap.size :=(by omega);have hD2 : D < W2.heap.size :=(by have:=hB.fr.size; simp only [rcx] at this; omega);have cl : Wc.heap[l]? = W2.heap[l]?:=hC.fr.old l hl2 hno1l;have cD : Wc.heap[D]? = W2.heap[D]?:=hC.fr.old D hD2 hno1D;have hlc : l < Wc.heap.size:=Nat.lt_of_lt_of_le hl2 hC.fr.size;have hend:=run_endRound (P:=c.P) none (cl.trans l2)
  refine ⟨_,_,hend,rfl,?_⟩
  generalize hW5 : Wc.putObj l _ = W5;have oth5 : ∀ b,b ≠ l → W5.heap[b]? = Wc.heap[b]?:=fun b hb => by rw [← hW5]; exact World.putObj_heap_other hb
  have sz5 : W5.heap.size = Wc.heap.size :=(by rw [← hW5]; exact World.putObj_size);have l5 : W5.heap[l]? = some (.loop (rec .ready)) :=(by rw [← hW5,World.putObj_heap_same hlc,hrec]; rfl);have hnol3 : ¬ ownB β4 σ3.hp l:=hC.not_own (cl.trans l2) rfl;have hn4l : ¬ G4 l:=fun h => (hC.new l h).elim hn2l (fun h => h.elim hno1l (fun h => by have : W2.heap.size ≤ l:=h; omega))
  have hn4D : ¬ G4 D:=fun h => (hC.new D h).elim hn2D (fun h => h.elim hno1D (fun h => by have : W2.heap.size ≤ D:=h; omega))
  have hsub4 : ∀ b,G' b → G4 b:=fun b h => hC.sub b (hB.sub b h)
  have hgl : ∀ b,G' b → b ≠ l:=fun b h e => hnl (e ▸ h)
  have hkeep : ∀ b,G' b → Wc.heap[b]? = W.heap[b]?:=fun b h => by
   have hno : ¬ ownB β' (E i).1 b:=fun ⟨k,ob,q1,q2⟩ => (row_block (hcW.hp k ob q1) b q2).1 h
   have hno2 : ¬ ownB β2 σ1.hp b:=fun ⟨k,ob,q1,q2⟩ => (row_block (hB.hp k ob q1) b q2).1 (hB.sub b h)
   have hb1:=hcW.lt b h;have hb2 : b < W2.heap.size :=(by have:=hB.lt b (hB.sub b h); omega);exact (hC.fr.old b hb2 hno2).trans ((oth2 b (hgl b h)).trans (hB.fr.old b hb1 hno))
  have hbeta : ∀ k,k < m → β4 k = β' k:=fun k hk => hC.stay.2 k hk
  have hnxle : m ≤ σ3.nx:=hC.stay.1;have hmine1 : ∀ b,ownB β2 σ1.hp b → c.mine b:=fun b ⟨k,ob,q1,q2⟩ => by
   rcases (row_block (hB.hp k ob q1) b q2).2 with ⟨k',ob',r1,r2⟩ | h
   ·exact (row_block (hcW.hp k' ob' r1) b r2).2
   ·exact .inr (Nat.le_trans hcW.fr.size h)
  have hmine3 : ∀ b,ownB β4 σ3.hp b → c.mine b:=fun b ⟨k,ob,q1,q2⟩ => by
   rcases (row_block (hC.hp k ob q1) b q2).2 with h | h
   ·exact hmine1 b h
   ·have h : W2.heap.size ≤ b:=h;have:=hB.fr.size;simp only [rcx] at this;exact .inr (by have:=hcW.fr.size; omega)
  have hfr5 : Fr c.X c.w0 W5:=by
   refine ⟨?_,?_,?_,?_,fun b hb hx => ?_⟩
   ·rw [← hW5]; show Wc.os = _; rw [hC.fr.os]; show W2.os = _; rw [← hW2]; show Wb.os = _; rw [hB.fr.os]; exact hcW.fr.os
   ·rw [← hW5]; show Wc.tape = _; rw [hC.fr.tape]; show W2.tape = _; rw [← hW2]; show Wb.tape = _; rw [hB.fr.tape]; exact hcW.fr.tape
   ·rw [← hW5]; show Wc.output = _; rw [hC.fr.output]; show W2.output = _; rw [← hW2]; show Wb.output = _; rw [hB.fr.output]; exact hcW.fr.output
   ·have h1:=hC.fr.size;have h2:=hB.fr.size;have h3:=hcW.fr.size;simp only [rcx] at h1 h2
    omega
   ·have hno : ¬ ownB β' (E i).1 b:=fun ⟨k,ob,q1,q2⟩ => (row_block (hcW.hp k ob q1) b q2).2.elim hx (fun h => by omega)
    have hno2 : ¬ ownB β2 σ1.hp b:=fun h => (hmine1 b h).elim hx (fun h => by omega)
    have hb1 : b < W.heap.size :=(by have:=hcW.fr.size; omega);have hb2 : b < W2.heap.size :=(by have:=hB.fr.size; simp only [rcx] at this; omega);have hbl : b ≠ l :=(by omega);exact (oth5 b hbl).trans ((hC.fr.old b hb2 hno2).trans ((oth2 b hbl).trans ((hB.fr.old b hb1 hno).trans (hcW.fr.old b hb hx))))
  refine ⟨⟨l5,(oth5 D (Ne.symm hlD)).trans (cD.trans ((oth2 D (Ne.symm hlD)).trans (bD.trans h2))),G4,β4,?_,fun b h => hsub4 b (hGG b h),hn4l,hn4D⟩,by have h1:=hC.fr.size; have h2:=hB.fr.size; simp only [rcx] at h1 h2; omega,fun b hb => (oth5 b (hgl b (hGG b hb))).trans ((hkeep b (hGG b hb)).trans (hGk b hb))⟩
  rw [← hhp,← hnx]
  refine hC.re (c2:=c) (fun b hb => oth5 b fun h => hn4l (h ▸ hb)) (fun b hb => oth5 b fun h => hnol3 (h ▸ hb)) (by rw [sz5]; exact Nat.le_refl _) hc.defers hc.size (fun t => ((hcW.env t).keep ⟨hsub4,hkeep⟩).beta hbeta (hm t)) (fun t => AV.lt_mono hnxle (hm t)) hmine3
   (fun b hb => hsub4 b (hcW.sub b hb)) (fun b hb => ?_) hfr5 ⟨Nat.le_trans hm0 hnxle,fun k hk => (hbeta k (Nat.lt_of_lt_of_le hk hm0)).trans (hcW.stay.2 k hk)⟩
  rcases hC.new b hb with h | h
  ·rcases hB.new b h with h | h
   ·exact hcW.new b h
   ·rcases h with ⟨k',ob',r1,r2⟩ | h
    ·exact .inr (row_block (hcW.hp k' ob' r1) b r2).2
    ·exact .inr (.inr (Nat.le_trans hcW.fr.size h))
  ·rcases h with h | h
   ·exact .inr (hmine1 b h)
   ·have h : W2.heap.size ≤ b:=h;have h2:=hB.fr.size;have h3:=hcW.fr.size;simp only [rcx] at h2;exact .inr (.inr (by omega))
end Go.Abs
namespace Go.Abs
def TriX (c : Cx) (code : Code) (σ : St) (Φ : Exit → Act → World → Prop) : Prop:=∀ G β a w,Conc c G β σ a w → code.wpIn (rF none) 2 c.P Φ a w
section
variable {c : Cx} {σ : St} {Φ : Exit → Act → World → Prop}
theorem zRy {x : Code} {id : Nat} (h : TriX c x σ (Exit.inBlock id Φ)) : TriX c (.block id x) σ Φ:=fun G β a w hc => wpIn_block (h G β a w hc)
theorem zNx {x y : Code} (hro : c.ro = none) (h : Tri c x σ (fun e σ' => e = .normal ∧ TriX c y σ' Φ)) : TriX c (.seq x y) σ Φ:=fun G β a w hc => by
 unfold Tri at h;rw [hro] at h;refine wpIn_seq (wpIn_mono (h G β a w hc) ?_)
 rintro e a' w' ⟨e',G',β',σ',rfl,⟨rfl,hq⟩,hc'⟩
 exact hq G' β' a' w' hc'
theorem zRz (hro : c.ro = none) (hds : c.ds = []) {tg p1 p2 fid sz : Nat} {rows : List (List S)} {assign body : Code}
  (hit : zHI c.P fid sz) (hcall : ∀ args w,(callFunc fid args).run c.P w = .ok (.enter fid args) w) (he : σ.env tg = .clo fid [.s (.pt [.sl sz rows])]) (hrl : ∀ r ∈ rows,r.length = sz) (hlen : rows.length ≤ 4611686018427387904)
  (E : Nat → (Nat → Option Ob) × Nat) (hE : E 0 = (σ.hp,σ.nx)) (m : Nat) (hm : ∀ t,(σ.env t).lt m = true) (hm0 : c.n0 ≤ m) (hmE : ∀ i,m ≤ (E i).2) (hp1 : p1 < c.N) (hp2 : p2 < c.N)
  (hround : ∀ i j row,i + j + 1 = rows.length → rows[j]? = some row → ∀ l w X G B,Rl w X l → Tri (rcx c.P c.N m l w X G B) assign (zIP σ p1 p2 j row (E i)) (fun e σ1 => e = .normal ∧ ∀ w X G B,Rl w X l →
   Tri (rcx c.P c.N m l w X G B) body σ1 (fun e σ2 => e = .normal ∧ ∃ σ3,Le (rcx c.P c.N m l w X G B) σ2 σ3 ∧ σ3.hp = (E (i + 1)).1 ∧ σ3.nx = (E (i + 1)).2)))
  (hdone : ∀ D w2 X G2 G' β' a2,Sw c (lcx c.P c.N c.n0 w2 X G2 c.B0 D) D → Conc (lcx c.P c.N c.n0 w2 X G2 c.B0 D) G' β' ⟨σ.env,(E rows.length).1,(E rows.length).2⟩ a2 w2 → Φ .normal a2 w2) :
  TriX c (.rangeFunc (.tmp tg) #[p1,p2] assign body) σ Φ:=fun G β a w hc => zTS hc hro hds hit hcall he hrl hlen E hE m hm hm0 hmE hp1 hp2 hround hdone
end
theorem zKM {a : Act} {d : Option Nat} {v : Value} {t : Nat} (h : d ≠ some t) : (a.put d v).tmps.getD t undef = a.tmps.getD t undef:=by
 cases d with
 | none => rfl
 | some d =>
  have hdt : d ≠ t:=fun e => h (by rw [e])
  simp only [Act.put,Array.getD_eq_getD_getElem?]
  rw [Array.getElem?_setIfInBounds_ne hdt]
theorem zUS {P : Program} {W : World} {G : Nat → Prop} {β : Nat → Value} {N : Nat} {a : Act} {env : Nat → AV} (hd : a.defers = []) (hs : a.tmps.size = N) (hl : ∀ b,G b → b < W.heap.size) (hg : GlobOk G W) (he : ∀ t,AVal G W β (env t) (a.tmps.getD t undef)) (hlt : ∀ t,(env t).lt 0 = true) :
  Conc (zFf P W G N) G β ⟨env,fun _ => none,0⟩ a W:={
 defers:=hd
 size:=hs
 env:=he
 envlt:=hlt
 hp:=fun k ob hk => by cases hk
 hplt:=fun k ob hk => by cases hk
 inj:=fun k k' ob ob' hk => by cases hk
 lt:=hl
 sub:=fun b hb => hb
 new:=fun b hb => .inl hb
 fr:=Fr.refl _ _
 stay:=⟨Nat.le_refl _,fun k hk => by cases hk⟩
 glob:=hg }
def evP (T : Nat → Option TI) (N : Nat) (ts : List Nat) : List Oper → St → (St → Prop) → Prop
 | [],σ,K => K σ
 | o :: os,σ,K =>
  match o.dst,o.guard,zMU o && zMV o with
  | some d,none,true => match Nat.blt d N && zOC d ts with
   | true => match zB8 T false o σ.env with
    | some (φ,x) => andO φ (evP T N ts os (σ.put (some d) x) K)
    | none => False
   | false => False
  | _,_,_ => False
theorem zKl {P : Program} {W0 : World} {G0 : Nat → Prop} {T : Nat → Option TI} (hT : TOk P T) {N n : Nat} {ops rest : List Oper} {K : St → Prop} {Q : Exit → Act → World → Prop} {ts : List Nat} {v0 : Nat → Value}
  (hr : ∀ σ G β a w,K σ → Conc (zFf P W0 G0 N) G β σ a w → w.heap.size = W0.heap.size → (∀ t ∈ ts,a.tmps.getD t undef = v0 t) → wpListIn Fence.wide n P ops.toArray Q rest a w) :
  ∀ (l : List Oper) (σ : St) (G : Nat → Prop) (β : Nat → Value) (a : Act) (w : World),evP T N ts l σ K → Conc (zFf P W0 G0 N) G β σ a w → w.heap.size = W0.heap.size → (∀ t ∈ ts,a.tmps.getD t undef = v0 t) → wpListIn Fence.wide n P ops.toArray Q (l ++ rest) a w
 | [],σ,G,β,a,w,h,hc,hs,ht => hr σ G β a w h hc hs ht
 | o :: os,σ,G,β,a,w,h,hc,hs,ht => by
  unfold evP at h;split at h
  ·rename_i d hd hg hnn
   simp only [Bool.and_eq_true] at hnn;split at h
   ·rename_i hdN
    simp only [Bool.and_eq_true] at hdN;have hdN1 : d < N:=Nat.le_of_ble_eq_true hdN.1;have hdts:=zE0 hdN.2;split at h
    ·rename_i φ x hp
     obtain ⟨hφ,h⟩:=zJN h;rw [List.cons_append]
     unfold wpListIn;rw [if_pos (by simp [Region.wanted,hg])]
     refine zTw (ro:=none) (K:=fun a' w' => wpListIn Fence.wide n P ops.toArray Q (os ++ rest) a' w') (fun c e => ?_) (fun _ _ h => h) ?_
     ·have:=hnn.2;unfold zMV at this;rw [e] at this;cases this
     ·refine zSy (c:=zFf P W0 G0 N) hT hc hp hφ fun G' w' v he hna hv => ?_
      have hww:=hna hnn.1;subst hww;rw [hd]
      have hput:=(hc.ext he).put (d:=some d) (fun t e => by cases e; exact hdN1) hv (zQE hc.envlt hp)
      refine zKl hT hr os _ G' β _ _ h hput hs fun t htt => ?_
      rw [zKM (fun e => hdts (by cases e; exact htt))]
      exact ht t htt
    ·exact h.elim
   ·exact h.elim
  ·exact h.elim
theorem zQn {P : Program} {W0 : World} {G0 : Nat → Prop} {T : Nat → Option TI} (hT : TOk P T) {N n : Nat} {ops l : List Oper} (m : Nat) {K : St → Prop} {Q : Exit → Act → World → Prop} (ts : List Nat) {σ : St} {G : Nat → Prop} {β : Nat → Value} {a : Act} {w : World}
  (h : evP T N ts (l.take m) σ K) (hc : Conc (zFf P W0 G0 N) G β σ a w) (hs : w.heap.size = W0.heap.size)
  (hr : ∀ σ G β a' w,K σ → Conc (zFf P W0 G0 N) G β σ a' w → w.heap.size = W0.heap.size → (∀ t ∈ ts,a'.tmps.getD t undef = a.tmps.getD t undef) → wpListIn Fence.wide n P ops.toArray Q (l.drop m) a' w) : wpListIn Fence.wide n P ops.toArray Q l a w:=by
 have:=zKl (v0:=fun t => a.tmps.getD t undef) hT hr (l.take m) σ G β a w h hc hs (fun _ _ => rfl)
 rwa [List.take_append_drop] at this
theorem zML {P : Program} {W0 : World} {G0 : Nat → Prop} {T : Nat → Option TI} (hT : TOk P T) {N n : Nat} {ops l : List Oper} {K : St → Prop} {Q : Exit → Act → World → Prop} (ts : List Nat) {σ : St} {G : Nat → Prop} {β : Nat → Value} {a : Act} {w : World}
  (h : evP T N ts l σ K) (hc : Conc (zFf P W0 G0 N) G β σ a w) (hs : w.heap.size = W0.heap.size)
  (hr : ∀ σ G β a' w,K σ → Conc (zFf P W0 G0 N) G β σ a' w → w.heap.size = W0.heap.size → (∀ t ∈ ts,a'.tmps.getD t undef = a.tmps.getD t undef) → Q .normal a' w) : wpListIn Fence.wide n P ops.toArray Q l a w:=by
 have:=zKl (rest:=[]) (v0:=fun t => a.tmps.getD t undef) (ops:=ops) (n:=n) (Q:=Q) hT hr l σ G β a w h hc hs (fun _ _ => rfl)
 rwa [List.append_nil] at this
theorem zSp {G : Nat → Prop} {w : World} {β : Nat → Value} {a : Act} : ∀ {L : List (Nat × AV)},(∀ p ∈ L,AVal G w β p.2 (a.tmps.getD p.1 undef)) → ∀ t,AVal G w β (ofL L t) (a.tmps.getD t undef)
 | [],_,t => by simp only [ofL,AVal]
 | (s,x) :: r,h,t => by
  simp only [ofL]
  cases e : Nat.beq t s with
  | true => obtain rfl:=Nat.eq_of_beq_eq_true e; exact h _ List.mem_cons_self
  | false => exact zSp (fun p hp => h p (List.mem_cons_of_mem _ hp)) t
theorem zQ4 {P : Program} {W : World} {G : Nat → Prop} {N : Nat} {a : Act} (L : List (Nat × AV)) (hd : a.defers = []) (hs : a.tmps.size = N) (hl : ∀ b,G b → b < W.heap.size) (hg : GlobOk G W) (hL : ltL 0 L = true) (he : ∀ p ∈ L,AVal G W (fun _ => .tuple #[]) p.2 (a.tmps.getD p.1 undef)) :
  Conc (zFf P W G N) G (fun _ => .tuple #[]) ⟨ofL L,fun _ => none,0⟩ a W:=zUS hd hs hl hg (zSp he) (zIa hL)
theorem zJx {n : Nat} {P : Program} {ops : Array Oper} {Q : Exit → Act → World → Prop} {o : Oper} {rest : List Oper} {a : Act} {w : World} (hg : o.guard = none) (h : o.wpIn Fence.wide n P a w (wpListIn Fence.wide n P ops Q rest) Q) : wpListIn Fence.wide n P ops Q (o :: rest) a w:=by
 unfold wpListIn;rw [if_pos (by simp [Region.wanted,hg])]
 exact h
theorem zTT {P : Program} {o : Oper} {f x y : Operand} {ts : Array TypeId} {l : Nat} {a : Act} {w : World} {K : Act → World → Prop} {Q : Exit → Act → World → Prop} {R : Ending → World → Prop} {u : Value} (ho : o.op = .call { callee:=.value f,args:=#[x,y],argTypes:=ts })
  (hf : a.eval f = .func (.yield l) #[] #[]) (hY : YieldAt Fence.wide 0 P l #[a.eval x,a.eval y] w R) (hR : ∀ e w',R e w' → e = .returned u ∧ K (a.put o.dst u) w') : o.wpIn Fence.wide 1 P a w K Q:=by
 obtain ⟨fn,tmps,assign,body,hy,hr⟩:=hY;refine ⟨fun _ _ => trivial,?_⟩
 rw [Oper.semAt_eq _ _ _ (by rw [ho]; intro c e; cases e)]
 have : (execOp a.eval o).run P w = .ok (.round l fn tmps assign body) w:=by
  simp [execOp,ho,resolve,hf,Deferred.ofValue,invoke,hy]
 rw [this]
 refine ⟨fun h => (by cases h),hr.mono fun e w' he => ?_⟩
 obtain ⟨rfl,h⟩:=hR e w' he;exact h
theorem Conc.back {P : Program} {W : World} {G G' : Nat → Prop} {N : Nat} {β : Nat → Value} {σ : St} {a : Act} {w : World} (hc : Conc (zFf P W G N) G' β σ a w) (hs : w.heap.size = W.heap.size) : (∀ b,G' b → G b) ∧ ∀ b,b < W.heap.size → w.heap[b]? = W.heap[b]? :=
 ⟨fun b hb => (hc.new b hb).elim id (fun h => h.elim False.elim (fun h => by have:=hc.lt b hb; have h : W.heap.size ≤ b:=h; omega)),fun b hb => hc.fr.old b hb (fun h => h)⟩
end Go.Abs
namespace Go.Abs
theorem zS3 {c : Cx} {G : Nat → Prop} {β : Nat → Value} {σ : St} {a : Act} {w : World} (hc : Conc c G β σ a w) {l0 : Nat} (hro : c.ro = some l0) (hl0 : ∃ r,w.heap[l0]? = some (.loop r)) {tg p1 p2 fid sz : Nat} {rows : List (List S)} {assign body : Code}
  (hit : zHI c.P fid sz) (hcall : ∀ args w,(callFunc fid args).run c.P w = .ok (.enter fid args) w) (he : σ.env tg = .clo fid [.s (.pt [.sl sz rows])]) (hrl : ∀ r ∈ rows,r.length = sz) (hlen : rows.length ≤ 4611686018427387904)
  (E : Nat → (Nat → Option Ob) × Nat) (hE : E 0 = (σ.hp,σ.nx)) (m : Nat) (hm : ∀ t,(σ.env t).lt m = true) (hm0 : c.n0 ≤ m) (hmE : ∀ i,m ≤ (E i).2) (hp1 : p1 < c.N) (hp2 : p2 < c.N)
  (hround : ∀ i j row,i + j + 1 = rows.length → rows[j]? = some row → ∀ l w X G B,Rl w X l → Tri (rcx c.P c.N m l w X G B) assign (zIP σ p1 p2 j row (E i)) (fun e σ1 => e = .normal ∧ ∀ w X G B,Rl w X l →
   Tri (rcx c.P c.N m l w X G B) body σ1 (fun e σ2 => e = .normal ∧ ∃ σ3,Le (rcx c.P c.N m l w X G B) σ2 σ3 ∧ σ3.hp = (E (i + 1)).1 ∧ σ3.nx = (E (i + 1)).2)))
  {Q : End → St → Prop} (hQ : Q .normal ⟨σ.env,(E rows.length).1,(E rows.length).2⟩) :
  (Code.rangeFunc (.tmp tg) #[p1,p2] assign body).wpIn (rF c.ro) 2 c.P (fun e a' w' => ∃ e' G' β' σ',e = zJv e' ∧ Q e' σ' ∧ Conc c G' β' σ' a' w') a w:=by
 have hg:=hc.env tg;rw [he] at hg;simp only [AVal,AVals] at hg;obtain ⟨vs,hg,v,vs',rfl,hv,rfl⟩:=hg;have hg : a.eval (.tmp tg) = .func (.func fid) #[] #[v]:=hg;have hiter:=hit G w v rows hc.lt hc.glob hv hrl hlen;rw [hro]
 obtain ⟨r0,hr0⟩:=hl0;refine wpIn_rangeFunc fun fn _ => ?_
 obtain ⟨rec,hrec⟩ : ∃ rec : LoopState → Loop,rec = fun st => { state:=st,pending:=none,fn:=fn,tmps:=a.tmps,params:=#[p1,p2],assign:=assign,body:=body,defers:=r0.defers }:=⟨_,rfl⟩
 obtain ⟨l,hl0⟩ : ∃ l,l = w.heap.size:=⟨_,rfl⟩
 obtain ⟨W1,hW1⟩ : ∃ W1,w.alloc (.loop (rec .ready)) = W1:=⟨_,rfl⟩
 have hL1 : W1.heap[l]? = some (.loop (rec .ready)) :=(by rw [← hW1,hl0]; exact World.alloc_heap_new w _);have hc1 : Conc c G β σ a W1 :=(by rw [← hW1]; exact hc.ext (Ext.alloc0 hc.lt (.loop (rec .ready))));have hcl : c.w0.heap.size ≤ l :=(by rw [hl0]; exact hc.fr.size);refine ⟨l,[],W1,{ target:=.fn (.func fid) #[v],args:=#[.func (.yield l) #[] #[]] },W1,fid,#[.func (.yield l) #[] #[]] ++ #[v],W1,?_,?_,?_,?_,fun h => (by cases h),?_⟩
 ·rw [← hW1,hrec,hl0]; exact run_enterLoop_inner hr0 _ _ _ _ _
 ·simp only [resolve,hg]
  simp [go_sem]
 ·intro f' hf'; trivial
 ·simp [invoke,go_sem,hcall]
 have key:=hiter l (fun i W => W.heap[l]? = some (.loop (rec .ready)) ∧ ∃ G' β',Conc c G' β' ⟨σ.env,(E i).1,(E i).2⟩ a W ∧ (∀ b,G b → G' b) ∧ ¬ G' l) W1 (by rw [← hW1,World.size_alloc]; omega)
  (fun b hb => by
   have hb':=hc.lt b hb;rw [← hW1,zBB _ _ hb'])
  (fun i A B ⟨h1,G',β',h3,h4⟩ hg => ⟨(hg.old l (Array.getElem?_eq_some_iff.1 h1).1).trans h1,G',β',h3.ext (hg.ext h3.lt),h4⟩)
  ?_ ⟨hL1,G,β,by rw [hE]; exact hc1,fun _ h => h,fun h => by have:=hc.lt _ h; omega⟩
 ·refine key.mono ?_;rintro e W3 ⟨⟨u,rfl⟩,h1,G3,β3,hc3,hG3,hnl⟩
  have hend:=run_endLoop (P:=c.P) h1 (by rw [hrec]; simp)
  rw [hrec] at hend;refine ⟨none,_,hend,?_⟩
  dsimp only;have hnol : ¬ ownB β3 (E rows.length).1 l:=hc3.not_own h1 rfl;generalize hW4 : W3.putObj l _ = W4;have hoth : ∀ b,b ≠ l → W4.heap[b]? = W3.heap[b]?:=fun b hb => by rw [← hW4]; exact World.putObj_heap_other hb
  have hsz : W4.heap.size = W3.heap.size :=(by rw [← hW4]; exact World.putObj_size);have hfr4 : Fr c.X c.w0 W4:=⟨by rw [← hW4]; exact hc3.fr.os,by rw [← hW4]; exact hc3.fr.tape,by rw [← hW4]; exact hc3.fr.output,by rw [hsz]; exact hc3.fr.size,fun b hb hx => (hoth b (by omega)).trans (hc3.fr.old b hb hx)⟩
  refine ⟨.normal,G3,β3,_,rfl,hQ,?_⟩
  exact hc3.re (c2:=c) (fun b hb => hoth b fun h => hnl (h ▸ hb)) (fun b hb => hoth b fun h => hnol (h ▸ hb)) (by rw [hsz]; exact Nat.le_refl _)
   hc.defers hc.size hc3.env hc3.envlt (fun b ⟨k,ob,q1,q2⟩ => (row_block (hc3.hp k ob q1) b q2).2) hc3.sub hc3.new hfr4 hc3.stay
 ·rintro i j row u W hiN hrow ⟨h1,G',β',hcW,hGG,hnl⟩ hszW hGk hval;have hy:=run_yield (P:=c.P) (args:=#[.int .i64 (j : Int),u]) h1 (by rw [hrec]; rfl)
  rw [hrec] at hy;have hnol : ¬ ownB β' (E i).1 l:=hcW.not_own h1 rfl;have hlW : l < W.heap.size:=(Array.getElem?_eq_some_iff.1 h1).1;have hkW : Keep G G' w W:=⟨hGG,fun b hb => (hGk b hb)⟩
  have htm : ((#[p1,p2].zip #[Value.int .i64 (j : Int),u]).foldl (fun tmps (x : Nat × Value) => tmps.setIfInBounds x.1 x.2) a.tmps) = (a.tmps.setIfInBounds p1 (.int .i64 (j : Int))).setIfInBounds p2 (u) :=(by rw [zip2]; rfl);have hy : (Instr.yield l #[.int .i64 (j : Int),u]).run c.P W = .ok (.round l fn ((a.tmps.setIfInBounds p1 (.int .i64 (j : Int))).setIfInBounds p2 (u)) assign body) W :=(by rw [← htm]; exact hy);refine ⟨fn,_,assign,body,hy,roundIn_of_wpIn trivial ?_⟩
  have hs1 : p1 < a.tmps.size :=(by rw [hcW.size]; exact hp1);have hs2 : p2 < (a.tmps.setIfInBounds p1 (.int .i64 (j : Int))).size :=(by rw [Array.size_setIfInBounds,hcW.size]; exact hp2);have hA : Conc (rcx c.P c.N m l W (ownB β' (E i).1) G' β') G' β' (zIP σ p1 p2 j row (E i)) { tmps:=(a.tmps.setIfInBounds p1 (.int .i64 (j : Int))).setIfInBounds p2 (u),defers:=[] } W:=by
   refine hcW.re (c2:=rcx c.P c.N m l W (ownB β' (E i).1) G' β') (fun _ _ => rfl) (fun _ _ => rfl) (Nat.le_refl _) rfl (by show _ = c.N; rw [Array.size_setIfInBounds,Array.size_setIfInBounds]; exact hcW.size) (fun t => ?_) (fun t => ?_) (fun b hb => .inl hb) (fun _ h => h) (fun _ h => .inl h) (Fr.refl _ _) ⟨hmE i,fun _ _ => rfl⟩
   ·dsimp only;rw [zGP hs2,zGP hs1]
    by_cases e2 : t = p2
    ·subst e2;rw [if_pos rfl,Nat.beq_refl,cond_true]
     exact (hval β').keep ⟨hGG,fun _ _ => rfl⟩
    ·rw [if_neg e2,nbeq e2,cond_false]
     by_cases e1 : t = p1
     ·subst e1;rw [if_pos rfl,Nat.beq_refl,cond_true]
      simp [AVal,Rep]
     ·rw [if_neg e1,nbeq e1,cond_false]
      exact hcW.env t
   ·dsimp only
    by_cases e2 : t = p2
    ·subst e2; rw [Nat.beq_refl,cond_true]; simp only [AV.lt]; exact zMS row
    ·rw [nbeq e2,cond_false]
     by_cases e1 : t = p1
     ·subst e1; rw [Nat.beq_refl,cond_true]; rfl
     ·rw [nbeq e1,cond_false]; exact hcW.envlt t
  have hTri:=hround i j row hiN hrow l W (ownB β' (E i).1) G' β' ⟨⟨_,h1⟩,hnol⟩
  unfold Tri at hTri;refine wpIn_mono (zQT (m:=0) (hTri _ _ _ _ hA)) ?_;rintro e a1 Wb ⟨e',G2,β2,σ1,rfl,⟨rfl,hbody⟩,hB⟩
  have bl : Wb.heap[l]? = W.heap[l]?:=hB.fr.old l hlW hnol;have hlb : l < Wb.heap.size:=Nat.lt_of_lt_of_le hlW hB.fr.size;have hn2l : ¬ G2 l:=fun h => (hB.new l h).elim hnl (fun h => h.elim hnol (fun h => by have : W.heap.size ≤ l:=h; omega))
  refine ⟨_,run_beginRound (bl.trans h1) (by rw [hrec]),?_⟩
  generalize hW2 : Wb.putObj l _ = W2;have oth2 : ∀ b,b ≠ l → W2.heap[b]? = Wb.heap[b]?:=fun b hb => by rw [← hW2]; exact World.putObj_heap_other hb
  have sz2 : W2.heap.size = Wb.heap.size :=(by rw [← hW2]; exact World.putObj_size);have l2 : W2.heap[l]? = some (.loop { rec .ready with state:=.busy }) :=(by rw [← hW2]; exact World.putObj_heap_same hlb);have hno1l : ¬ ownB β2 σ1.hp l:=hB.not_own (bl.trans h1) rfl;have hB2 : Conc (rcx c.P c.N m l W2 (ownB β2 σ1.hp) G2 β') G2 β2 σ1 a1 W2 :=
   hB.re (c2:=rcx c.P c.N m l W2 (ownB β2 σ1.hp) G2 β') (fun b hb => oth2 b fun h => hn2l (h ▸ hb)) (fun b hb => oth2 b fun h => hno1l (h ▸ hb)) (by rw [sz2]; exact Nat.le_refl _) hB.defers hB.size hB.env hB.envlt (fun b hb => .inl hb) (fun _ h => h) (fun _ h => .inl h) (Fr.refl _ _) hB.stay
  have hTri2:=hbody W2 (ownB β2 σ1.hp) G2 β' ⟨⟨_,l2⟩,hno1l⟩
  unfold Tri at hTri2;refine wpIn_mono (zQT (m:=0) (hTri2 _ _ _ _ hB2)) ?_;rintro e a2 Wc ⟨e',G3,β3,σ2,rfl,⟨rfl,σ3,hle,hhp,hnx⟩,hC0⟩
  unfold Le at hle;obtain ⟨G4,β4,hC⟩:=hle _ _ _ _ hC0;have hl2 : l < W2.heap.size :=(by omega);have cl : Wc.heap[l]? = W2.heap[l]?:=hC.fr.old l hl2 hno1l;have hlc : l < Wc.heap.size:=Nat.lt_of_lt_of_le hl2 hC.fr.size;have hend:=run_endRound (P:=c.P) none (cl.trans l2)
  refine ⟨_,_,hend,rfl,?_⟩
  generalize hW5 : Wc.putObj l _ = W5;have oth5 : ∀ b,b ≠ l → W5.heap[b]? = Wc.heap[b]?:=fun b hb => by rw [← hW5]; exact World.putObj_heap_other hb
  have sz5 : W5.heap.size = Wc.heap.size :=(by rw [← hW5]; exact World.putObj_size);have l5 : W5.heap[l]? = some (.loop (rec .ready)) :=(by rw [← hW5,World.putObj_heap_same hlc,hrec]; rfl);have hnol3 : ¬ ownB β4 σ3.hp l:=hC.not_own (cl.trans l2) rfl;have hn4l : ¬ G4 l:=fun h => (hC.new l h).elim hn2l (fun h => h.elim hno1l (fun h => by have : W2.heap.size ≤ l:=h; omega))
  have hsub4 : ∀ b,G' b → G4 b:=fun b h => hC.sub b (hB.sub b h)
  have hgl : ∀ b,G' b → b ≠ l:=fun b h e => hnl (e ▸ h)
  have hkeep : ∀ b,G' b → Wc.heap[b]? = W.heap[b]?:=fun b h => by
   have hno : ¬ ownB β' (E i).1 b:=fun ⟨k,ob,q1,q2⟩ => (row_block (hcW.hp k ob q1) b q2).1 h
   have hno2 : ¬ ownB β2 σ1.hp b:=fun ⟨k,ob,q1,q2⟩ => (row_block (hB.hp k ob q1) b q2).1 (hB.sub b h)
   have hb1:=hcW.lt b h;have hb2 : b < W2.heap.size :=(by have:=hB.lt b (hB.sub b h); omega);exact (hC.fr.old b hb2 hno2).trans ((oth2 b (hgl b h)).trans (hB.fr.old b hb1 hno))
  have hbeta : ∀ k,k < m → β4 k = β' k:=fun k hk => hC.stay.2 k hk
  have hnxle : m ≤ σ3.nx:=hC.stay.1;have hmine1 : ∀ b,ownB β2 σ1.hp b → c.mine b:=fun b ⟨k,ob,q1,q2⟩ => by
   rcases (row_block (hB.hp k ob q1) b q2).2 with ⟨k',ob',r1,r2⟩ | h
   ·exact (row_block (hcW.hp k' ob' r1) b r2).2
   ·exact .inr (Nat.le_trans hcW.fr.size h)
  have hmine3 : ∀ b,ownB β4 σ3.hp b → c.mine b:=fun b ⟨k,ob,q1,q2⟩ => by
   rcases (row_block (hC.hp k ob q1) b q2).2 with h | h
   ·exact hmine1 b h
   ·have h : W2.heap.size ≤ b:=h;have:=hB.fr.size;simp only [rcx] at this;exact .inr (by have:=hcW.fr.size; omega)
  have hfr5 : Fr c.X c.w0 W5:=by
   refine ⟨?_,?_,?_,?_,fun b hb hx => ?_⟩
   ·rw [← hW5]; show Wc.os = _; rw [hC.fr.os]; show W2.os = _; rw [← hW2]; show Wb.os = _; rw [hB.fr.os]; exact hcW.fr.os
   ·rw [← hW5]; show Wc.tape = _; rw [hC.fr.tape]; show W2.tape = _; rw [← hW2]; show Wb.tape = _; rw [hB.fr.tape]; exact hcW.fr.tape
   ·rw [← hW5]; show Wc.output = _; rw [hC.fr.output]; show W2.output = _; rw [← hW2]; show Wb.output = _; rw [hB.fr.output]; exact hcW.fr.output
   ·have h1:=hC.fr.size;have h2:=hB.fr.size;have h3:=hcW.fr.size;simp only [rcx] at h1 h2
    omega
   ·have hno : ¬ ownB β' (E i).1 b:=fun ⟨k,ob,q1,q2⟩ => (row_block (hcW.hp k ob q1) b q2).2.elim hx (fun h => by omega)
    have hno2 : ¬ ownB β2 σ1.hp b:=fun h => (hmine1 b h).elim hx (fun h => by omega)
    have hb1 : b < W.heap.size :=(by have:=hcW.fr.size; omega);have hb2 : b < W2.heap.size :=(by have:=hB.fr.size; simp only [rcx] at this; omega);have hbl : b ≠ l :=(by omega);exact (oth5 b hbl).trans ((hC.fr.old b hb2 hno2).trans ((oth2 b hbl).trans ((hB.fr.old b hb1 hno).trans (hcW.fr.old b hb hx))))
  refine ⟨⟨l5,G4,β4,?_,fun b h => hsub4 b (hGG b h),hn4l⟩,by have h1:=hC.fr.size; have h2:=hB.fr.size; simp only [rcx] at h1 h2; omega,fun b hb => (oth5 b (hgl b (hGG b hb))).trans ((hkeep b (hGG b hb)).trans (hGk b hb))⟩
  rw [← hhp,← hnx]
  refine hC.re (c2:=c) (fun b hb => oth5 b fun h => hn4l (h ▸ hb)) (fun b hb => oth5 b fun h => hnol3 (h ▸ hb)) (by rw [sz5]; exact Nat.le_refl _) hc.defers hc.size (fun t => ((hcW.env t).keep ⟨hsub4,hkeep⟩).beta hbeta (hm t)) (fun t => AV.lt_mono hnxle (hm t)) hmine3
   (fun b hb => hsub4 b (hcW.sub b hb)) (fun b hb => ?_) hfr5 ⟨Nat.le_trans hm0 hnxle,fun k hk => (hbeta k (Nat.lt_of_lt_of_le hk hm0)).trans (hcW.stay.2 k hk)⟩
  rcases hC.new b hb with h | h
  ·rcases hB.new b h with h | h
   ·exact hcW.new b h
   ·rcases h with ⟨k',ob',r1,r2⟩ | h
    ·exact .inr (row_block (hcW.hp k' ob' r1) b r2).2
    ·exact .inr (.inr (Nat.le_trans hcW.fr.size h))
  ·rcases h with h | h
   ·exact .inr (hmine1 b h)
   ·have h : W2.heap.size ≤ b:=h;have h2:=hB.fr.size;have h3:=hcW.fr.size;simp only [rcx] at h2;exact .inr (.inr (by omega))
theorem zRw {c : Cx} {σ : St} {Q : End → St → Prop} {l0 : Nat} (hro : c.ro = some l0) (hl0 : Rl c.w0 c.X l0) {tg p1 p2 fid sz : Nat} {rows : List (List S)} {assign body : Code}
  (hit : zHI c.P fid sz) (hcall : ∀ args w,(callFunc fid args).run c.P w = .ok (.enter fid args) w) (he : σ.env tg = .clo fid [.s (.pt [.sl sz rows])]) (hrl : ∀ r ∈ rows,r.length = sz) (hlen : rows.length ≤ 4611686018427387904)
  (E : Nat → (Nat → Option Ob) × Nat) (hE : E 0 = (σ.hp,σ.nx)) (m : Nat) (hm : ∀ t,(σ.env t).lt m = true) (hm0 : c.n0 ≤ m) (hmE : ∀ i,m ≤ (E i).2) (hp1 : p1 < c.N) (hp2 : p2 < c.N)
  (hround : ∀ i j row,i + j + 1 = rows.length → rows[j]? = some row → ∀ l w X G B,Rl w X l → Tri (rcx c.P c.N m l w X G B) assign (zIP σ p1 p2 j row (E i)) (fun e σ1 => e = .normal ∧ ∀ w X G B,Rl w X l →
   Tri (rcx c.P c.N m l w X G B) body σ1 (fun e σ2 => e = .normal ∧ ∃ σ3,Le (rcx c.P c.N m l w X G B) σ2 σ3 ∧ σ3.hp = (E (i + 1)).1 ∧ σ3.nx = (E (i + 1)).2)))
  (hQ : Q .normal ⟨σ.env,(E rows.length).1,(E rows.length).2⟩) : Tri c (.rangeFunc (.tmp tg) #[p1,p2] assign body) σ Q:=by
 unfold Tri;intro G β a w hc;obtain ⟨⟨r,hr⟩,hx⟩:=hl0;exact zS3 hc hro ⟨r,(hc.fr.old l0 (Array.getElem?_eq_some_iff.1 hr).1 hx).trans hr⟩ hit hcall he hrl hlen E hE m hm hm0 hmE hp1 hp2 hround hQ
def zT5 (c : Cx) (Φ : AV → (Nat → Option Ob) → Nat → Prop) : Ending → World → Prop:=fun e w' => ∃ v G' β' x hp' n',e = .returned v ∧ Φ x hp' n' ∧ c.n0 ≤ n' ∧ Fr c.X c.w0 w' ∧ (∀ b,c.G0 b → G' b) ∧ (∀ b,G' b → c.G0 b ∨ c.mine b) ∧ (∀ b,G' b → b < w'.heap.size) ∧
 AVal G' w' β' x v ∧ x.lt n' = true ∧ HpAt c G' w' β' hp' n' ∧ ∀ k,k < c.n0 → β' k = c.B0 k
end Go.Abs
namespace Go.Abs
theorem zTR {c : Cx} {σ σ' : St} {x : Code} {Φ : Exit → Act → World → Prop} (hle : Le c σ σ') (h : TriX c x σ' Φ) : TriX c x σ Φ:=fun G β a w hc => by
 unfold Le at hle;obtain ⟨G',β',h'⟩:=hle G β a w hc;exact h G' β' a w h'
def ΦO (x : AV) (os' : List (Option Ob)) : AV → (Nat → Option Ob) → Nat → Prop:=fun y hp' n' => y = x ∧ x.lt os'.length = true ∧ zOm hp' os'.length 0 os'
theorem zPL {c : Cx} {T : Nat → Option TI} {rs : List ResultVar} {x : AV} {os' : List (Option Ob)} {σ : St} (h : zCM c T rs x os' σ) : zIX c T rs (ΦO x os') σ:=by
 unfold zCM at h;unfold zIX;obtain ⟨σ',h1,h2,h3,h4⟩:=h;exact ⟨σ',h1,x,h2,rfl,h3,h4⟩
theorem zTk {c c2 : Cx} {D : Nat} {T : Nat → Option TI} (hT : TOk c2.P T) {fn : Func} {Φ : AV → (Nat → Option Ob) → Nat → Prop} {σ' : St} {G' : Nat → Prop} {β' : Nat → Value} {a' : Act} {w' : World} (hsw : Sw c c2 D) (hn : c2.n0 = c.n0) (hB : c2.B0 = c.B0) (hds : c2.ds = [{ target:=.collected D,args:=#[] }])
  (hc' : Conc c2 G' β' σ' a' w') (hq : zIX c2 T fn.results.toList Φ σ') : bodyPostM (rF none) 2 c2.P fn (zT5 c Φ) .normal a' w':=by
 show LeavesInM (rF none) 2 c2.P fn a'.tmps (zT5 c Φ) a'.defers .returning w';unfold zIX at hq;obtain ⟨σ2,hle,x,hr,hΦ⟩:=hq;unfold Le at hle;obtain ⟨G2,β2,hc2⟩:=hle G' β' a' w' hc';have hDl : D < c2.w0.heap.size:=(Array.getElem?_eq_some_iff.1 hsw.blk).1;have hD : w'.heap[D]? = some (.deferred (some [])):=(hc2.fr.old D hDl hsw.nX).trans hsw.blk;have hnG : ¬ G2 D:=fun h => (hc2.new D h).elim hsw.nG (fun h => h.elim hsw.nX (fun h => by omega))
 have hnO : ¬ ownB β2 σ2.hp D:=hc2.not_own hD rfl;rw [hc'.defers,hds]
 refine ⟨by simp,.inl ⟨_,_,rfl,run_takeDeferred hD,?_⟩⟩
 generalize hW : w'.putObj D (.deferred none) = W;have oth : ∀ b,b ≠ D → W.heap[b]? = w'.heap[b]?:=fun b hb => by rw [← hW]; exact World.putObj_heap_other hb
 have sz : W.heap.size = w'.heap.size :=(by rw [← hW]; exact World.putObj_size);have hge:=hsw.ge;have hmine : ∀ b,c2.mine b → c.mine b:=fun b hb => by
  rcases hb with hb | hb
  ·exact hsw.mine b hb
  ·exact .inr (Nat.le_trans hsw.fr.size hb)
 have hfr : Fr c.X c.w0 W:=by
  refine ⟨?_,?_,?_,?_,fun b hb hx => ?_⟩
  ·rw [← hW]; show w'.os = _; rw [hc2.fr.os]; exact hsw.fr.os
  ·rw [← hW]; show w'.tape = _; rw [hc2.fr.tape]; exact hsw.fr.tape
  ·rw [← hW]; show w'.output = _; rw [hc2.fr.output]; exact hsw.fr.output
  ·have h1:=hc2.fr.size; have h2:=hsw.fr.size; omega
  ·have h2:=hsw.fr.size;exact (oth b (by omega)).trans ((hc2.fr.old b (by omega) (fun h => (hsw.mine b h).elim hx (fun h => by omega))).trans (hsw.fr.old b hb hx))
 have hc3 : Conc { c with P:=c2.P,N:=c2.N,ds:=[] } G2 β2 ⟨σ2.env,σ2.hp,σ2.nx⟩ { a' with defers:=[] } W :=
  hc2.re (c2:={ c with P:=c2.P,N:=c2.N,ds:=[] }) (fun b hb => oth b fun h => hnG (h ▸ hb)) (fun b hb => oth b fun h => hnO (h ▸ hb)) (by rw [sz]; exact Nat.le_refl _) rfl hc2.size hc2.env hc2.envlt
   (fun b ⟨k,ob,q1,q2⟩ => hmine b (row_block (hc2.hp k ob q1) b q2).2) (fun b h => hc2.sub b (hsw.sub b h)) (fun b h => (hc2.new b h).elim (hsw.new b) (fun h => .inr (hmine b h))) hfr (by rw [← hn,← hB]; exact hc2.stay)
 obtain ⟨v,h1,h2⟩:=zGG (c:={ c with P:=c2.P,N:=c2.N,ds:=[] }) hT hc3 hr;exact ⟨v,h1,v,G2,β2,x,σ2.hp,σ2.nx,rfl,hΦ,hc3.stay.1,hfr,hc3.sub,hc3.new,hc3.lt,h2,zQH hc3 hr,⟨fun k ob hk => ObAt.cx (fun _ h => h) (hc3.hp k ob hk),hc3.hplt,hc3.inj⟩,hc3.stay.2⟩
theorem zUk {P : Program} {f : Nat} {fn : Func} {code : Code} {R : List AV → List Ob → AV → List (Option Ob) → Prop} (hcall : ∀ args w,(callFunc f args).run P w = .ok (.enter f args) w)
  (hf : P.funcs[f]? = some fn) (hb : fn.body = some code) (hn : ∀ xs os x os',R xs os x os' → xs.length ≤ fn.ntmps ∧ os.length ≤ os'.length)
  (N : Nat) (hN : fn.ntmps = N)
  (h : ∀ xs os x os' w0 G0 B0,R xs os x os' → AV.ltAll os.length xs = true → TriX (zD3 P w0 B0 os.length G0 N) code (zF6 xs os) (bodyPostM (rF none) 2 P fn (zT5 (zD3 P w0 B0 os.length G0 N) (ΦO x os')))) : PSound P f (zCl R):=by
 subst hN;refine ⟨hcall,fun G w xs vs r _ _ _ _ hpre => hpre.elim,fun R' hR' => ?_,fun R hR => (by cases hR)⟩
 obtain rfl : R = R' :=(by simpa [zCl] using hR');intro G w β xs vs os x os' hlt hgl hv hxl hobs hR;have hlen:=hv.length;obtain ⟨hxn,hol⟩:=hn xs os x os' hR;have hget : ∀ (k : Nat) ob,(zF6 xs os).hp k = some ob → (os.map some)[k]? = some (some ob):=fun k ob hk => by
  simp only [zF6] at hk;rw [List.getElem?_map,hk]; rfl
 have hc : Conc (zD3 P w β os.length G fn.ntmps) G β (zF6 xs os) { tmps:=vs.toArray ++ Array.replicate (fn.ntmps - vs.toArray.size) undef,defers:=[] } w:={
  defers:=rfl
  size:=by simp only [Array.size_append,List.size_toArray,Array.size_replicate]; show _ = fn.ntmps; omega
  env:=fun t => by
   simp only [zF6]
   by_cases ht : t < xs.length
   ·obtain ⟨v,h1,h2⟩:=hv.get (i:=t) (x:=xs[t]) (List.getElem?_eq_getElem ht)
    have e1 : xs.getD t .junk = xs[t] :=(by simp [List.getElem?_eq_getElem ht]);have e2 : (vs.toArray ++ Array.replicate (fn.ntmps - vs.toArray.size) undef).getD t undef = v:=by
     rw [Array.getD_eq_getD_getElem?,Array.getElem?_append_left (by simpa [hlen] using ht)]
     simp [h1]
    rw [e1,e2]; exact h2
   ·have : xs.getD t .junk = .junk :=(by simp [List.getElem?_eq_none (by omega : xs.length ≤ t)]);rw [this]; simp only [AVal]
  envlt:=fun t => by
   simp only [zF6]
   by_cases ht : t < xs.length
   ·have e1 : xs.getD t .junk = xs[t] :=(by simp [List.getElem?_eq_getElem ht]);rw [e1]; exact zBn hxl (List.getElem?_eq_getElem ht)
   ·have : xs.getD t .junk = .junk :=(by simp [List.getElem?_eq_none (by omega : xs.length ≤ t)]);rw [this]; rfl
  hp:=fun k ob hk => ObAt.cx (fun _ h => h) (hobs.1 k ob (hget k ob hk)).1
  hplt:=fun k ob hk => ⟨(List.getElem?_eq_some_iff.1 hk).1,by have:=(hobs.1 k ob (hget k ob hk)).2; rwa [List.length_map] at this⟩
  inj:=fun k k' ob ob' hk hk' hne b => hobs.2 k k' ob ob' (hget k ob hk) (hget k' ob' hk') hne b
  lt:=hlt
  sub:=fun b hb => hb
  new:=fun b hb => .inl hb
  fr:=Fr.refl _ _
  stay:=⟨Nat.le_refl _,fun _ _ => rfl⟩
  glob:=hgl }
 refine (callsIn_wide.1 (callsIn_of_wp_marks hf hb trivial (h xs os x os' w G β hR hxl G β _ w hc))).mono fun e w' he => ?_
 obtain ⟨v,G',β',y,hp',n',h1,⟨rfl,hxl',hh⟩,h3,h4,h5,h6,h7,h8,h9,h10,h11⟩:=he;have hg : ∀ (i : Nat) ob,os'[i]? = some (some ob) → hp' i = some ob ∧ ob.lt os'.length = true:=fun i ob hi => by simpa using zGR hh hi
 exact ⟨v,G',β',h1,h4,h5,h6,h7,h8,hxl',hol,
  ⟨fun i ob hi => ⟨ObAt.cx (fun _ h => h) (h10.obs i ob (hg i ob hi).1),(hg i ob hi).2⟩,fun i j ob ob' hi hj hne b => h10.inj i j ob ob' (hg i ob hi).1 (hg j ob' hj).1 hne b⟩,
  fun i ob hi ho => h11 i hi⟩
end Go.Abs
namespace Go.Proofs.YtjdhkpdjecegnaaGreatDoor
open Go.Abs
def zHJ (xs : List AV) (r : Ret) : Prop:=∃ rows,xs = [.s (.sl 4 rows)] ∧ r = .val (.clo 68 [.s (.pt [.sl 4 rows])])
set_option maxHeartbeats 600000 in
theorem zLh : PSound Tryz.prog 46 (zAG zHJ):=by
 have gok : ∀ f s,look? f [] = some s → PSound Tryz.prog f s:=zAB (by simp)
 refine zAS tokW Tryz.call46 Tryz.func46 rfl (fun xs r h => by obtain ⟨_,rfl,_⟩:=h; show 1 ≤ 4; decide) 4 rfl ?_;rintro xs r w0 G0 ⟨rows,rfl,rfl⟩ _;refine zAa ?_;refine zAb [] [] rfl ?_;show Tri _ _ _ _;refine zAa ?_;refine zAb [] [] rfl ?_;show Tri _ _ _ _;refine zAv ?_;unfold zAO;exact ⟨_,Le.refl _ _,rfl,rfl⟩
theorem zKm (a : Act) (t : Nat) : a.eval (.tmp t) = a.tmps.getD t undef:=rfl
theorem list4 {α : Type} : ∀ {l : List α},l.length = 4 → ∃ a b c d,l = [a,b,c,d]
 | [a,b,c,d],_ => ⟨a,b,c,d,rfl⟩
theorem zRK : zHI Tryz.prog 68 4:=by
 intro G w0 v rows hlt hgl hv hrl hlen l J W hsz hk hJ hY h0;have hrep : ∀ w : World,(∀ b,G b → w.heap[b]? = w0.heap[b]?) → Rep G w (.pt [.sl 4 rows]) v:=fun w hw => hv.keep ⟨fun _ h => h,hw⟩
 have hlt' : ∀ w : World,w0.heap.size ≤ w.heap.size → ∀ b,G b → b < w.heap.size:=fun w hw b hb => Nat.lt_of_lt_of_le (hlt b hb) hw
 have hgl' : ∀ w : World,(∀ b,G b → w.heap[b]? = w0.heap[b]?) → GlobOk G w:=fun w hw => hgl.keep ⟨fun _ h => h,hw⟩
 have step : ∀ {N : Nat} {G' : Nat → Prop} {β : Nat → Value} {σ : St} {a : Act} {wa wb : World} (i : Nat),Conc (zFf Tryz.prog wa G N) G' β σ a wb → wb.heap.size = wa.heap.size → J i wa → w0.heap.size ≤ wa.heap.size → (∀ b,G b → wa.heap[b]? = w0.heap[b]?) →
   J i wb ∧ w0.heap.size ≤ wb.heap.size ∧ (∀ b,G b → wb.heap[b]? = w0.heap[b]?):=fun {N G' β σ a wa wb} i hc hs hj h1 h2 => by
  obtain ⟨g1,g2⟩:=hc.back hs;exact ⟨hJ i wa wb hj ⟨hc.fr.os,hc.fr.tape,hc.fr.output,hc.fr.size,g2⟩,by rw [hs]; exact h1,fun b hb => (g2 b (hlt' wa h1 b hb)).trans (h2 b hb)⟩
 let St : Nat → Act → World → Prop:=fun i a w => a.defers = [] ∧ a.tmps.size = 19 ∧ a.tmps.getD 0 undef = .func (.yield l) #[] #[] ∧ a.tmps.getD 1 undef = v ∧ a.tmps.getD 3 undef = .int .i64 ((rows.length : Int) - 1 - i) ∧ J i w ∧ w0.heap.size ≤ w.heap.size ∧ (∀ b,G b → w.heap[b]? = w0.heap[b]?)
 refine callsIn_of_wp Tryz.func68 rfl trivial ?_;generalize ha : ({ tmps:=#[Value.func (.yield l) #[] #[],v] ++ Array.replicate _ undef,defers:=[] } : Act) = a;have a0 : a.tmps.getD 0 undef = .func (.yield l) #[] #[] :=(by rw [← ha]; rfl);have a1 : a.tmps.getD 1 undef = v :=(by rw [← ha]; rfl);have az : a.tmps.size = 19 :=(by rw [← ha]; rfl);have ad : a.defers = []:=by rw [← ha]
 clear ha
 refine wpIn_seq ?_;refine wpIn_region_lit ?_;refine zML tokW (N:=19) (K:=fun σ => σ.env 3 = .s (.int .i64 (IntKind.i64.wrap ((rows.length : Int) - 1)))) [0,1] ?_ (zQ4 (G:=G) [(1,.s (.pt [.sl 4 rows]))] ad az (hlt' W hsz) (hgl' W hk) rfl (fun p hp => by
  obtain rfl:=List.mem_singleton.1 hp;dsimp only;rw [a1]
  simp only [AVal]
  exact hrep W hk)) rfl ?_
 ·show _ = _
  rfl
 intro σ1 G1 β1 b w1 hK hc hs hfr;have b0:=(hfr 0 (by simp)).trans a0;have b1:=(hfr 1 (by simp)).trans a1;have b3:=hc.env 3;rw [hK] at b3;simp only [AVal,Rep] at b3;rw [wrap64_in (n:=(rows.length : Int) - 1) (by omega) (by omega)] at b3;have hst:=step 0 hc hs h0 hsz hk;have hS : St 0 b w1:=⟨hc.defers,hc.size,b0,b1,by rw [b3]; congr 1; omega,hst⟩
 clear hst b0 b1 b3 hK hfr hc hs a0 a1 az ad
 refine wpIn_block ?_;refine wpIn_loop (fun a w => ∃ i,i ≤ rows.length ∧ St i a w) (fun a _ => match a.tmps.getD 3 undef with | .int _ z => (z + 1).toNat | _ => 0) ⟨0,Nat.zero_le _,hS⟩ ?_;rintro a w ⟨i,hi,ad,az,a0,a1,a3,hj,hw1,hw2⟩
 refine wpIn_seq ?_;refine wpIn_seq ?_;refine wpIn_region_lit ?_;refine zML tokW (N:=19) (K:=fun σ => σ.env 8 = .s (.bool (decide (0 ≤ (rows.length : Int) - 1 - i)))) [0,1,3] ?_ (zQ4 (G:=G) [(3,.s (.int .i64 ((rows.length : Int) - 1 - i)))] ad az (hlt' w hw1) (hgl' w hw2) rfl (fun p hp => by
  obtain rfl:=List.mem_singleton.1 hp;dsimp only;rw [a3]
  simp [AVal,Rep])) rfl ?_
 ·show _ = _
  rfl
 intro σ1 G1 β1 b w1 hK hc hs hfr;have b0:=(hfr 0 (by simp)).trans a0;have b1:=(hfr 1 (by simp)).trans a1;have b3:=(hfr 3 (by simp)).trans a3;have b8:=hc.env 8;rw [hK] at b8;simp only [AVal,Rep] at b8;obtain ⟨hj1,hw3,hw4⟩:=step i hc hs hj hw1 hw2;have bd : b.defers = []:=hc.defers;have bs : b.tmps.size = 19:=hc.size
 clear hc hK hfr hs a0 a1 ad az hj hw1 hw2
 refine wpIn_cond_split (t:=decide (0 ≤ (rows.length : Int) - 1 - i)) b8 (fun hb => ?_) (fun hb => ?_)
 ·have hb:=of_decide_eq_true hb;refine wpIn_skip ?_;obtain ⟨j,hij⟩ : ∃ j,i + j + 1 = rows.length:=⟨rows.length - 1 - i,by omega⟩
  have hz : (rows.length : Int) - 1 - i = (j : Int) :=(by omega);rw [hz] at b3;have hjl : j < rows.length :=(by omega);have hrow : rows[j]? = some rows[j]:=List.getElem?_eq_getElem hjl;have hr8:=hrl _ (List.getElem_mem hjl)
  have hgd : rows.getD ((j : Int).toNat) [] = rows[j] :=(by rw [Int.toNat_natCast,List.getD_eq_getElem?_getD,hrow]; rfl);generalize rows[j] = row at hrow hr8 hgd;refine wpIn_seq ?_;refine wpIn_block ?_;refine wpIn_seq ?_;refine wpIn_region_lit ?_;refine zJx rfl ?_;refine zTw (ro:=none) (K:=fun a' w' => a' = b.put (some 11) (.func (.yield l) #[] #[]) ∧ w' = w1) (by intro c e; cases e) ?_ (zA6 (v:=.func (.yield l) #[] #[]) (w':=w1) (by simp [execOp,zKm,b0]) ⟨rfl,rfl⟩)
  rintro a' w' ⟨ha',hw'⟩
  rw [ha',hw']
  clear ha' hw' a' w'
  have c0 : (b.put (some 11) (.func (.yield l) #[] #[])).tmps.getD 0 undef = .func (.yield l) #[] #[]:=(zKM (by decide)).trans b0;have c1 : (b.put (some 11) (.func (.yield l) #[] #[])).tmps.getD 1 undef = v:=(zKM (by decide)).trans b1;have c3 : (b.put (some 11) (.func (.yield l) #[] #[])).tmps.getD 3 undef = .int .i64 (j : Int):=(zKM (by decide)).trans b3;have c11 : (b.put (some 11) (.func (.yield l) #[] #[])).tmps.getD 11 undef = .func (.yield l) #[] #[]:=by
   simp only [Act.put]
   rw [zGP (by rw [bs]; decide),if_pos rfl]
  have cd : (b.put (some 11) (.func (.yield l) #[] #[])).defers = []:=(put_defers ..).trans bd;have cs : (b.put (some 11) (.func (.yield l) #[] #[])).tmps.size = 19:=(zNg ..).trans bs;generalize b.put (some 11) (.func (.yield l) #[] #[]) = c at c0 c1 c3 c11 cd cs
  clear b0 b1 b3 b8 bd bs
  refine zQn tokW (N:=19) 4 (K:=fun σ => σ.env 12 = .s (.int .i64 (j : Int)) ∧ σ.env 15 = .s (.pt (rows.getD ((j : Int).toNat) []))) [0,1,3,11] ?_ (zQ4 (G:=G) [(1,.s (.pt [.sl 4 rows])),(3,.s (.int .i64 (j : Int)))] cd cs (hlt' w1 hw3) (hgl' w1 hw4) rfl (fun p hp => by
   rcases List.mem_cons.1 hp with rfl | hp
   ·dsimp only;rw [c1]
    simp only [AVal]
    exact hrep w1 hw4
   ·obtain rfl:=List.mem_singleton.1 hp;dsimp only;rw [c3]
    simp [AVal,Rep])) rfl ?_
  ·exact ⟨⟨by omega,by omega⟩,rfl,rfl⟩
  intro σ2 G2 β2 d w2 hK hc hs hfr;have d0:=(hfr 0 (by simp)).trans c0;have d1:=(hfr 1 (by simp)).trans c1;have d3:=(hfr 3 (by simp)).trans c3;have d11:=(hfr 11 (by simp)).trans c11;have d12:=hc.env 12;have d15:=hc.env 15;obtain ⟨hgb,_⟩:=hc.back hs;rw [hK.1] at d12;rw [hK.2,hgd] at d15;simp only [AVal,Rep] at d12;have d15:=d15.keep (⟨hgb,fun _ _ => rfl⟩ : Keep G2 G w2 w2)
  simp only [AVal] at d15;obtain ⟨hj2,hw5,hw6⟩:=step i hc hs hj1 hw3 hw4;have dd : d.defers = []:=hc.defers;have ds : d.tmps.size = 19:=hc.size
  clear hc hK hfr hs c0 c1 c3 c11 cd cs hj1 hw3 hw4 hgb
  obtain ⟨r1,r2,r3,r4,rfl⟩:=list4 hr8;refine zQn tokW (N:=19) 1 (K:=fun σ => σ.env 16 = .agg ([r1,r2,r3,r4].map .s)) [0,1,3,11,12] ?_ (zQ4 (G:=G) [(15,.s (.pt [r1,r2,r3,r4]))] dd ds (hlt' w2 hw5) (hgl' w2 hw6) rfl (fun p hp => by
   obtain rfl:=List.mem_singleton.1 hp;dsimp only;simp only [AVal]
   exact d15)) rfl ?_
  ·show _ = _
   rfl
  intro σ3 G3 β3 e w3 hK hc hs hfr;have e0:=(hfr 0 (by simp)).trans d0;have e1:=(hfr 1 (by simp)).trans d1;have e3:=(hfr 3 (by simp)).trans d3;have e11:=(hfr 11 (by simp)).trans d11;have e12:=(hfr 12 (by simp)).trans d12;have e16:=hc.env 16;obtain ⟨hgb,_⟩:=hc.back hs;rw [hK] at e16;have e16:=e16.keep (⟨hgb,fun _ _ => rfl⟩ : Keep G3 G w3 w3)
  obtain ⟨hj3,hw7,hw8⟩:=step i hc hs hj2 hw5 hw6;have ed : e.defers = []:=hc.defers;have es : e.tmps.size = 19:=hc.size
  clear hc hK hfr hs d0 d1 d3 d11 d12 d15 dd ds hj2 hw5 hw6 hgb
  refine zJx rfl ?_;have hYY:=hY i j _ (e.tmps.getD 16 undef) w3 hij hrow hj3 hw7 hw8 (fun β => e16.beta (n:=0) (fun k hk => by cases hk) (zMS _))
  refine zTT (u:=.bool true) (f:=.tmp 11) (x:=.tmp 12) (y:=.tmp 16) (l:=l) rfl e11 (by rw [zKm,zKm,e12]; exact hYY) ?_;rintro ee w4 ⟨rfl,hj4,hw9,hw10⟩
  refine ⟨rfl,?_⟩
  have f0 : (e.put (some 17) (.bool true)).tmps.getD 0 undef = .func (.yield l) #[] #[]:=(zKM (by decide)).trans e0;have f1 : (e.put (some 17) (.bool true)).tmps.getD 1 undef = v:=(zKM (by decide)).trans e1;have f3 : (e.put (some 17) (.bool true)).tmps.getD 3 undef = .int .i64 (j : Int):=(zKM (by decide)).trans e3;have f17 : (e.put (some 17) (.bool true)).tmps.getD 17 undef = .bool true:=by
   simp only [Act.put]
   rw [zGP (by rw [es]; decide),if_pos rfl]
  have fd : (e.put (some 17) (.bool true)).defers = []:=(put_defers ..).trans ed;have fs : (e.put (some 17) (.bool true)).tmps.size = 19:=(zNg ..).trans es;show wpListIn _ _ _ _ _ _ (e.put (some 17) (.bool true)) _;generalize e.put (some 17) (.bool true) = f at f0 f1 f3 f17 fd fs
  clear e0 e1 e3 e11 e12 e16 ed es hj3 hw7 hw8 hYY
  refine zML tokW (N:=19) (K:=fun σ => σ.env 18 = .s (.bool false)) [0,1,3] ?_ (zQ4 (G:=G) [(17,.s (.bool true))] fd fs (hlt' w4 hw9) (hgl' w4 hw10) rfl (fun p hp => by
   obtain rfl:=List.mem_singleton.1 hp;dsimp only;rw [f17]
   simp [AVal,Rep])) rfl ?_
  ·show _ = _
   rfl
  intro σ5 G5 β5 g w5 hK hc hs hfr;have g0:=(hfr 0 (by simp)).trans f0;have g1:=(hfr 1 (by simp)).trans f1;have g3:=(hfr 3 (by simp)).trans f3;have g18:=hc.env 18;rw [hK] at g18;simp only [AVal,Rep] at g18;obtain ⟨hj5,hw11,hw12⟩:=step (i + 1) hc hs hj4 hw9 hw10;have gd : g.defers = []:=hc.defers;have gs : g.tmps.size = 19:=hc.size
  clear hc hK hfr hs f0 f1 f3 f17 fd fs hj4 hw9 hw10
  refine wpIn_cond_false g18 ?_;refine wpIn_skip ?_;refine wpIn_region_lit ?_;refine zML tokW (N:=19) (K:=fun σ => σ.env 3 = .s (.int .i64 (IntKind.i64.wrap ((j : Int) - 1)))) [0,1] ?_ (zQ4 (G:=G) [(3,.s (.int .i64 (j : Int)))] gd gs (hlt' w5 hw11) (hgl' w5 hw12) rfl (fun p hp => by
   obtain rfl:=List.mem_singleton.1 hp;dsimp only;rw [g3]
   simp [AVal,Rep])) rfl ?_
  ·show _ = _
   rfl
  intro σ6 G6 β6 h w6 hK hc hs hfr;have h0':=(hfr 0 (by simp)).trans g0;have h1':=(hfr 1 (by simp)).trans g1;have h3':=hc.env 3;rw [hK] at h3';simp only [AVal,Rep] at h3';rw [wrap64_in (n:=(j : Int) - 1) (by omega) (by omega)] at h3';have hst:=step (i + 1) hc hs hj5 hw11 hw12;refine ⟨⟨i + 1,by omega,hc.defers,hc.size,h0',h1',by rw [h3']; congr 1; omega,hst⟩,?_⟩
  rw [h3',a3]
  show ((j : Int) - 1 + 1).toNat < ((rows.length : Int) - 1 - i + 1).toNat
  omega
 ·have hb:=of_decide_eq_false hb;refine wpIn_exit ?_;obtain rfl : i = rows.length :=(by omega);simp only [Exit.then,Exit.inBlock,if_true]
  exact ⟨bd,_,results_none rfl _ _ _,⟨_,rfl⟩,hj1⟩
def zDD : zAx:=zAG zHJ
theorem zFH : PSound Tryz.prog 46 zDD:=zLh
end Go.Proofs.YtjdhkpdjecegnaaGreatDoor
namespace Go.Abs
variable {c : Cx} {σ : St}
theorem Le.ofA (k : Nat) {e sz : Nat} {rows : List (List AV)} (rs : List (List S)) (hk : σ.hp k = some (.arow e sz rows)) (hs : zFM rows = some rs) : Le c σ (zEo σ k (.row e sz rs)):=by
 unfold Le;intro G β a w hc;obtain ⟨s1,s2,s3⟩:=zMf hs;have hget : ∀ {j o},(zEo σ k (.row e sz rs)).hp j = some o → (j = k ∧ o = .row e sz rs) ∨ (j ≠ k ∧ σ.hp j = some o):=fun {j o} h => by
  simp only [zEo] at h;cases hq : Nat.beq j k with
  | true => rw [hq,cond_true] at h; cases h; exact .inl ⟨Nat.eq_of_beq_eq_true hq,rfl⟩
  | false => rw [hq,cond_false] at h; exact .inr ⟨Nat.ne_of_beq_eq_false hq,h⟩
 have hget' : ∀ {j o},(zEo σ k (.row e sz rs)).hp j = some o → ∃ o',σ.hp j = some o':=fun {j o} h => by
  rcases hget h with ⟨rfl,_⟩ | ⟨_,h⟩
  ·exact ⟨_,hk⟩
  ·exact ⟨_,h⟩
 refine ⟨G,β,{ hc with hp:=fun j o hj => ?_,hplt:=fun j o hj => ?_,inj:=fun j j' o o' hj hj' => (let ⟨_,h1⟩:=hget' hj; let ⟨_,h2⟩:=hget' hj'; hc.inj j j' _ _ h1 h2) }⟩
 ·rcases hget hj with ⟨rfl,rfl⟩ | ⟨_,h⟩
  ·obtain ⟨hlen,hsz,ho⟩:=hc.hp j _ hk;refine ⟨fun r hr => s3 sz hlen r hr,hsz,ho.imp (fun h => ⟨h.1,by have:=h.2; subst this; exact List.length_eq_zero_iff.1 (by simpa using s2.symm)⟩) ?_⟩
   rintro ⟨b,cap,cur,h1,h2,h3,h4,h5,h6,h7⟩
   refine ⟨b,cap,cur,by rw [← s2]; exact h1,by rw [← s2]; exact h2,h3,h4,h5,h6,fun i s hi => ?_⟩
   have hm : (rows.flatten.map AV.sc)[i]? = some (some s) :=(by rw [s1,List.getElem?_map,hi]; rfl);rw [List.getElem?_map] at hm;obtain ⟨x,hx,hxs⟩:=Option.map_eq_some_iff.1 hm;obtain ⟨u,hu,hr,_⟩:=h7 i x hx;exact ⟨u,hu,AV.sc_rep hxs hr⟩
  ·exact hc.hp j o h
 ·rcases hget hj with ⟨rfl,rfl⟩ | ⟨_,h⟩
  ·exact ⟨(hc.hplt j _ hk).1,rfl⟩
  ·exact hc.hplt j o h
theorem zSV : ∀ r : List S,zIR (r.map AV.s) = some r
 | [] => rfl
 | x :: r => by simp [zIR,AV.sc,zSV r]
theorem zJT : ∀ rows : List (List S),zFM (rows.map (·.map AV.s)) = some rows
 | [] => rfl
 | r :: rows => by simp [zFM,zSV r,zJT rows]
theorem zEA : ∀ {a b : List (List AV)} {x y : List (List S)},zFM a = some x → zFM b = some y → zFM (a ++ b) = some (x ++ y)
 | [],b,x,y,h,h' => by
  simp only [zFM,Option.some.injEq] at h;subst h;exact h'
 | r :: a,b,x,y,h,h' => by
  simp only [zFM] at h;split at h
  ·rename_i z zs h1 h2
   cases h;simp [zFM,h1,zEA h2 h']
  ·cases h
theorem zQs {k : Nat} {r : AV} {p : Nat → AV} : ∀ l : List S,AV.frzAll k r p (l.map AV.s) = l.map AV.s
 | [] => rfl
 | x :: l => by simp [AV.frzAll,AV.frz,zQs l]
theorem zIC {k : Nat} {r : AV} {p : Nat → AV} (rows : List (List S)) : (rows.map (·.map AV.s)).map (AV.frzAll k r p) = rows.map (·.map AV.s):=by
 rw [List.map_map]
 exact List.map_congr_left fun l _ => zQs l
end Go.Abs
