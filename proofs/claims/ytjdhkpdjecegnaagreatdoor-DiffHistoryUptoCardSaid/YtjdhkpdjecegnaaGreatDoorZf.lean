/-
  Joined out of: LibN, DzT, MHi, DzH, PTyp9, PCnt, PByte, PText, PVal, PDist, PDump, PFill, PAwk, PCost, PMet, PNode, PRow, PPut, PWith, PWt, PLeast, PLeast2, PEdit1, PEdit2, PEdit3, PEdit4.
-/
import Derived.Lib.ItoaLen
import Derived.Test.YtjdhkpdjecegnaaGreatDoorZe
set_option linter.unusedVariables false
set_option linter.unusedSimpArgs false
set_option maxHeartbeats 2000000
set_option maxRecDepth 100000
namespace Go.Proofs.YtjdhkpdjecegnaaGreatDoor
open Go.Abs
def zI9 (xs : List AV) (r : Ret) : Prop:=∃ rows,xs = [.s (.sl 4 rows)] ∧ r = .val (.clo 68 [.s (.pt [.sl 4 rows])])
set_option maxHeartbeats 600000 in
theorem zMP : PSound Tryz.prog 46 (zAG zI9):=by
 have gok : ∀ f s,look? f [] = some s → PSound Tryz.prog f s:=zAu (by simp)
 refine zAK tokW Tryz.call46 Tryz.func46 rfl (fun xs r h=>by obtain ⟨_,rfl,_⟩:=h; show 1 ≤ 4; decide) 4 rfl ?_;rintro xs r w0 G0 ⟨rows,rfl,rfl⟩ _;refine zAa ?_;refine zAb [] [] rfl ?_;show Tri ..;refine zAa ?_;refine zAb [] [] rfl ?_;show Tri ..;refine zAh ?_;unfold zAA;exact ⟨_,Le.refl _ _,rfl,rfl⟩
theorem zLT (a : Act) (t : Nat) : a.eval (.tmp t) = a.tmps.getD t undef:=rfl
theorem list4 {α : Type} : ∀ {l : List α},l.length = 4 → ∃ a b c d,l = [a,b,c,d]
 | [a,b,c,d],_=>⟨a,b,c,d,rfl⟩
theorem zTo : zHX Tryz.prog 68 4:=by
 intro G w0 v rows hlt hgl hv hrl hlen l J W hsz hk hJ hY h0;have hrep : ∀ w : World,(∀ b,G b → w.heap[b]? = w0.heap[b]?) → Rep G w (.pt [.sl 4 rows]) v:=fun w hw=>hv.keep ⟨fun _ h=>h,hw⟩
 have hlt' : ∀ w : World,w0.heap.size ≤ w.heap.size → ∀ b,G b → b < w.heap.size:=fun w hw b hb=>Nat.lt_of_lt_of_le (hlt b hb) hw
 have hgl' : ∀ w : World,(∀ b,G b → w.heap[b]? = w0.heap[b]?) → GlobOk G w:=fun w hw=>hgl.keep ⟨fun _ h=>h,hw⟩
 have step : ∀ {N : Nat} {G' : Nat → Prop} {β : Nat → Value} {σ : St} {a : Act} {wa wb : World} (i : Nat),Conc (zEw Tryz.prog wa G N) G' β σ a wb → wb.heap.size = wa.heap.size → J i wa → w0.heap.size ≤ wa.heap.size → (∀ b,G b → wa.heap[b]? = w0.heap[b]?) →
   J i wb ∧ w0.heap.size ≤ wb.heap.size ∧ (∀ b,G b → wb.heap[b]? = w0.heap[b]?):=fun {N G' β σ a wa wb} i hc hs hj h1 h2=>by
  obtain ⟨g1,g2⟩:=hc.back hs;exact ⟨hJ i wa wb hj ⟨hc.fr.os,hc.fr.tape,hc.fr.output,hc.fr.size,g2⟩,by rw [hs]; exact h1,fun b hb=>(g2 b (hlt' wa h1 b hb)).trans (h2 b hb)⟩
 let St : Nat → Act → World → Prop:=fun i a w=>a.defers = [] ∧ a.tmps.size = 19 ∧ a.tmps.getD 0 undef = .func (.yield l) #[] #[] ∧ a.tmps.getD 1 undef = v ∧ a.tmps.getD 3 undef = .int .i64 ((rows.length : Int) - 1 - i) ∧ J i w ∧ w0.heap.size ≤ w.heap.size ∧ (∀ b,G b → w.heap[b]? = w0.heap[b]?)
 refine callsIn_of_wp Tryz.func68 rfl trivial ?_;generalize ha : ({ tmps:=#[Value.func (.yield l) #[] #[],v] ++ Array.replicate _ undef,defers:=[] } : Act) = a;have a0 : a.tmps.getD 0 undef = .func (.yield l) #[] #[] :=(by rw [← ha]; rfl);have a1 : a.tmps.getD 1 undef = v :=(by rw [← ha]; rfl);have az : a.tmps.size = 19 :=(by rw [← ha]; rfl);have ad : a.defers = []:=by rw [← ha]
 clear ha
 refine wpIn_seq ?_;refine wpIn_region_lit ?_;refine zHB tokW (N:=19) (K:=fun σ=>σ.env 3 = .s (.int .i64 (IntKind.i64.wrap ((rows.length : Int) - 1)))) [0,1] ?_ (zKY (G:=G) [(1,.s (.pt [.sl 4 rows]))] ad az (hlt' W hsz) (hgl' W hk) rfl (fun p hp=>by
  obtain rfl:=List.mem_singleton.1 hp;dsimp only;rw [a1]
  simp only [AVal]
  exact hrep W hk)) rfl ?_
 ·show _ = _
  rfl
 intro σ1 G1 β1 b w1 hK hc hs hfr;have b0:=(hfr 0 (by simp)).trans a0;have b1:=(hfr 1 (by simp)).trans a1;have b3:=hc.env 3;rw [hK] at b3;simp only [AVal,Rep] at b3;rw [wrap64_in (n:=(rows.length : Int) - 1) (by omega) (by omega)] at b3;have hst:=step 0 hc hs h0 hsz hk;have hS : St 0 b w1:=⟨hc.defers,hc.size,b0,b1,by rw [b3]; congr 1; omega,hst⟩
 clear hst b0 b1 b3 hK hfr hc hs a0 a1 az ad
 refine wpIn_block ?_;refine wpIn_loop (fun a w=>∃ i,i ≤ rows.length ∧ St i a w) (fun a _=>match a.tmps.getD 3 undef with | .int _ z=>(z + 1).toNat | _=>0) ⟨0,Nat.zero_le _,hS⟩ ?_;rintro a w ⟨i,hi,ad,az,a0,a1,a3,hj,hw1,hw2⟩
 refine wpIn_seq ?_;refine wpIn_seq ?_;refine wpIn_region_lit ?_;refine zHB tokW (N:=19) (K:=fun σ=>σ.env 8 = .s (.bool (decide (0 ≤ (rows.length : Int) - 1 - i)))) [0,1,3] ?_ (zKY (G:=G) [(3,.s (.int .i64 ((rows.length : Int) - 1 - i)))] ad az (hlt' w hw1) (hgl' w hw2) rfl (fun p hp=>by
  obtain rfl:=List.mem_singleton.1 hp;dsimp only;rw [a3]
  simp [AVal,Rep])) rfl ?_
 ·show _ = _
  rfl
 intro σ1 G1 β1 b w1 hK hc hs hfr;have b0:=(hfr 0 (by simp)).trans a0;have b1:=(hfr 1 (by simp)).trans a1;have b3:=(hfr 3 (by simp)).trans a3;have b8:=hc.env 8;rw [hK] at b8;simp only [AVal,Rep] at b8;obtain ⟨hj1,hw3,hw4⟩:=step i hc hs hj hw1 hw2;have bd : b.defers = []:=hc.defers;have bs : b.tmps.size = 19:=hc.size
 clear hc hK hfr hs a0 a1 ad az hj hw1 hw2
 refine wpIn_cond_split (t:=decide (0 ≤ (rows.length : Int) - 1 - i)) b8 (fun hb=>?_) (fun hb=>?_)
 ·have hb:=of_decide_eq_true hb;refine wpIn_skip ?_;obtain ⟨j,hij⟩ : ∃ j,i + j + 1 = rows.length:=⟨rows.length - 1 - i,by omega⟩
  have hz : (rows.length : Int) - 1 - i = (j : Int) :=(by omega);rw [hz] at b3;have hjl : j < rows.length :=(by omega);have hrow : rows[j]? = some rows[j]:=List.getElem?_eq_getElem hjl;have hr8:=hrl _ (List.getElem_mem hjl)
  have hgd : rows.getD ((j : Int).toNat) [] = rows[j] :=(by rw [Int.toNat_natCast,List.getD_eq_getElem?_getD,hrow]; rfl);generalize rows[j] = row at hrow hr8 hgd;refine wpIn_seq ?_;refine wpIn_block ?_;refine wpIn_seq ?_;refine wpIn_region_lit ?_;refine zF9 rfl ?_;refine zUa (ro:=none) (K:=fun a' w'=>a' = b.put (some 11) (.func (.yield l) #[] #[]) ∧ w' = w1) (by intro c e; cases e) ?_ (zBb (v:=.func (.yield l) #[] #[]) (w':=w1) (by simp [execOp,zLT,b0]) ⟨rfl,rfl⟩)
  rintro a' w' ⟨ha',hw'⟩
  rw [ha',hw']
  clear ha' hw' a' w'
  have c0 : (b.put (some 11) (.func (.yield l) #[] #[])).tmps.getD 0 undef = .func (.yield l) #[] #[]:=(zGM (by decide)).trans b0;have c1 : (b.put (some 11) (.func (.yield l) #[] #[])).tmps.getD 1 undef = v:=(zGM (by decide)).trans b1;have c3 : (b.put (some 11) (.func (.yield l) #[] #[])).tmps.getD 3 undef = .int .i64 (j : Int):=(zGM (by decide)).trans b3;have c11 : (b.put (some 11) (.func (.yield l) #[] #[])).tmps.getD 11 undef = .func (.yield l) #[] #[]:=by
   simp only [Act.put]
   rw [zF5 (by rw [bs]; decide),if_pos rfl]
  have cd : (b.put (some 11) (.func (.yield l) #[] #[])).defers = []:=(put_defers ..).trans bd;have cs : (b.put (some 11) (.func (.yield l) #[] #[])).tmps.size = 19:=(zJO ..).trans bs;generalize b.put (some 11) (.func (.yield l) #[] #[]) = c at c0 c1 c3 c11 cd cs
  clear b0 b1 b3 b8 bd bs
  refine zLa tokW (N:=19) 4 (K:=fun σ=>σ.env 12 = .s (.int .i64 (j : Int)) ∧ σ.env 15 = .s (.pt (rows.getD ((j : Int).toNat) []))) [0,1,3,11] ?_ (zKY (G:=G) [(1,.s (.pt [.sl 4 rows])),(3,.s (.int .i64 (j : Int)))] cd cs (hlt' w1 hw3) (hgl' w1 hw4) rfl (fun p hp=>by
   rcases List.mem_cons.1 hp with rfl | hp
   ·dsimp only;rw [c1]
    simp only [AVal]
    exact hrep w1 hw4
   ·obtain rfl:=List.mem_singleton.1 hp;dsimp only;rw [c3]
    simp [AVal,Rep])) rfl ?_
  ·exact ⟨⟨by omega,by omega⟩,rfl,rfl⟩
  intro σ2 G2 β2 d w2 hK hc hs hfr;have d0:=(hfr 0 (by simp)).trans c0;have d1:=(hfr 1 (by simp)).trans c1;have d3:=(hfr 3 (by simp)).trans c3;have d11:=(hfr 11 (by simp)).trans c11;have d12:=hc.env 12;have d15:=hc.env 15;obtain ⟨hgb,_⟩:=hc.back hs;rw [hK.1] at d12;rw [hK.2,hgd] at d15;simp only [AVal,Rep] at d12;have d15:=d15.keep (⟨hgb,fun _ _=>rfl⟩ : Keep G2 G w2 w2)
  simp only [AVal] at d15;obtain ⟨hj2,hw5,hw6⟩:=step i hc hs hj1 hw3 hw4;have dd : d.defers = []:=hc.defers;have ds : d.tmps.size = 19:=hc.size
  clear hc hK hfr hs c0 c1 c3 c11 cd cs hj1 hw3 hw4 hgb
  obtain ⟨r1,r2,r3,r4,rfl⟩:=list4 hr8;refine zLa tokW (N:=19) 1 (K:=fun σ=>σ.env 16 = .agg ([r1,r2,r3,r4].map .s)) [0,1,3,11,12] ?_ (zKY (G:=G) [(15,.s (.pt [r1,r2,r3,r4]))] dd ds (hlt' w2 hw5) (hgl' w2 hw6) rfl (fun p hp=>by
   obtain rfl:=List.mem_singleton.1 hp;dsimp only;simp only [AVal]
   exact d15)) rfl ?_
  ·show _ = _
   rfl
  intro σ3 G3 β3 e w3 hK hc hs hfr;have e0:=(hfr 0 (by simp)).trans d0;have e1:=(hfr 1 (by simp)).trans d1;have e3:=(hfr 3 (by simp)).trans d3;have e11:=(hfr 11 (by simp)).trans d11;have e12:=(hfr 12 (by simp)).trans d12;have e16:=hc.env 16;obtain ⟨hgb,_⟩:=hc.back hs;rw [hK] at e16;have e16:=e16.keep (⟨hgb,fun _ _=>rfl⟩ : Keep G3 G w3 w3)
  obtain ⟨hj3,hw7,hw8⟩:=step i hc hs hj2 hw5 hw6;have ed : e.defers = []:=hc.defers;have es : e.tmps.size = 19:=hc.size
  clear hc hK hfr hs d0 d1 d3 d11 d12 d15 dd ds hj2 hw5 hw6 hgb
  refine zF9 rfl ?_;have hYY:=hY i j _ (e.tmps.getD 16 undef) w3 hij hrow hj3 hw7 hw8 (fun β=>e16.beta (n:=0) (fun k hk=>by cases hk) (zL0 _))
  refine zSD (u:=.bool true) (f:=.tmp 11) (x:=.tmp 12) (y:=.tmp 16) (l:=l) rfl e11 (by rw [zLT,zLT,e12]; exact hYY) ?_;rintro ee w4 ⟨rfl,hj4,hw9,hw10⟩
  refine ⟨rfl,?_⟩
  have f0 : (e.put (some 17) (.bool true)).tmps.getD 0 undef = .func (.yield l) #[] #[]:=(zGM (by decide)).trans e0;have f1 : (e.put (some 17) (.bool true)).tmps.getD 1 undef = v:=(zGM (by decide)).trans e1;have f3 : (e.put (some 17) (.bool true)).tmps.getD 3 undef = .int .i64 (j : Int):=(zGM (by decide)).trans e3;have f17 : (e.put (some 17) (.bool true)).tmps.getD 17 undef = .bool true:=by
   simp only [Act.put]
   rw [zF5 (by rw [es]; decide),if_pos rfl]
  have fd : (e.put (some 17) (.bool true)).defers = []:=(put_defers ..).trans ed;have fs : (e.put (some 17) (.bool true)).tmps.size = 19:=(zJO ..).trans es;show wpListIn _ _ _ _ _ _ (e.put (some 17) (.bool true)) _;generalize e.put (some 17) (.bool true) = f at f0 f1 f3 f17 fd fs
  clear e0 e1 e3 e11 e12 e16 ed es hj3 hw7 hw8 hYY
  refine zHB tokW (N:=19) (K:=fun σ=>σ.env 18 = .s (.bool false)) [0,1,3] ?_ (zKY (G:=G) [(17,.s (.bool true))] fd fs (hlt' w4 hw9) (hgl' w4 hw10) rfl (fun p hp=>by
   obtain rfl:=List.mem_singleton.1 hp;dsimp only;rw [f17]
   simp [AVal,Rep])) rfl ?_
  ·show _ = _
   rfl
  intro σ5 G5 β5 g w5 hK hc hs hfr;have g0:=(hfr 0 (by simp)).trans f0;have g1:=(hfr 1 (by simp)).trans f1;have g3:=(hfr 3 (by simp)).trans f3;have g18:=hc.env 18;rw [hK] at g18;simp only [AVal,Rep] at g18;obtain ⟨hj5,hw11,hw12⟩:=step (i + 1) hc hs hj4 hw9 hw10;have gd : g.defers = []:=hc.defers;have gs : g.tmps.size = 19:=hc.size
  clear hc hK hfr hs f0 f1 f3 f17 fd fs hj4 hw9 hw10
  refine wpIn_cond_false g18 ?_;refine wpIn_skip ?_;refine wpIn_region_lit ?_;refine zHB tokW (N:=19) (K:=fun σ=>σ.env 3 = .s (.int .i64 (IntKind.i64.wrap ((j : Int) - 1)))) [0,1] ?_ (zKY (G:=G) [(3,.s (.int .i64 (j : Int)))] gd gs (hlt' w5 hw11) (hgl' w5 hw12) rfl (fun p hp=>by
   obtain rfl:=List.mem_singleton.1 hp;dsimp only;rw [g3]
   simp [AVal,Rep])) rfl ?_
  ·show _ = _
   rfl
  intro σ6 G6 β6 h w6 hK hc hs hfr;have h0':=(hfr 0 (by simp)).trans g0;have h1':=(hfr 1 (by simp)).trans g1;have h3':=hc.env 3;rw [hK] at h3';simp only [AVal,Rep] at h3';rw [wrap64_in (n:=(j : Int) - 1) (by omega) (by omega)] at h3';have hst:=step (i + 1) hc hs hj5 hw11 hw12;refine ⟨⟨i + 1,by omega,hc.defers,hc.size,h0',h1',by rw [h3']; congr 1; omega,hst⟩,?_⟩
  rw [h3',a3]
  show ((j : Int) - 1 + 1).toNat < ((rows.length : Int) - 1 - i + 1).toNat
  omega
 ·have hb:=of_decide_eq_false hb;refine wpIn_exit ?_;obtain rfl : i = rows.length :=(by omega);simp only [Exit.then,Exit.inBlock,if_true]
  exact ⟨bd,_,results_none rfl _ _ _,⟨_,rfl⟩,hj1⟩
def zEf : zAt:=zAG zI9
theorem zGH : PSound Tryz.prog 46 zEf:=zMP
end Go.Proofs.YtjdhkpdjecegnaaGreatDoor
namespace Go.Proofs.YtjdhkpdjecegnaaGreatDoor
open Go.Abs
def zIe (n : Nat) (xs : List AV) (r : Ret) : Prop:=∃ (a0 : List (List Int)) (y0 : List Int),zBn n a0 = some y0 ∧ xs = [.s (.sl 1 ((List.map zAw) a0))] ∧ r = .row 3 1 ((List.map (irow .i64)) y0)
def zDK : zAt:=zAG fun xs r=>∃ n,zIe n xs r
theorem zE2 : PSound Tryz.prog 47 zDK:=by
 have gok : ∀ f s,look? f [(69,zF1)] = some s → PSound Tryz.prog f s:=zAu (by
  simp only [List.forall_mem_cons]
  exact ⟨zIZ,by simp⟩)
 refine zAK tokW Tryz.call47 Tryz.func47 rfl (fun xs r h=>by obtain ⟨n,_,_,_,rfl,_⟩:=h; show 1 ≤ 36; decide) 36 rfl ?_;rintro xs r w0 G0 ⟨n,slices1,y0,h,rfl,rfl⟩ _;rw [zBn] at h;refine zAa ?_;refine zAb [2] [] rfl ?_;show Tri ..;refine zAj (Le.rnm [] [(0,.s (.sl 1 ((List.map zAw) slices1)))] [] 0 ⟨rfl,trivial⟩ trivial) ?_;refine zAa ?_;refine zAb [] [] rfl ?_;show Tri ..;refine zAa ?_;refine zAa ?_;refine zAb [] [10] rfl ?_;intro n2 hn2;obtain rfl : (slices1.length : Int) = n2:=(hn2.trans (congrArg (fun m : Nat=>(m : Int)) (rlen (fun _=>rfl) slices1))).symm;show Tri ..
 obtain ⟨size5,hl,h⟩:=zAc h;refine zAr ⟨ofL [(0,.s (.sl 1 ((List.map zAw) slices1))),(3,.s (.int .i64 size5))],fun _=>none,0⟩ ?_ (fun σ' hle=>?_)
 ·refine zAl (zAI (X:=Nat × Int × Int) (fun y=>match y with | (k,x3,size4)=>⟨ofL [(0,.s (.sl 1 ((List.map zAw) slices1))),(3,.s (.int .i64 size4)),(9,.s (.sl 1 ((List.map zAw) slices1))),(10,.s (.int .i64 (slices1.length : Int))),(11,.s (.int .i64 x3))],fun _=>none,0⟩) (fun y=>zAS slices1 y.1 y.2.1 y.2.2 = some size5) (fun y=>y.1) (n,0,0) hl ?_ ?_)
  ·exact (Le.forget _ ⟨rfl,rfl,rfl,rfl,rfl,trivial⟩)
  ·rintro ⟨k,x3,size4⟩ h;cases k with
   | zero=>cases h
   | succ k =>
    replace h : zAS slices1 (k+1) x3 size4 = some size5:=h;rw [zAS] at h;refine zAa ?_;refine zAb [] [] rfl ?_;show Tri ..;refine zAa ?_;refine zAd rfl (fun hb=>?_) (fun hb=>?_)
    ·replace h:=zAn hb h;refine zAg ?_;show Tri ..;refine zAa ?_;refine zAl ?_;refine zAa ?_;refine zAb [] [13] rfl ?_;obtain ⟨e6,he6,h⟩:=zAc h;refine And.intro (zAC (fun _=>rfl) he6).1 ?_;intro r7 hr7;obtain rfl : [.sl 1 ((List.map (irow .i64)) e6)] = r7:=(hr7.trans (zAC (fun _=>rfl) he6).2.1).symm;show Tri ..;refine zAa ?_;refine zAb [] [17] rfl ?_;intro n8 hn8;obtain rfl : (e6.length : Int) = n8:=(hn8.trans (congrArg (fun m : Nat=>(m : Int)) (rlen (fun _=>rfl) e6))).symm;show Tri ..;refine zAa ?_;refine zAb [] [] rfl ?_;show Tri ..;refine zAd rfl (fun hb=>?_) (fun hb=>?_)
     ·replace h:=zAn hb h;cases h
     ·replace h:=zAm hb h;refine zAg ?_;show Tri ..;refine zAb [] [] rfl ?_;refine ⟨(k,IntKind.i64.wrap (x3 + 1),IntKind.i64.wrap (size4 + (e6.length : Int))),h,(Le.forget _ ⟨rfl,rfl,rfl,rfl,rfl,trivial⟩),Nat.lt_succ_self k⟩
    ·replace h:=zAm hb h;refine zAM ?_;cases h;exact (Le.forget _ ⟨rfl,rfl,trivial⟩)
 ·show Tri ..;refine zAj hle ?_;refine zAa ?_;refine zAb [24] [] rfl ?_;obtain ⟨y9,hy9,h⟩:=zAc h;refine ⟨_,⟨_,_,hy9,rfl,rfl⟩,?_⟩
  show Tri ..;refine zAa ?_;refine zAa ?_;refine zAb [] [26] rfl ?_;intro n10 hn10;obtain rfl : (slices1.length : Int) = n10:=(hn10.trans (congrArg (fun m : Nat=>(m : Int)) (rlen (fun _=>rfl) slices1))).symm;show Tri ..;obtain ⟨l14,hl,h⟩:=zAc h;refine zAr ⟨ofL [(6,.orow 0)],ofH [(0,.row 3 1 ((List.map (irow .i64)) l14))],1⟩ ?_ (fun σ' hle=>?_)
  ·refine zAl (zAI (X:=Nat × Int × (List Int)) (fun y=>match y with | (k,x11,l13)=>⟨ofL [(6,.orow 0),(25,.s (.sl 1 ((List.map zAw) slices1))),(26,.s (.int .i64 (slices1.length : Int))),(27,.s (.int .i64 x11))],ofH [(0,.row 3 1 ((List.map (irow .i64)) l13))],1⟩) (fun y=>zAT slices1 y.1 y.2.1 y.2.2 = some l14) (fun y=>y.1) (n,0,y9) hl ?_ ?_)
   ·exact (Le.rnm [(0,0)] _ _ _ ⟨rfl,rfl,rfl,rfl,trivial⟩ ⟨rfl,⟨_,rfl,rfl⟩,trivial⟩)
   ·rintro ⟨k,x11,l13⟩ h;cases k with
    | zero=>cases h
    | succ k =>
     replace h : zAT slices1 (k+1) x11 l13 = some l14:=h;rw [zAT] at h;refine zAa ?_;refine zAb [] [] rfl ?_;show Tri ..;refine zAa ?_;refine zAd rfl (fun hb=>?_) (fun hb=>?_)
     ·replace h:=zAn hb h;refine zAg ?_;show Tri ..;refine zAa ?_;refine zAl ?_;refine zAa ?_;refine zAb [] [29] rfl ?_;obtain ⟨e15,he15,h⟩:=zAc h;refine And.intro (zAC (fun _=>rfl) he15).1 ?_;intro r16 hr16;obtain rfl : [.sl 1 ((List.map (irow .i64)) e15)] = r16:=(hr16.trans (zAC (fun _=>rfl) he15).2.1).symm;show Tri ..;refine zAb [33] [] rfl ?_;obtain ⟨hq,h⟩:=zAR h
      refine And.intro (show (((List.map (irow .i64)) l13).length + ((List.map (irow .i64)) e15).length) * 8 ≤ 140737488355328 ∧ ((List.map (irow .i64)) l13).length + ((List.map (irow .i64)) e15).length ≤ 9223372036854775807 from by simp only [List.length_append,List.length_cons,List.length_nil,List.length_map,rlen (fun _=>rfl)] at hq ⊢; omega) ?_;show Tri ..
      refine zAj (Le.rnm [(1,0)] [(6,.orow 0),(25,.s (.sl 1 ((List.map zAw) slices1))),(26,.s (.int .i64 (slices1.length : Int))),(27,.s (.int .i64 x11))] [(0,.row 3 1 ((List.map (irow .i64)) (l13 ++ e15)))] 1 ⟨rfl,rfl,rfl,rfl,trivial⟩ ⟨rfl,⟨_,rfl,congrArg (Ob.row 3 1) (by simp [List.map_append,List.map_take,List.map_drop,irow,brow,zAQ,List.map_cons,List.map_nil,zAJ,Nd.encs_eq,Nd.enc,zAq,zAo,zAp,zAv,zAw,zAs,zAy,zAi,zAN,zAD,zAz])⟩,trivial⟩) ?_;refine zAb [] [] rfl ?_
      refine ⟨(k,IntKind.i64.wrap (x11 + 1),l13 ++ e15),h,(Le.rnm [(0,0)] _ _ _ ⟨rfl,rfl,rfl,rfl,trivial⟩ ⟨rfl,⟨_,rfl,rfl⟩,trivial⟩),Nat.lt_succ_self k⟩
     ·replace h:=zAm hb h;refine zAM ?_;cases h;exact (Le.rnm [(0,0)] _ _ _ ⟨rfl,trivial⟩ ⟨rfl,⟨_,rfl,rfl⟩,trivial⟩)
  ·show Tri ..;refine zAj hle ?_;refine zAa ?_;refine zAb [] [] rfl ?_;show Tri ..;refine zAh ?_;have hy:=Option.some.inj h;subst hy;unfold zAA;exact ⟨_,Le.refl _ _,0,rfl,rfl⟩
def zPb (n : Nat) (xs : List AV) (os : List Ob) (x : AV) (os' : List (Option Ob)) : Prop:=∃ (a0 : zO8) (a1 : List zO8) (z0 : List zO8),zCO n a0 a1 = some z0 ∧ xs = [.agg ((zAi a0).map .s),.op 0 0] ∧ os = [.box 27 [.orow 1],.row 54 8 ((List.map zAi) a1)] ∧ x = .tup [] ∧ os' = [some (.box 27 [.orow 2]),none,some (.row 54 8 ((List.map zAi) z0))]
def zHp : zAt:=zB6 (fun xs os x os'=>∃ n,zPb n xs os x os')
theorem zJC : PSound Tryz.prog 23 zHp:=by
 have gok : ∀ f s,look? f [(24,zJh)] = some s → PSound Tryz.prog f s:=zAu (by
  simp only [List.forall_mem_cons]
  exact ⟨zKa,by simp⟩)
 refine PSound.withNil (zFL tokW Tryz.call23 Tryz.func23 rfl (fun xs os x os' h=>by obtain ⟨n,_,_,_,_,rfl,rfl,_,rfl⟩:=h; exact ⟨by show 2 ≤ 8; decide,by show 2 ≤ 3; decide⟩) 8 rfl ?_) _;rintro xs os x os' w0 G0 B0 ⟨n,⟨op1A,op1W,op1Y,op1U,op1E,op1V,op1T,op1C⟩,o2,z0,h,rfl,rfl,rfl,rfl⟩ _;rw [zCO] at h;refine zAa ?_;refine zAb [] [] rfl ?_;show Tri ..;refine zAB (by exact tokW) (by exact gok) (by exact mixed) [7] [6] [0,4,5] rfl (by decide +kernel) ?_;obtain ⟨⟨y3A,y3W,y3Y,y3U,y3E,y3V,y3T,y3C⟩,hy3,h⟩:=zAc h;refine ⟨_,⟨_,_,_,hy3,rfl,rfl⟩,?_⟩
 intro r4 hr4;obtain rfl : (List.map zAi) [(y3A,y3W,y3Y,y3U,y3E,y3V,y3T,y3C)] = r4:=(hr4.trans (by simp [List.map_append,List.map_take,List.map_drop,irow,brow,zAQ,List.map_cons,List.map_nil,zAJ,Nd.encs_eq,Nd.enc,zAq,zAo,zAp,zAv,zAw,zAs,zAy,zAi,zAN,zAD,zAz])).symm;obtain ⟨hq,h⟩:=zAR h
 refine And.intro (show (((List.map zAi) o2).length + ((List.map zAi) [(y3A,y3W,y3Y,y3U,y3E,y3V,y3T,y3C)]).length) * 112 ≤ 140737488355328 ∧ ((List.map zAi) o2).length + ((List.map zAi) [(y3A,y3W,y3Y,y3U,y3E,y3V,y3T,y3C)]).length ≤ 9223372036854775807 from by simp only [List.length_append,List.length_cons,List.length_nil,List.length_map,rlen (fun _=>rfl)] at hq ⊢; omega) ?_;have hy:=Option.some.inj h;subst hy;unfold zBV
 exact ⟨_,(Le.trans (Le.rnm [(0,0),(2,2)] [] [(0,.box 27 [.orow 2]),(2,.row 54 8 ((List.map zAi) (o2 ++ [(y3A,y3W,y3Y,y3U,y3E,y3V,y3T,y3C)])))] 3 trivial ⟨rfl,⟨_,rfl,rfl⟩,rfl,⟨_,rfl,congrArg (Ob.row 54 8) (by simp [List.map_append,List.map_take,List.map_drop,irow,brow,zAQ,List.map_cons,List.map_nil,zAJ,Nd.encs_eq,Nd.enc,zAq,zAo,zAp,zAv,zAw,zAs,zAy,zAi,zAN,zAD,zAz])⟩,trivial⟩) (Le.rnm [(0,0),(2,2)] [] [(0,.box 27 [.orow 2]),(2,.row 54 8 ((List.map zAi) (o2 ++ [(y3A,y3W,y3Y,y3U,y3E,y3V,y3T,y3C)])))] 3 trivial ⟨rfl,⟨_,rfl,rfl⟩,rfl,⟨_,rfl,rfl⟩,trivial⟩)),rfl,rfl,rfl,rfl,rfl,rfl,trivial⟩
def zCE (n : Nat) (xs : List AV) (os : List Ob) (x : AV) (os' : List (Option Ob)) : Prop:=∃ (a0 : List Nd) (a1 : List Nd) (a2 : List Int) (a3 : List zO8) (z0 : List zO8),zA3 n a0 a1 a2 a3 = some z0 ∧ xs = [.s (.sl 4 (Nd.encs a0)),.s (.sl 4 (Nd.encs a1)),.s (.sl 1 ((List.map (irow .i64)) a2)),.clo 23 [.op 0 0]] ∧ os = [.box 27 [.orow 1],.row 54 8 ((List.map zAi) a3)] ∧ x = .tup [] ∧ os' = [some (.box 27 [.orow 2]),none,some (.row 54 8 ((List.map zAi) z0))]
theorem zIm (n : Nat) (ih : PSound Tryz.prog 26 (zB6 (zCE n))) : PSound Tryz.prog 26 (zB6 (zCE (n + 1))):=by
 have gok : ∀ f s,look? f [(45,zHq),(23,zHp),(47,zDK),(26,zB6 (zCE n))] = some s → PSound Tryz.prog f s:=zAu (by
  simp only [List.forall_mem_cons]
  exact ⟨zJD,zJC,zE2,ih,by simp⟩)
 refine PSound.withNil (zFL tokW Tryz.call26 Tryz.func26 rfl (fun xs os x os' h=>by obtain ⟨_,_,_,_,_,_,rfl,rfl,_,rfl⟩:=h; exact ⟨by show 4 ≤ 92; decide,by show 2 ≤ 3; decide⟩) 92 rfl ?_) _;rintro xs os x os' w0 G0 B0 ⟨a1,a2,a3,o4,z0,h,rfl,rfl,rfl,rfl⟩ _;rw [zA3] at h;refine zAa ?_;refine zAb [] [] rfl ?_;obtain ⟨y5,hy5,h⟩:=zAc h;refine ⟨_,⟨_,_,_,_,hy5,rfl,rfl⟩,?_⟩
 show Tri ..;refine zAa ?_;refine zAb [] [17] rfl ?_;intro n6 hn6;obtain rfl : (a2.length : Int) = n6:=(hn6.trans (congrArg (fun m : Nat=>(m : Int)) (rlen Nd.encs_eq a2))).symm;show Tri ..;obtain ⟨l11,hl,h⟩:=zAc h;refine zAr ⟨ofL [],ofH [(0,.box 27 [.orow 2]),(2,.row 54 8 ((List.map zAi) l11))],3⟩ ?_ (fun σ' hle=>?_)
 ·refine zAl (zAI (X:=Nat × Int × (List (Int × Int)) × (List zO8)) (fun y=>match y with | (k,x8,x9,l10)=>⟨ofL [(0,.s (.sl 4 (Nd.encs a1))),(2,.s (.sl 1 ((List.map (irow .i64)) a3))),(3,.clo 23 [.op 0 0]),(8,.s (.sl 2 ((List.map zAy) x9))),(16,.s (.sl 4 (Nd.encs a2))),(17,.s (.int .i64 (a2.length : Int))),(18,.s (.int .i64 x8))],ofH [(0,.box 27 [.orow 2]),(2,.row 54 8 ((List.map zAi) l10))],3⟩) (fun y=>zBk (zA3 n) n a1 a2 a3 y.1 y.2.1 y.2.2.1 y.2.2.2 = some l11) (fun y=>y.1) (n,0,y5,o4) hl ?_ ?_)
  ·exact (Le.rnm [(0,0),(1,2)] _ _ _ ⟨rfl,rfl,rfl,rfl,rfl,rfl,rfl,trivial⟩ ⟨rfl,⟨_,rfl,rfl⟩,rfl,⟨_,rfl,rfl⟩,trivial⟩)
  ·rintro ⟨k,x8,x9,l10⟩ h;cases k with
   | zero=>cases h
   | succ k =>
    replace h : zBk (zA3 n) n a1 a2 a3 (k+1) x8 x9 l10 = some l11:=h;rw [zBk] at h;refine zAa ?_;refine zAb [] [] rfl ?_;show Tri ..;refine zAa ?_;refine zAd rfl (fun hb=>?_) (fun hb=>?_)
    ·replace h:=zAn hb h;refine zAg ?_;show Tri ..;refine zAa ?_;obtain ⟨⟨x12,l13⟩,hj,h⟩:=zAc h;refine zAr ⟨ofL [(0,.s (.sl 4 (Nd.encs a1))),(2,.s (.sl 1 ((List.map (irow .i64)) a3))),(3,.clo 23 [.op 0 0]),(8,.s (.sl 2 ((List.map zAy) x12))),(16,.s (.sl 4 (Nd.encs a2))),(17,.s (.int .i64 (a2.length : Int))),(18,.s (.int .i64 x8))],ofH [(0,.box 27 [.orow 2]),(2,.row 54 8 ((List.map zAi) l13))],3⟩ ?_ (fun σ' hle=>?_)
     ·replace h:=hj;refine zAl ?_;refine zAa ?_;refine zAb [10] [21] rfl ?_;obtain ⟨⟨e14A,e14C,e14D,e14B⟩,he14,h⟩:=zAc h;refine And.intro (zAC Nd.encs_eq he14).1 ?_;intro r15 hr15;obtain rfl : [.int .i64 e14A,.str e14C,.int .i64 e14D,.sl 4 (Nd.encs e14B)] = r15:=(hr15.trans (zAC Nd.encs_eq he14).2.1).symm;show Tri ..;refine zAj (Le.giveBox 3 [.int .i64 e14A,.str e14C,.int .i64 e14D,.sl 4 (Nd.encs e14B)] rfl rfl) ?_;refine zAa ?_;refine zAa ?_;obtain ⟨x16,hj,h⟩:=zAc h
      refine zAr ⟨ofL [(0,.s (.sl 4 (Nd.encs a1))),(2,.s (.sl 1 ((List.map (irow .i64)) a3))),(3,.clo 23 [.op 0 0]),(8,.s (.sl 2 ((List.map zAy) x9))),(9,.s (.int .i64 x8)),(10,.s (.pt [.int .i64 e14A,.str e14C,.int .i64 e14D,.sl 4 (Nd.encs e14B)])),(16,.s (.sl 4 (Nd.encs a2))),(17,.s (.int .i64 (a2.length : Int))),(18,.s (.int .i64 x8)),(33,.s (.bool x16))],ofH [(0,.box 27 [.orow 2]),(2,.row 54 8 ((List.map zAi) l10))],3⟩ ?_ (fun σ' hle=>?_)
      ·replace h:=hj;refine zAb [] [24,26,28] rfl ?_;intro n17 hn17;obtain rfl : (x9.length : Int) = n17:=(hn17.trans (congrArg (fun m : Nat=>(m : Int)) (rlen (fun _=>rfl) x9))).symm;intro b hb;cases b with
       | true =>
        replace h:=zAn hb.symm h;cases h;exact (Le.rnm [(0,0),(2,2)] _ _ _ ⟨rfl,rfl,rfl,rfl,rfl,rfl,rfl,rfl,rfl,rfl,trivial⟩ ⟨rfl,⟨_,rfl,rfl⟩,rfl,⟨_,rfl,rfl⟩,trivial⟩)
       | false =>
        replace h:=zAm hb.symm h;obtain ⟨⟨e18H,e18I⟩,he18,h⟩:=zAc h;refine And.intro (zAC (fun _=>rfl) he18).1 ?_;intro r19 hr19;obtain rfl : [.int .i64 e18H,.int .i64 e18I] = r19:=(hr19.trans (zAC (fun _=>rfl) he18).2.1).symm;refine And.intro (by decide) ?_;cases h;exact (Le.rnm [(0,0),(2,2)] _ _ _ ⟨rfl,rfl,rfl,rfl,rfl,rfl,rfl,rfl,rfl,rfl,trivial⟩ ⟨rfl,⟨_,rfl,rfl⟩,rfl,⟨_,rfl,rfl⟩,trivial⟩)
      ·show Tri ..;refine zAj hle ?_;refine zAd rfl (fun hb=>?_) (fun hb=>?_)
       ·replace h:=zAn hb h;refine zAa ?_;refine zAb [] [38] rfl ?_;intro r20 hr20;obtain rfl : Nd.encs [Nd.mk e14A e14C e14D e14B] = r20:=(hr20.trans (by simp [List.map_append,List.map_take,List.map_drop,irow,brow,zAQ,List.map_cons,List.map_nil,zAJ,Nd.encs_eq,Nd.enc,zAq,zAo,zAp,zAv,zAw,zAs,zAy,zAi,zAN,zAD,zAz])).symm;obtain ⟨w21,hw21,h⟩:=zAc h;refine ⟨_,_,⟨_,_,_,_,hw21,rfl,rfl,rfl,rfl⟩,?_⟩
        show Tri ..;refine zAM ?_;cases h;exact (Le.rnm [(0,0),(3,2)] _ _ _ ⟨rfl,rfl,rfl,rfl,rfl,rfl,rfl,trivial⟩ ⟨rfl,⟨_,rfl,rfl⟩,rfl,⟨_,rfl,rfl⟩,trivial⟩)
       ·replace h:=zAm hb h;refine zAg ?_;show Tri ..;refine zAa ?_;refine zAb [11] [43,46] rfl ?_;obtain ⟨⟨e22H,e22I⟩,he22,h⟩:=zAc h;refine And.intro (zAC (fun _=>rfl) he22).1 ?_;intro r23 hr23;obtain rfl : [.int .i64 e22H,.int .i64 e22I] = r23:=(hr23.trans (zAC (fun _=>rfl) he22).2.1).symm;refine And.intro (by decide) ?_;obtain ⟨⟨e24A,e24C,e24D,e24B⟩,he24,h⟩:=zAc h;refine And.intro (zAC Nd.encs_eq he24).1 ?_;intro r25 hr25;obtain rfl : [.int .i64 e24A,.str e24C,.int .i64 e24D,.sl 4 (Nd.encs e24B)] = r25:=(hr25.trans (zAC Nd.encs_eq he24).2.1).symm;show Tri ..
        refine zAj (Le.giveBox 3 [.int .i64 e24A,.str e24C,.int .i64 e24D,.sl 4 (Nd.encs e24B)] rfl rfl) ?_;refine zAa ?_;refine zAb [] [49] rfl ?_;obtain ⟨hq,h⟩:=zAR h;refine And.intro ⟨hq.1,Int.le_trans hq.2.1 (Int.ofNat_le.2 (Nat.le_of_eq (rlen (fun _=>rfl) _).symm)),Int.le_refl _⟩ ?_;intro r26 hr26;obtain rfl : (List.map zAy) ((x9.take (x9.length : Int).toNat).drop (1 : Int).toNat) = r26:=(hr26.trans ((congrArg (fun m : Nat=>(((List.map zAy) x9).take m).drop (1 : Int).toNat) (rlen (fun _=>rfl) _)).trans (rcut (fun _=>rfl) _ _ _))).symm;show Tri ..;refine zAa ?_;refine zAa ?_;refine zAb [] [] rfl ?_
        show Tri ..;obtain ⟨l27,hj,h⟩:=zAc h;refine zAr ⟨ofL [(0,.s (.sl 4 (Nd.encs a1))),(2,.s (.sl 1 ((List.map (irow .i64)) a3))),(3,.clo 23 [.op 0 0]),(8,.s (.sl 2 ((List.map zAy) ((x9.take (x9.length : Int).toNat).drop (1 : Int).toNat)))),(9,.s (.int .i64 x8)),(10,.s (.pt [.int .i64 e14A,.str e14C,.int .i64 e14D,.sl 4 (Nd.encs e14B)])),(11,.s (.pt [.int .i64 e24A,.str e24C,.int .i64 e24D,.sl 4 (Nd.encs e24B)])),(16,.s (.sl 4 (Nd.encs a2))),(17,.s (.int .i64 (a2.length : Int))),(18,.s (.int .i64 x8))],ofH [(0,.box 27 [.orow 2]),(2,.row 54 8 ((List.map zAi) l27))],3⟩ ?_ (fun σ' hle=>?_)
        ·replace h:=hj;refine zAd rfl (fun hb=>?_) (fun hb=>?_)
         ·replace h:=zAn hb h;refine zAb [] [] rfl ?_;obtain ⟨w28,hw28,h⟩:=zAc h;refine ⟨_,_,⟨_,_,_,_,hw28,rfl,rfl,rfl,rfl⟩,?_⟩
          cases h;exact (Le.rnm [(0,0),(4,2)] _ _ _ ⟨rfl,rfl,rfl,rfl,rfl,rfl,rfl,rfl,rfl,rfl,trivial⟩ ⟨rfl,⟨_,rfl,rfl⟩,rfl,⟨_,rfl,rfl⟩,trivial⟩)
         ·replace h:=zAm hb h;refine zAg ?_;cases h;exact (Le.rnm [(0,0),(2,2)] _ _ _ ⟨rfl,rfl,rfl,rfl,rfl,rfl,rfl,rfl,rfl,rfl,trivial⟩ ⟨rfl,⟨_,rfl,rfl⟩,rfl,⟨_,rfl,rfl⟩,trivial⟩)
        ·show Tri ..;refine zAj hle ?_;refine zAa ?_;refine zAb [] [66] rfl ?_;intro n29 hn29;obtain rfl : (e14B.length : Int) = n29:=(hn29.trans (congrArg (fun m : Nat=>(m : Int)) (rlen Nd.encs_eq e14B))).symm;show Tri ..;obtain ⟨l33,hl,h⟩:=zAc h
         refine zAr ⟨ofL [(0,.s (.sl 4 (Nd.encs a1))),(2,.s (.sl 1 ((List.map (irow .i64)) a3))),(3,.clo 23 [.op 0 0]),(8,.s (.sl 2 ((List.map zAy) ((x9.take (x9.length : Int).toNat).drop (1 : Int).toNat)))),(16,.s (.sl 4 (Nd.encs a2))),(17,.s (.int .i64 (a2.length : Int))),(18,.s (.int .i64 x8))],ofH [(0,.box 27 [.orow 2]),(2,.row 54 8 ((List.map zAi) l33))],3⟩ ?_ (fun σ' hle=>?_)
         ·refine zAl (zAI (X:=Nat × Int × (List zO8)) (fun y=>match y with | (k,x31,l32)=>⟨ofL [(0,.s (.sl 4 (Nd.encs a1))),(2,.s (.sl 1 ((List.map (irow .i64)) a3))),(3,.clo 23 [.op 0 0]),(8,.s (.sl 2 ((List.map zAy) ((x9.take (x9.length : Int).toNat).drop (1 : Int).toNat)))),(9,.s (.int .i64 x8)),(10,.s (.pt [.int .i64 e14A,.str e14C,.int .i64 e14D,.sl 4 (Nd.encs e14B)])),(11,.s (.pt [.int .i64 e24A,.str e24C,.int .i64 e24D,.sl 4 (Nd.encs e24B)])),(16,.s (.sl 4 (Nd.encs a2))),(17,.s (.int .i64 (a2.length : Int))),(18,.s (.int .i64 x8)),(66,.s (.int .i64 (e14B.length : Int))),(67,.s (.int .i64 x31))],ofH [(0,.box 27 [.orow 2]),(2,.row 54 8 ((List.map zAi) l32))],3⟩) (fun y=>zBl (zA3 n) n a3 x8 e14B e24B y.1 y.2.1 y.2.2 = some l33) (fun y=>y.1) (n,0,l27) hl ?_ ?_)
          ·exact (Le.rnm [(0,0),(2,2)] _ _ _ ⟨rfl,rfl,rfl,rfl,rfl,rfl,rfl,rfl,rfl,rfl,rfl,rfl,trivial⟩ ⟨rfl,⟨_,rfl,rfl⟩,rfl,⟨_,rfl,rfl⟩,trivial⟩)
          ·rintro ⟨k,x31,l32⟩ h;cases k with
           | zero=>cases h
           | succ k =>
            replace h : zBl (zA3 n) n a3 x8 e14B e24B (k+1) x31 l32 = some l33:=h;rw [zBl] at h;refine zAa ?_;refine zAb [] [] rfl ?_;show Tri ..;refine zAa ?_;refine zAd rfl (fun hb=>?_) (fun hb=>?_)
            ·replace h:=zAn hb h;refine zAg ?_;show Tri ..;refine zAa ?_;refine zAl ?_;refine zAa ?_;refine zAb [] [] rfl ?_;show Tri ..;refine zAB (by exact tokW) (by exact gok) (by exact mixed) [] [73,79,85,86] [19] rfl (by decide +kernel) ?_;obtain ⟨⟨e34A,e34C,e34D,e34B⟩,he34,h⟩:=zAc h;refine And.intro (zAC Nd.encs_eq he34).1 ?_;intro r35 hr35;obtain rfl : [.int .i64 e34A,.str e34C,.int .i64 e34D,.sl 4 (Nd.encs e34B)] = r35:=(hr35.trans (zAC Nd.encs_eq he34).2.1).symm;obtain ⟨⟨e36A,e36C,e36D,e36B⟩,he36,h⟩:=zAc h
             refine And.intro (zAC Nd.encs_eq he36).1 ?_;intro r37 hr37;obtain rfl : [.int .i64 e36A,.str e36C,.int .i64 e36D,.sl 4 (Nd.encs e36B)] = r37:=(hr37.trans (zAC Nd.encs_eq he36).2.1).symm;intro r38 hr38;obtain rfl : (List.map (irow .i64)) [x8,x31] = r38:=(hr38.trans (by simp [List.map_append,List.map_take,List.map_drop,irow,brow,zAQ,List.map_cons,List.map_nil,zAJ,Nd.encs_eq,Nd.enc,zAq,zAo,zAp,zAv,zAw,zAs,zAy,zAi,zAN,zAD,zAz])).symm;intro r39 hr39
             obtain rfl : (List.map zAw) [a3,[x8,x31]] = r39:=(hr39.trans (by simp [List.map_append,List.map_take,List.map_drop,irow,brow,zAQ,List.map_cons,List.map_nil,zAJ,Nd.encs_eq,Nd.enc,zAq,zAo,zAp,zAv,zAw,zAs,zAy,zAi,zAN,zAD,zAz])).symm;obtain ⟨y40,hy40,h⟩:=zAc h;refine ⟨_,⟨_,_,_,hy40,rfl,rfl⟩,?_⟩
             obtain ⟨w41,hw41,h⟩:=zAc h;refine ⟨_,_,⟨_,_,_,_,_,hw41,rfl,rfl,rfl,rfl⟩,?_⟩
             show Tri ..;refine zAb [] [] rfl ?_;refine ⟨(k,IntKind.i64.wrap (x31 + 1),w41),h,(Le.rnm [(0,0),(3,2)] _ _ _ ⟨rfl,rfl,rfl,rfl,rfl,rfl,rfl,rfl,rfl,rfl,rfl,rfl,trivial⟩ ⟨rfl,⟨_,rfl,rfl⟩,rfl,⟨_,rfl,rfl⟩,trivial⟩),Nat.lt_succ_self k⟩
            ·replace h:=zAm hb h;refine zAM ?_;cases h;exact (Le.rnm [(0,0),(2,2)] _ _ _ ⟨rfl,rfl,rfl,rfl,rfl,rfl,rfl,trivial⟩ ⟨rfl,⟨_,rfl,rfl⟩,rfl,⟨_,rfl,rfl⟩,trivial⟩)
         ·cases h;exact (Le.trans hle (Le.rnm [(0,0),(2,2)] _ _ _ ⟨rfl,rfl,rfl,rfl,rfl,rfl,rfl,trivial⟩ ⟨rfl,⟨_,rfl,rfl⟩,rfl,⟨_,rfl,rfl⟩,trivial⟩))
     ·show Tri ..;refine zAj hle ?_;refine zAb [] [] rfl ?_;refine ⟨(k,IntKind.i64.wrap (x8 + 1),x12,l13),h,(Le.rnm [(0,0),(2,2)] _ _ _ ⟨rfl,rfl,rfl,rfl,rfl,rfl,rfl,trivial⟩ ⟨rfl,⟨_,rfl,rfl⟩,rfl,⟨_,rfl,rfl⟩,trivial⟩),Nat.lt_succ_self k⟩
    ·replace h:=zAm hb h;refine zAM ?_;cases h;exact (Le.rnm [(0,0),(2,2)] _ _ _ trivial ⟨rfl,⟨_,rfl,rfl⟩,rfl,⟨_,rfl,rfl⟩,trivial⟩)
 ·have hy:=Option.some.inj h;subst hy;unfold zBV;exact ⟨_,(Le.trans hle (Le.rnm [(0,0),(2,2)] [] [(0,.box 27 [.orow 2]),(2,.row 54 8 ((List.map zAi) l11))] 3 trivial ⟨rfl,⟨_,rfl,rfl⟩,rfl,⟨_,rfl,rfl⟩,trivial⟩)),rfl,rfl,rfl,rfl,rfl,rfl,trivial⟩
theorem zIL : ∀ n,PSound Tryz.prog 26 (zB6 (zCE n)):=by
 intro n
 induction n with
 | zero=>exact zI1 Tryz.call26 (fun xs os x os' h=>by obtain ⟨_,_,_,_,_,h,_⟩:=h; cases h) _
 | succ n ih=>exact zIm n ih
def zGp : zAt:=zB6 (fun xs os x os'=>∃ n,zCE n xs os x os')
theorem zJE : PSound Tryz.prog 26 zGp:=zKf zIL _
theorem zHe {F : List Nd → List Nd → List Int → List zO8 → Option (List zO8)} {n : Nat} {xk yk : List Nd} {path : List Int} {j : Int} {o : List zO8} : ∀ {N : Nat} {y0 : List zO8},zBC F n xk yk path j o N = some y0 → ∃ A : Nat → List zO8,A 0 = o ∧ A N = y0 ∧ ∀ i,i < N →
  ((at? xk ((xk.length - 1 - i : Nat) : Int)).bind fun ⟨u_kind,u_text,u_cols,u_kids⟩=>(at? yk ((xk.length - 1 - i : Nat) : Int)).bind fun ⟨v_kind,v_text,v_cols,v_kids⟩=>(zBn n [path,[j,((xk.length - 1 - i : Nat) : Int)]]).bind fun y=>F u_kids v_kids y (A i)) = some (A (i + 1))
 | 0,y0,h=>⟨fun _=>o,rfl,Option.some.inj h,fun i hi=>by omega⟩
 | N + 1,y0,h=>by
  unfold zBC at h;obtain ⟨acc,h1,h⟩:=zAc h;obtain ⟨A,q1,q2,q3⟩:=zHe h1;refine ⟨fun i=>if i = N + 1 then y0 else A i,by dsimp only; rw [if_neg (by omega)]; exact q1,by dsimp only; rw [if_pos rfl],fun i hi=>?_⟩
  dsimp only;rw [if_neg (by omega : ¬ i = N + 1)]
  by_cases e : i = N
  ·subst e;rw [if_pos rfl,q2]
   exact h
  ·rw [if_neg (by omega)]
   exact q3 i (by omega)
theorem zHd {F : List Nd → List Nd → List Int → List zO8 → Option (List zO8)} {n : Nat} {a b : List Nd} {path : List Int} {p : List (Int × Int)} {o : List zO8} : ∀ {N : Nat} {y0 : List (Int × Int)} {z0 : List zO8},zBB F n a b path p o N = some (y0,z0) → ∃ (P : Nat → List (Int × Int)) (O : Nat → List zO8),P 0 = p ∧ O 0 = o ∧ P N = y0 ∧ O N = z0 ∧ ∀ i,i < N →
  ∃ x,a[a.length - 1 - i]? = some x ∧ zBQ F n b path ((a.length - 1 - i : Nat) : Int) x (P i) (O i) = some (P (i + 1),O (i + 1))
 | 0,y0,z0,h=>by
  obtain ⟨h1,h2⟩:=Prod.mk.inj (Option.some.inj h)
  exact ⟨fun _=>p,fun _=>o,rfl,rfl,h1,h2,fun i hi=>by omega⟩
 | N + 1,y0,z0,h=>by
  unfold zBB at h;obtain ⟨⟨p1,o1⟩,h1,h⟩:=zAc h;obtain ⟨x,hx,h⟩:=zAc h;obtain ⟨P,O,q1,q2,q3,q4,q5⟩:=zHd h1;refine ⟨fun i=>if i = N + 1 then y0 else P i,fun i=>if i = N + 1 then z0 else O i,by dsimp only; rw [if_neg (by omega)]; exact q1,by dsimp only; rw [if_neg (by omega)]; exact q2,by dsimp only; rw [if_pos rfl],by dsimp only; rw [if_pos rfl],fun i hi=>?_⟩
  dsimp only;rw [if_neg (by omega : ¬ i = N + 1),if_neg (by omega : ¬ i = N + 1)]
  by_cases e : i = N
  ·subst e;rw [if_pos rfl,if_pos rfl,q3,q4]
   exact ⟨x,hx,h⟩
  ·rw [if_neg (by omega),if_neg (by omega)]
   exact q5 i (by omega)
def zC3 (n : Nat) (xs : List AV) (os : List Ob) (x : AV) (os' : List (Option Ob)) : Prop:=∃ (a0 : List Nd) (a1 : List Nd) (a2 : List Int) (a3 : List zO8) (z0 : List zO8),zBT n a0 a1 a2 a3 = some z0 ∧ xs = [.s (.sl 4 (Nd.encs a0)),.s (.sl 4 (Nd.encs a1)),.s (.sl 1 ((List.map (irow .i64)) a2)),.clo 23 [.op 0 0]] ∧ os = [.box 27 [.orow 1],.row 54 8 ((List.map zAi) a3)] ∧ x = .tup [] ∧ os' = [some (.box 27 [.orow 2]),none,some (.row 54 8 ((List.map zAi) z0))]
theorem zI6 (n : Nat) (ih : PSound Tryz.prog 25 (zB6 (zC3 n))) : PSound Tryz.prog 25 (zB6 (zC3 (n + 1))):=by
 have gok : ∀ f s,look? f [(45,zHq),(46,zEf),(23,zHp),(47,zDK),(25,zB6 (zC3 n))] = some s → PSound Tryz.prog f s:=zAu (by
  simp only [List.forall_mem_cons]
  exact ⟨zJD,zGH,zJC,zE2,ih,by simp⟩)
 refine PSound.withNil (zWo Tryz.call25 Tryz.func25 rfl (fun xs os x os' h=>by obtain ⟨_,_,_,_,_,_,rfl,rfl,_,rfl⟩:=h; exact ⟨by show 4 ≤ 81; decide,by show 2 ≤ 3; decide⟩) 81 rfl ?_) _;rintro xs os x os' w0 G0 B0 ⟨a1,b2,path3,o4,z0,h,rfl,rfl,rfl,rfl⟩ _;rw [zBT] at h;obtain ⟨y5,hy5,h⟩:=zAc h;obtain ⟨hla,h⟩:=zAR h;obtain ⟨⟨p6,l6⟩,hr,h⟩:=zAc h;obtain rfl : l6 = z0:=Option.some.inj h;obtain ⟨P,O,hP0,hO0,hPN,hON,hst⟩:=zHd hr
 clear h hr
 refine zH7 rfl ?_;refine zAb [7] [] rfl ?_;refine ⟨rfl,?_⟩
 refine zH7 rfl ?_;refine zAb [8] [] rfl ?_;refine ⟨_,⟨_,_,_,_,hy5,rfl,rfl⟩,?_⟩
 refine ⟨rfl,?_⟩
 refine zH7 rfl ?_;refine zAb [] [] rfl ?_;refine ⟨_,⟨_,rfl,rfl⟩,?_⟩
 refine ⟨rfl,?_⟩
 refine zVG (Le.rnm [(0,0),(2,2),(3,3),(1,4)] [(5,.s (.pt [.sl 4 (Nd.encs b2)])),(6,.s (.pt [.sl 1 ((List.map (irow .i64)) path3)])),(7,.op 2 0),(8,.op 3 0),(17,.clo 68 [.s (.pt [.sl 4 (Nd.encs a1)])])] [(0,.box 27 [.orow 4]),(2,.box 56 [.clo 23 [.op 0 0]]),(3,.box 78 [.s (.sl 2 ((List.map zAy) y5))]),(4,.row 54 8 ((List.map zAi) o4))] 5 ⟨rfl,rfl,rfl,rfl,rfl,trivial⟩ ⟨rfl,⟨_,rfl,rfl⟩,rfl,⟨_,rfl,rfl⟩,rfl,⟨_,rfl,rfl⟩,rfl,⟨_,rfl,rfl⟩,trivial⟩) ?_;refine zNU ?_
 refine zNV rfl rfl (sz:=4) (rows:=Nd.encs a1) zTo Tryz.call68 rfl (fun r hr=>by rw [Nd.encs_eq] at hr; obtain ⟨o,_,rfl⟩:=List.mem_map.1 hr; cases o; rfl) (by rw [rlen Nd.encs_eq]; omega)
  (fun i=>(ofH [(0,.box 27 [.orow 4]),(2,.box 56 [.clo 23 [.op 0 0]]),(3,.box 78 [.s (.sl 2 ((List.map zAy) (P i)))]),(4,.row 54 8 ((List.map zAi) (O i)))],5)) (by dsimp only; rw [hP0,hO0]) 4 (zH4 rfl) (by show 2 ≤ 4; decide) (fun _=>by show 4 ≤ 5; decide) (by show 18 < 81; decide) (by show 19 < 81; decide) ?_ ?_
 ·intro i j row hij hrow l w X G B hl;rw [rlen Nd.encs_eq] at hij;obtain ⟨⟨x_kind,x_text,x_cols,x_kids⟩,hx,h⟩:=hst i (by omega)
  rw [show a1.length - 1 - i = j by omega] at hx h;rw [Nd.encs_eq,List.getElem?_map,hx] at hrow;obtain rfl:=Option.some.inj hrow;refine zAa ?_;refine zAb [9] [] rfl ?_;show Tri ..;refine zAb [10] [] rfl ?_;refine ⟨rfl,fun w X G B hl=>?_⟩
  refine zAj (Le.giveBox 5 [.int .i64 (j : Int)] rfl rfl) ?_;refine zAj (Le.giveBox 6 [.int .i64 x_kind,.str x_text,.int .i64 x_cols,.sl 4 (Nd.encs x_kids)] rfl rfl) ?_;refine zAl ?_;rw [zBQ] at h;refine zAa ?_;refine zAa ?_;obtain ⟨c,hj,h⟩:=zAc h
  refine zAr ⟨ofL [(5,.s (.pt [.sl 4 (Nd.encs b2)])),(6,.s (.pt [.sl 1 ((List.map (irow .i64)) path3)])),(7,.op 2 0),(8,.op 3 0),(9,.s (.pt [.int .i64 (j : Int)])),(10,.s (.pt [.int .i64 x_kind,.str x_text,.int .i64 x_cols,.sl 4 (Nd.encs x_kids)])),(33,.s (.bool c))],ofH [(0,.box 27 [.orow 4]),(2,.box 56 [.clo 23 [.op 0 0]]),(3,.box 78 [.s (.sl 2 ((List.map zAy) (P i)))]),(4,.row 54 8 ((List.map zAi) (O i)))],5⟩ ?_ (fun σ' hle=>?_)
  ·replace h:=hj;refine zDI (by exact tokW) (by exact gok) (by exact mixed) [] [21,23,26,28] [0,4,5] [0,4,5] rfl (by decide +kernel) ?_;intro n17 hn17;obtain rfl : ((P i).length : Int) = n17:=(hn17.trans (congrArg (fun m : Nat=>(m : Int)) (rlen (fun _=>rfl) (P i)))).symm;intro b hb;cases b with
   | true =>
    replace h:=zAn hb.symm h;cases h;exact (Le.rnm [(0,0),(2,2),(3,3),(4,4)] _ _ _ ⟨rfl,rfl,rfl,rfl,rfl,rfl,rfl,trivial⟩ ⟨rfl,⟨_,rfl,rfl⟩,rfl,⟨_,rfl,rfl⟩,rfl,⟨_,rfl,rfl⟩,rfl,⟨_,rfl,rfl⟩,trivial⟩)
   | false =>
    replace h:=zAm hb.symm h;obtain ⟨⟨e18H,e18I⟩,he18,h⟩:=zAc h;intro n19 hn19;obtain rfl : ((P i).length : Int) = n19:=(hn19.trans (congrArg (fun m : Nat=>(m : Int)) (rlen (fun _=>rfl) (P i)))).symm;refine And.intro (zAC (fun _=>rfl) he18).1 ?_;intro r19 hr19;obtain rfl : [.int .i64 e18H,.int .i64 e18I] = r19:=(hr19.trans (zAC (fun _=>rfl) he18).2.1).symm;refine And.intro (by decide) ?_;cases h;exact (Le.rnm [(0,0),(2,2),(3,3),(4,4)] _ _ _ ⟨rfl,rfl,rfl,rfl,rfl,rfl,rfl,trivial⟩ ⟨rfl,⟨_,rfl,rfl⟩,rfl,⟨_,rfl,rfl⟩,rfl,⟨_,rfl,rfl⟩,rfl,⟨_,rfl,rfl⟩,trivial⟩)
  ·show Tri ..;refine zAj hle ?_;refine zAd rfl (fun hb=>?_) (fun hb=>?_)
   ·replace h:=zAn hb h;refine zAa ?_;refine zAb [] [38] rfl ?_;intro r20 hr20;obtain rfl : Nd.encs [Nd.mk x_kind x_text x_cols x_kids] = r20:=hr20.symm;obtain ⟨w21,hw21,h⟩:=zAc h;refine ⟨_,_,⟨_,_,_,_,hw21,rfl,rfl,rfl,rfl⟩,?_⟩
    show Tri ..;refine zAM ?_;obtain ⟨hP,hO⟩:=Prod.mk.inj (Option.some.inj h)
    refine ⟨rfl,_,Le.rename [(0,0),(2,2),(3,3),(5,4)] [] [(0,.box 27 [.orow 4]),(2,.box 56 [.clo 23 [.op 0 0]]),(3,.box 78 [.s (.sl 2 ((List.map zAy) (P (i + 1))))]),(4,.row 54 8 ((List.map zAi) (O (i + 1))))] 5 trivial ⟨rfl,⟨_,rfl,rfl⟩,rfl,⟨_,rfl,rfl⟩,rfl,⟨_,rfl,by rw [← hP]; rfl⟩,rfl,⟨_,rfl,by rw [← hO]; rfl⟩,trivial⟩ rfl rfl rfl rfl rfl,rfl,rfl⟩
   ·replace h:=zAm hb h;refine zAg ?_;show Tri ..;refine zAa ?_;refine zDI (by exact tokW) (by exact gok) (by exact mixed) [11] [44,46,49] [1,2,10,11] [1,2] rfl (by decide +kernel) ?_;obtain ⟨⟨e22H,e22I⟩,he22,h⟩:=zAc h;intro n20 hn20;obtain rfl : ((P i).length : Int) = n20:=(hn20.trans (congrArg (fun m : Nat=>(m : Int)) (rlen (fun _=>rfl) (P i)))).symm;refine And.intro (zAC (fun _=>rfl) he22).1 ?_;intro r23 hr23;obtain rfl : [.int .i64 e22H,.int .i64 e22I] = r23:=(hr23.trans (zAC (fun _=>rfl) he22).2.1).symm;refine And.intro (by decide) ?_;obtain ⟨⟨y_kind,y_text,y_cols,y_kids⟩,he24,h⟩:=zAc h
    refine And.intro (zAC Nd.encs_eq he24).1 ?_;intro r25 hr25;obtain rfl : [.int .i64 y_kind,.str y_text,.int .i64 y_cols,.sl 4 (Nd.encs y_kids)] = r25:=(hr25.trans (zAC Nd.encs_eq he24).2.1).symm;show Tri ..;refine zAj (Le.giveBox 5 [.int .i64 y_kind,.str y_text,.int .i64 y_cols,.sl 4 (Nd.encs y_kids)] rfl rfl) ?_;obtain ⟨hq,h⟩:=zAR h;obtain ⟨w,hw,h⟩:=zAc h;obtain ⟨hP,hO⟩:=Prod.mk.inj (Option.some.inj h)
    obtain ⟨A,hA0,hAN,hin⟩:=zHe hw;refine zAa ?_;refine zAb [] [53,55] rfl ?_;intro n26 hn26;obtain rfl : ((P i).length : Int) = n26:=(hn26.trans (congrArg (fun m : Nat=>(m : Int)) (rlen (fun _=>rfl) (P i)))).symm;refine And.intro ⟨Int.le_refl _,hq.1,Int.le_trans hq.2.1 (Int.ofNat_le.2 (Nat.le_of_eq (rlen (fun _=>rfl) _).symm))⟩ ?_;intro r26 hr26;obtain rfl : (List.map zAy) (P (i + 1)) = r26 :=(by rw [hr26,← hP,List.map_take]; rfl);show Tri ..;refine zAa ?_;refine zAb [] [] rfl ?_;refine ⟨_,⟨_,rfl,rfl⟩,?_⟩
    show Tri ..
    refine zAj (Le.rnm [(0,0),(2,2),(3,3),(4,4)] [(6,.s (.pt [.sl 1 ((List.map (irow .i64)) path3)])),(7,.op 2 0),(9,.s (.pt [.int .i64 (j : Int)])),(10,.s (.pt [.int .i64 x_kind,.str x_text,.int .i64 x_cols,.sl 4 (Nd.encs x_kids)])),(11,.s (.pt [.int .i64 y_kind,.str y_text,.int .i64 y_cols,.sl 4 (Nd.encs y_kids)])),(58,.clo 68 [.s (.pt [.sl 4 (Nd.encs x_kids)])])] [(0,.box 27 [.orow 4]),(2,.box 56 [.clo 23 [.op 0 0]]),(3,.box 78 [.s (.sl 2 ((List.map zAy) (P (i + 1))))]),(4,.row 54 8 ((List.map zAi) (O i)))] 5 ⟨rfl,rfl,rfl,rfl,rfl,rfl,trivial⟩ ⟨rfl,⟨_,rfl,rfl⟩,rfl,⟨_,rfl,rfl⟩,rfl,⟨_,rfl,rfl⟩,rfl,⟨_,rfl,rfl⟩,trivial⟩) ?_
    refine zAl ?_;refine zS8 rfl hl (sz:=4) (rows:=Nd.encs x_kids) zTo Tryz.call68 rfl (fun r hr=>by rw [Nd.encs_eq] at hr; obtain ⟨o,_,rfl⟩:=List.mem_map.1 hr; cases o; rfl) (by rw [rlen Nd.encs_eq]; omega)
     (fun q=>(ofH [(0,.box 27 [.orow 4]),(2,.box 56 [.clo 23 [.op 0 0]]),(3,.box 78 [.s (.sl 2 ((List.map zAy) (P (i + 1))))]),(4,.row 54 8 ((List.map zAi) (A q)))],5)) (by dsimp only; rw [hA0]) 4 (zH4 rfl) (Nat.le_refl _) (fun _=>by show 4 ≤ 5; decide) (by show 59 < 81; decide) (by show 60 < 81; decide) ?_ ?_
    ·intro i2 j2 row hij2 hrow2 l2 w X G B hl2;rw [rlen Nd.encs_eq] at hij2;have h:=hin i2 (by omega)
     rw [show x_kids.length - 1 - i2 = j2 by omega] at h;refine zAb [] [] rfl ?_;refine ⟨rfl,fun w X G B hl2=>?_⟩
     refine zAl ?_;refine zAB (by exact tokW) (by exact gok) (by exact mixed) [] [64,70,76,77] [18,19] rfl (by decide +kernel) ?_;obtain ⟨⟨u_kind,u_text,u_cols,u_kids⟩,he34,h⟩:=zAc h;refine And.intro (zAC Nd.encs_eq he34).1 ?_;intro r35 hr35;obtain rfl : [.int .i64 u_kind,.str u_text,.int .i64 u_cols,.sl 4 (Nd.encs u_kids)] = r35:=(hr35.trans (zAC Nd.encs_eq he34).2.1).symm;obtain ⟨⟨v_kind,v_text,v_cols,v_kids⟩,he36,h⟩:=zAc h;refine And.intro (zAC Nd.encs_eq he36).1 ?_;intro r37 hr37;obtain rfl : [.int .i64 v_kind,.str v_text,.int .i64 v_cols,.sl 4 (Nd.encs v_kids)] = r37:=(hr37.trans (zAC Nd.encs_eq he36).2.1).symm
     intro r38 hr38;obtain rfl : (List.map (irow .i64)) [(j : Int),(j2 : Int)] = r38:=hr38.symm;intro r39 hr39;obtain rfl : (List.map zAw) [path3,[(j : Int),(j2 : Int)]] = r39:=hr39.symm;obtain ⟨y40,hy40,h⟩:=zAc h;refine ⟨_,⟨_,_,_,hy40,rfl,rfl⟩,?_⟩
     refine ⟨_,_,⟨_,_,_,_,_,h,rfl,rfl,rfl,rfl⟩,?_⟩
     refine ⟨rfl,_,Le.rename [(0,0),(2,2),(3,3),(5,4)] [] [(0,.box 27 [.orow 4]),(2,.box 56 [.clo 23 [.op 0 0]]),(3,.box 78 [.s (.sl 2 ((List.map zAy) (P (i + 1))))]),(4,.row 54 8 ((List.map zAi) (A (i2 + 1))))] 5 trivial ⟨rfl,⟨_,rfl,rfl⟩,rfl,⟨_,rfl,rfl⟩,rfl,⟨_,rfl,rfl⟩,rfl,⟨_,rfl,rfl⟩,trivial⟩ rfl rfl rfl rfl rfl,rfl,rfl⟩
    ·rw [rlen Nd.encs_eq,hAN]
     refine ⟨rfl,_,Le.rename [(0,0),(2,2),(3,3),(4,4)] [] [(0,.box 27 [.orow 4]),(2,.box 56 [.clo 23 [.op 0 0]]),(3,.box 78 [.s (.sl 2 ((List.map zAy) (P (i + 1))))]),(4,.row 54 8 ((List.map zAi) (O (i + 1))))] 5 trivial ⟨rfl,⟨_,rfl,rfl⟩,rfl,⟨_,rfl,rfl⟩,rfl,⟨_,rfl,rfl⟩,rfl,⟨_,rfl,by rw [← hO]; rfl⟩,trivial⟩ rfl rfl rfl rfl rfl,rfl,rfl⟩
 ·intro D w2 X G2 G' β' a2 hsw hc;rw [rlen Nd.encs_eq,hPN,hON] at hc;refine zU4 (c:=zEJ Tryz.prog w0 B0 2 G0 81) tokW hsw rfl rfl rfl hc ?_;refine zRp ?_;unfold zBV;exact ⟨_,(Le.rnm [(0,0),(4,2)] [] [(0,.box 27 [.orow 2]),(2,.row 54 8 ((List.map zAi) l6))] 3 trivial ⟨rfl,⟨_,rfl,rfl⟩,rfl,⟨_,rfl,rfl⟩,trivial⟩),rfl,rfl,rfl,rfl,rfl,rfl,trivial⟩
theorem zJs : ∀ n,PSound Tryz.prog 25 (zB6 (zC3 n)):=by
 intro n
 induction n with
 | zero=>exact zI1 Tryz.call25 (fun xs os x os' h=>by obtain ⟨_,_,_,_,_,h,_⟩:=h; cases h) _
 | succ n ih=>exact zI6 n ih
def zHa : zAt:=zB6 (fun xs os x os'=>∃ n,zC3 n xs os x os')
theorem zKb : PSound Tryz.prog 25 zHa:=zKf zJs _
def zSF (n : Nat) (xs : List AV) (r : Ret) : Prop:=∃ (a0 : Nd) (a1 : Nd) (y0 : List zO8) (y1 : Int),zEE n a0 a1 = some (y0,y1) ∧ xs = [.agg ((Nd.enc a0).map .s),.agg ((Nd.enc a1).map .s)] ∧ r = .val (.tup [.s (.sl 8 ((List.map zAi) y0)),.s (.int .i64 y1)])
def zNa : zAt:=zAG fun xs r=>∃ n,zSF n xs r
theorem zRB : PSound Tryz.prog 8 zNa:=by
 have gok : ∀ f s,look? f [(22,zHr),(25,zHa),(26,zGp)] = some s → PSound Tryz.prog f s:=zAu (by
  simp only [List.forall_mem_cons]
  exact ⟨zJF,zKb,zJE,by simp⟩)
 refine zAK tokW Tryz.call8 Tryz.func8 rfl (fun xs r h=>by obtain ⟨n,_,_,_,_,_,rfl,_⟩:=h; show 2 ≤ 26; decide) 26 rfl ?_;rintro xs r w0 G0 ⟨n,⟨a1A,a1C,a1D,a1B⟩,⟨b2A,b2C,b2D,b2B⟩,y0,y1,h,rfl,rfl⟩ _;rw [zEE] at h;refine zAa ?_;refine zAb [] [] rfl ?_;show Tri ..;refine zAa ?_;refine zAa ?_;refine zAb [] [] rfl ?_;obtain ⟨y3,hy3,h⟩:=zAc h;refine ⟨_,⟨_,_,_,_,hy3,rfl,rfl⟩,?_⟩
 show Tri ..;refine zAd rfl (fun hb=>?_) (fun hb=>?_)
 ·replace h:=zAn hb h;refine zAa ?_;refine zAb [] [] rfl ?_;show Tri ..;refine zAh ?_;obtain ⟨hj1,hk1⟩:=Prod.mk.inj (Option.some.inj h)
  subst hj1;subst hk1;unfold zAA;exact ⟨_,Le.refl _ _,rfl,rfl⟩
 ·replace h:=zAm hb h;refine zAg ?_;show Tri ..;refine zAa ?_;refine zAb [6] [] rfl ?_;show Tri ..;refine zAj (Le.trans (Le.rnm [(0,0)] [(2,.s (.pt [.int .i64 a1A,.str a1C,.int .i64 a1D,.sl 4 (Nd.encs a1B)])),(3,.s (.pt [.int .i64 b2A,.str b2C,.int .i64 b2D,.sl 4 (Nd.encs b2B)])),(6,.op 0 0)] [(0,.box 27 [.nl 8])] 1 ⟨rfl,rfl,rfl,trivial⟩ ⟨rfl,⟨_,rfl,rfl⟩,trivial⟩) (Le.takeNil 0 0 54 rfl rfl (by decide))) ?_;refine zAa ?_;refine zAb [] [] rfl ?_;show Tri ..;refine zAa ?_;refine zAb [] [] rfl ?_;obtain ⟨w4,hw4,h⟩:=zAc h;refine ⟨_,_,⟨_,_,_,_,_,_,hw4,rfl,rfl,rfl,rfl⟩,?_⟩
  show Tri ..;refine zAa ?_;refine zAb [] [] rfl ?_;obtain ⟨w5,hw5,h⟩:=zAc h;refine ⟨_,_,⟨_,_,_,_,_,_,hw5,rfl,rfl,rfl,rfl⟩,?_⟩
  show Tri ..;refine zAa ?_;refine zAb [] [] rfl ?_;show Tri ..;refine zAh ?_;obtain ⟨hj1,hk1⟩:=Prod.mk.inj (Option.some.inj h)
  subst hj1;subst hk1;unfold zAA;exact ⟨_,(Le.trans (Le.rnm [(3,0)] [(4,.orow 0),(5,.s (.int .i64 0))] [(0,.row 54 8 ((List.map zAi) w5))] 1 ⟨rfl,rfl,trivial⟩ ⟨rfl,⟨_,rfl,rfl⟩,trivial⟩) (Le.giveRow 0 rfl)),rfl,rfl⟩
def zRe (n : Nat) (xs : List AV) (r : Ret) : Prop:=∃ (a0 : Nd) (y0 : Bool),zEH n a0 = some y0 ∧ xs = [.agg ((Nd.enc a0).map .s)] ∧ r = .val (.s (.bool y0))
def zLD : zAt:=zAG fun xs r=>∃ n,zRe n xs r
theorem zQx : PSound Tryz.prog 9 zLD:=by
 have gok : ∀ f s,look? f [(27,zNc),(28,zLz),(29,zLA)] = some s → PSound Tryz.prog f s:=zAu (by
  simp only [List.forall_mem_cons]
  exact ⟨zRD,zQs,zQt,by simp⟩)
 refine zAK tokW Tryz.call9 Tryz.func9 rfl (fun xs r h=>by obtain ⟨n,_,_,_,rfl,_⟩:=h; show 1 ≤ 20; decide) 20 rfl ?_;rintro xs r w0 G0 ⟨n,⟨n1A,n1C,n1D,n1B⟩,y0,h,rfl,rfl⟩ _;rw [zEH] at h;refine zAa ?_;refine zAb [] [] rfl ?_;show Tri ..;refine zAa ?_;obtain ⟨x2,hj,h⟩:=zAc h;refine zAr ⟨ofL [(2,.s (.bool x2))],fun _=>none,0⟩ ?_ (fun σ' hle=>?_)
 ·replace h:=hj;refine zAb [] [6,10,15] rfl ?_;intro b hb;cases b with
  | true =>
   replace h:=zAn hb.symm h;obtain ⟨y3,hy3,h⟩:=zAc h;refine ⟨_,⟨_,_,_,hy3,rfl,rfl⟩,?_⟩
   intro b hb;cases b with
   | true =>
    replace h:=zAn hb.symm h;obtain ⟨y4,hy4,h⟩:=zAc h;refine ⟨_,⟨_,_,_,hy4,rfl,rfl⟩,?_⟩
    intro b hb;cases b with
    | true =>
     replace h:=zAn hb.symm h;obtain ⟨y5,hy5,h⟩:=zAc h;refine ⟨_,⟨_,_,_,hy5,rfl,rfl⟩,?_⟩
     cases h;exact (Le.forget _ ⟨rfl,trivial⟩)
    | false =>
     replace h:=zAm hb.symm h;cases h;exact (Le.forget _ ⟨rfl,trivial⟩)
   | false =>
    replace h:=zAm hb.symm h;intro b hb;subst hb;cases h;exact (Le.forget _ ⟨rfl,trivial⟩)
  | false =>
   replace h:=zAm hb.symm h;intro b hb;subst hb;intro b hb;subst hb;cases h;exact (Le.forget _ ⟨rfl,trivial⟩)
 ·show Tri ..;refine zAj hle ?_;refine zAh ?_;have hy:=Option.some.inj h;subst hy;unfold zAA;exact ⟨_,Le.refl _ _,rfl,rfl⟩
end Go.Proofs.YtjdhkpdjecegnaaGreatDoor
namespace Go.Proofs.YtjdhkpdjecegnaaGreatDoor
open Go.Abs
def zEl (n : Nat) : Nd → Option ((Option (Nd × Nd × List zRc × Int)) × Int)
| ⟨n1A,n1C,n1D,n1B⟩ =>
 (zAZ n (Nd.mk n1A n1C n1D n1B)).bind fun y2 =>
 bif (!y2) then (
  some (none,1)
 ) else (
  (zBc (Nd.mk n1A n1C n1D n1B)).bind fun ⟨y3A,y3C,y3D,y3B⟩ =>
  (zBc (Nd.mk n1A n1C n1D n1B)).bind fun ⟨y4A,y4C,y4D,y4B⟩ =>
  some (some (Nd.mk y3A y3C y3D y3B,Nd.mk y4A y4C y4D y4B,[],0),0)
 )
def zCU (n : Nat) (l1 : List zO8) : Nat → Int → (List zO8) → Option ((List zO8))
| 0,_,_=>none
| k+1,x4,l5 =>
 bif decide (x4 < (l1.length : Int)) then (
  (at? l1 x4).bind fun ⟨e7A,e7W,e7Y,e7U,e7E,e7V,e7T,e7C⟩ =>
  (zDo n (e7A,e7W,e7Y,e7U,e7E,e7V,e7T,e7C)).bind fun ⟨y9A,y9W,y9Y,y9U,y9E,y9V,y9T,y9C⟩ =>
  req (l5.length + [(y9A,y9W,y9Y,y9U,y9E,y9V,y9T,y9C)].length ≤ 4294967296) <|
  zCU n l1 k (IntKind.i64.wrap (x4 + 1)) (l5 ++ [(y9A,y9W,y9Y,y9U,y9E,y9V,y9T,y9C)])
 ) else (
  some l5
 )
def zGB (n : Nat) : (List zO8) → Option (List zO8)
| l1 =>
 (zCU n l1 n 0 []).bind fun l6 =>
 some l6
def zCn : zCu → Option zCu
| ⟨c1Av,c1Aw⟩ =>
 (zDn c1Av).bind fun y2 =>
 (zDn c1Aw).bind fun y3 =>
 some (y2,y3)
def zCV (n : Nat) : zRc → Option zRc
| ⟨r1Am,⟨r1Ao,r1Ap⟩,⟨r1Aq,r1Ar⟩⟩ =>
 (zGB n r1Am).bind fun y2 =>
 (zCn (r1Ao,r1Ap)).bind fun ⟨y3Av,y3Aw⟩ =>
 (zCn (r1Aq,r1Ar)).bind fun ⟨y4Av,y4Aw⟩ =>
 some (y2,(y3Av,y3Aw),(y4Av,y4Aw))
def zBX (n : Nat) : (Nd × Nd × List zRc × Int) → zRc → Option (Int × (Nd × Nd × List zRc × Int))
| ⟨⟨o1L,o1M,o1N,o1O⟩,⟨o1P,o1Q,o1R,o1S⟩,o1K,o1G⟩,⟨r2Am,⟨r2Ao,r2Ap⟩,⟨r2Aq,r2Ar⟩⟩ =>
 (zBs n (Nd.mk o1P o1Q o1R o1S) r2Am).bind fun ⟨⟨y3A,y3C,y3D,y3B⟩,y4,y5⟩ =>
 bif (y5 != 0) then (
  some (y5,(Nd.mk o1L o1M o1N o1O,Nd.mk o1P o1Q o1R o1S,o1K,o1G))
 ) else (
  bif decide (1000 ≤ o1G) then (
   some (6,(Nd.mk o1L o1M o1N o1O,Nd.mk o1P o1Q o1R o1S,o1K,o1G))
  ) else (
   req (0 ≤ o1G ∧ o1G ≤ (o1K.length : Int)) <|
   (zCV n (r2Am,(r2Ao,r2Ap),(r2Aq,r2Ar))).bind fun ⟨y6Am,⟨y6Ao,y6Ap⟩,⟨y6Aq,y6Ar⟩⟩ =>
   req ((o1K.take o1G.toNat).length + [(y6Am,(y6Ao,y6Ap),(y6Aq,y6Ar))].length ≤ 4294967296) <|
   some (0,(Nd.mk o1L o1M o1N o1O,Nd.mk y3A y3C y3D y3B,(o1K.take o1G.toNat) ++ [(y6Am,(y6Ao,y6Ap),(y6Aq,y6Ar))],IntKind.i64.wrap (o1G + 1)))
  )
 )
def zBq : (Nd × Nd × List zRc × Int) → Option (Nd × (Nd × Nd × List zRc × Int))
| ⟨⟨o1L,o1M,o1N,o1O⟩,⟨o1P,o1Q,o1R,o1S⟩,o1K,o1G⟩ =>
 (zBc (Nd.mk o1P o1Q o1R o1S)).bind fun ⟨y2A,y2C,y2D,y2B⟩ =>
 some (Nd.mk y2A y2C y2D y2B,(Nd.mk o1L o1M o1N o1O,Nd.mk o1P o1Q o1R o1S,o1K,o1G))
def zBH (n : Nat) : (Nd × Nd × List zRc × Int) → Option (zCu × Int × (Nd × Nd × List zRc × Int))
| ⟨⟨o1L,o1M,o1N,o1O⟩,⟨o1P,o1Q,o1R,o1S⟩,o1K,o1G⟩ =>
 bif (o1G == 0) then (
  some (([],[]),8,(Nd.mk o1L o1M o1N o1O,Nd.mk o1P o1Q o1R o1S,o1K,o1G))
 ) else (
  (at? o1K (IntKind.i64.wrap (o1G - 1))).bind fun ⟨e2Am,⟨e2Ao,e2Ap⟩,⟨e2Aq,e2Ar⟩⟩ =>
  (zBU n e2Am).bind fun y3 =>
  (zBs n (Nd.mk o1P o1Q o1R o1S) y3).bind fun ⟨⟨y4A,y4C,y4D,y4B⟩,y5,y6⟩ =>
  bif (y6 != 0) then (
   some (([],[]),y6,(Nd.mk o1L o1M o1N o1O,Nd.mk o1P o1Q o1R o1S,o1K,o1G))
  ) else (
   (zCn (e2Ao,e2Ap)).bind fun ⟨y7Av,y7Aw⟩ =>
   some ((y7Av,y7Aw),0,(Nd.mk o1L o1M o1N o1O,Nd.mk y4A y4C y4D y4B,o1K,IntKind.i64.wrap (o1G - 1)))
  )
 )
def zCG (n : Nat) : Nd → Nd → Option Bool
| ⟨a1A,a1C,a1D,a1B⟩,⟨a2A,a2C,a2D,a2B⟩ =>
 (zG0 n ).bind fun y3 =>
 bif (!y3) then (
  some false
 ) else (
  (
   (zHE n (Nd.mk a1A a1C a1D a1B) (Nd.mk a2A a2C a2D a2B)).bind fun y5 =>
   bif (!y5) then (
    some true
   ) else (
    (zEH n (Nd.mk a1A a1C a1D a1B)).bind fun y6 =>
    bif (!y6) then (
     some true
    ) else (
     (zEH n (Nd.mk a2A a2C a2D a2B)).bind fun y7 =>
     some (!y7)
    )
   )
   : Option (Bool)).bind fun x4 =>
  bif x4 then (
   some true
  ) else (
   (zEE n (Nd.mk a1A a1C a1D a1B) (Nd.mk a2A a2C a2D a2B)).bind fun ⟨y8,y9⟩ =>
   (zEl n (Nd.mk a1A a1C a1D a1B)).bind fun ⟨y10,y11⟩ =>
   match y10 with
   | none=>(
    req (y11 = 1) <|
    (
     bif (y9 != 0) then (
      some ()
     ) else (
      some ()
     )
     : Option Unit).bind fun _ =>
    some false
   )
   | some ⟨⟨w12L,w12M,w12N,w12O⟩,⟨w12P,w12Q,w12R,w12S⟩,w12K,w12G⟩=>(
    req (y11 = 0) <|
    (
     bif (y9 != 0) then (
      some (true,w12L,w12M,w12N,w12O,w12P,w12Q,w12R,w12S,w12G,w12K)
     ) else (
      (zBX n (Nd.mk w12L w12M w12N w12O,Nd.mk w12P w12Q w12R w12S,w12K,w12G) (y8,([],[]),([],[]))).bind fun ⟨y24,⟨⟨w25L,w25M,w25N,w25O⟩,⟨w25P,w25Q,w25R,w25S⟩,w25K,w25G⟩⟩ =>
      bif (y24 != 0) then (
       some (true,w25L,w25M,w25N,w25O,w25P,w25Q,w25R,w25S,w25G,w25K)
      ) else (
       (zBq (Nd.mk w25L w25M w25N w25O,Nd.mk w25P w25Q w25R w25S,w25K,w25G)).bind fun ⟨⟨y26A,y26C,y26D,y26B⟩,⟨⟨w27L,w27M,w27N,w27O⟩,⟨w27P,w27Q,w27R,w27S⟩,w27K,w27G⟩⟩ =>
       (zCd n (Nd.mk y26A y26C y26D y26B) (Nd.mk a2A a2C a2D a2B)).bind fun y28 =>
       some ((!y28),w27L,w27M,w27N,w27O,w27P,w27Q,w27R,w27S,w27G,w27K)
      )
     )
     : Option (Bool × Int × (List UInt8) × Int × (List Nd) × Int × (List UInt8) × Int × (List Nd) × Int × (List zRc))).bind fun ⟨x13,x14,x15,x16,x17,x18,x19,x20,x21,x22,l23⟩ =>
    bif x13 then (
     some false
    ) else (
     (zBH n (Nd.mk x14 x15 x16 x17,Nd.mk x18 x19 x20 x21,l23,x22)).bind fun ⟨⟨y29Av,y29Aw⟩,y30,⟨⟨w31L,w31M,w31N,w31O⟩,⟨w31P,w31Q,w31R,w31S⟩,w31K,w31G⟩⟩ =>
     (
      bif (y30 == 0) then (
       (zBq (Nd.mk w31L w31M w31N w31O,Nd.mk w31P w31Q w31R w31S,w31K,w31G)).bind fun ⟨⟨y33A,y33C,y33D,y33B⟩,⟨⟨w34L,w34M,w34N,w34O⟩,⟨w34P,w34Q,w34R,w34S⟩,w34K,w34G⟩⟩ =>
       (zCd n (Nd.mk y33A y33C y33D y33B) (Nd.mk a1A a1C a1D a1B)).bind fun y35 =>
       some y35
      ) else (
       some false
      )
      : Option (Bool)).bind fun x32 =>
     some x32
    )
   )
  )
 )
end Go.Proofs.YtjdhkpdjecegnaaGreatDoor
namespace Go.Proofs.YtjdhkpdjecegnaaGreatDoor
open Go.Abs
def zAx (p : zRc) : List S:=[.sl 8 ((List.map zAi) p.1),.sl 1 ((List.map (irow .i64)) p.2.1.1),.sl 1 ((List.map (irow .i64)) p.2.1.2),.sl 1 ((List.map (irow .i64)) p.2.2.1),.sl 1 ((List.map (irow .i64)) p.2.2.2)]
def zB9 : (Nd × Nd × List zRc × Int) → List S
| ⟨⟨p_origin_kind,p_origin_text,p_origin_cols,p_origin_kids⟩,⟨p_tree_kind,p_tree_text,p_tree_cols,p_tree_kids⟩,p_records,p_done⟩=>[.int .i64 p_origin_kind,.str p_origin_text,.int .i64 p_origin_cols,.sl 4 (Nd.encs p_origin_kids),.int .i64 p_tree_kind,.str p_tree_text,.int .i64 p_tree_cols,.sl 4 (Nd.encs p_tree_kids),.sl 5 ((List.map zAx) p_records),.int .i64 p_done]
def zN2 (n : Nat) (xs : List AV) (os : List Ob) (x : AV) (os' : List (Option Ob)) : Prop:=∃ (a0 : Nd) (y0 : Option (Nd × Nd × List zRc × Int)) (y1 : Int),zEl n a0 = some (y0,y1) ∧ xs = [.agg ((Nd.enc a0).map .s)] ∧ os = [] ∧ x = .tup [(match y0 with | none=>.s .np | some _=>.op 0 0),.s (.int .i64 y1)] ∧ os' = (match y0 with | none=>[] | some ⟨⟨o_origin_kind,o_origin_text,o_origin_cols,o_origin_kids⟩,⟨o_tree_kind,o_tree_text,o_tree_cols,o_tree_kids⟩,o_records,o_done⟩=>[some (.box 71 [.s (.int .i64 o_origin_kind),.s (.str o_origin_text),.s (.int .i64 o_origin_cols),.s (.sl 4 (Nd.encs o_origin_kids)),.s (.int .i64 o_tree_kind),.s (.str o_tree_text),.s (.int .i64 o_tree_cols),.s (.sl 4 (Nd.encs o_tree_kids)),.orow 1,.s (.int .i64 o_done)]),some (.row 47 5 ((List.map zAx) o_records))])
def zJl : zAt:=zB6 (fun xs os x os'=>∃ n,zN2 n xs os x os')
theorem zMU : PSound Tryz.prog 16 zJl:=by
 have gok : ∀ f s,look? f [(33,zCL),(34,zDV)] = some s → PSound Tryz.prog f s:=zAu (by
  simp only [List.forall_mem_cons]
  exact ⟨zC0,zEc,by simp⟩)
 refine PSound.withNil (zFL tokW Tryz.call16 Tryz.func16 rfl (fun xs os x os' h=>by obtain ⟨n,_,_,_,_,rfl,rfl,_,rfl⟩:=h; exact ⟨by show 1 ≤ 13; decide,Nat.zero_le _⟩) 13 rfl ?_) _;rintro xs os x os' w0 G0 B0 ⟨n,⟨n1A,n1C,n1D,n1B⟩,y0,y1,h,rfl,rfl,rfl,rfl⟩ _;rw [zEl] at h;refine zAa ?_;refine zAb [] [] rfl ?_;show Tri ..;refine zAa ?_;refine zAa ?_;refine zAb [] [] rfl ?_;obtain ⟨y2,hy2,h⟩:=zAc h;refine ⟨_,⟨_,_,_,hy2,rfl,rfl⟩,?_⟩
 show Tri ..;refine zAd rfl (fun hb=>?_) (fun hb=>?_)
 ·replace h:=zAn hb h;refine zAa ?_;refine zAb [] [] rfl ?_;show Tri ..;refine zAh ?_;obtain ⟨hj1,hk1⟩:=Prod.mk.inj (Option.some.inj h)
  subst hj1;subst hk1;unfold zBV;exact ⟨_,(Le.rnm [] [(2,.s (.np)),(3,.s (.int .i64 1))] [] 0 ⟨rfl,rfl,trivial⟩ trivial),rfl,rfl,trivial⟩
 ·replace h:=zAm hb h;refine zAg ?_;show Tri ..;refine zAa ?_;refine zDI (by exact tokW) (by exact gok) (by exact mixed) [12] [] [5] [] rfl (by decide +kernel) ?_;obtain ⟨⟨y3A,y3C,y3D,y3B⟩,hy3,h⟩:=zAc h;refine ⟨_,⟨_,_,hy3,rfl,rfl⟩,?_⟩
  obtain ⟨⟨y4A,y4C,y4D,y4B⟩,hy4,h⟩:=zAc h;refine ⟨_,⟨_,_,hy4,rfl,rfl⟩,?_⟩
  show Tri ..;refine zAj (Le.trans (Le.rnm [(0,0)] [(2,.op 0 0),(3,.s (.int .i64 0))] [(0,.box 71 [.s (.int .i64 y3A),.s (.str y3C),.s (.int .i64 y3D),.s (.sl 4 (Nd.encs y3B)),.s (.int .i64 y4A),.s (.str y4C),.s (.int .i64 y4D),.s (.sl 4 (Nd.encs y4B)),.nl 5,.s (.int .i64 0)])] 1 ⟨rfl,rfl,trivial⟩ ⟨rfl,⟨_,rfl,rfl⟩,trivial⟩) (Le.takeNil 0 8 47 rfl rfl (by decide))) ?_;refine zAh ?_;obtain ⟨hj1,hk1⟩:=Prod.mk.inj (Option.some.inj h)
  subst hj1;subst hk1;unfold zBV;exact ⟨_,(Le.rnm [(0,0),(1,1)] [(2,.op 0 0),(3,.s (.int .i64 0))] [(0,.box 71 [.s (.int .i64 y3A),.s (.str y3C),.s (.int .i64 y3D),.s (.sl 4 (Nd.encs y3B)),.s (.int .i64 y4A),.s (.str y4C),.s (.int .i64 y4D),.s (.sl 4 (Nd.encs y4B)),.orow 1,.s (.int .i64 0)]),(1,.row 47 5 ((List.map zAx) []))] 2 ⟨rfl,rfl,trivial⟩ ⟨rfl,⟨_,rfl,rfl⟩,rfl,⟨_,rfl,rfl⟩,trivial⟩),rfl,rfl,rfl,rfl,rfl,rfl,trivial⟩
def zSE (n : Nat) (xs : List AV) (r : Ret) : Prop:=∃ (a0 : List zO8) (y0 : List zO8),zGB n a0 = some y0 ∧ xs = [.s (.sl 8 ((List.map zAi) a0))] ∧ r = .row 54 8 ((List.map zAi) y0)
def zM9 : zAt:=zAG fun xs r=>∃ n,zSE n xs r
theorem zRA : PSound Tryz.prog 63 zM9:=by
 have gok : ∀ f s,look? f [(24,zJh)] = some s → PSound Tryz.prog f s:=zAu (by
  simp only [List.forall_mem_cons]
  exact ⟨zKa,by simp⟩)
 refine zAK tokW Tryz.call63 Tryz.func63 rfl (fun xs r h=>by obtain ⟨n,_,_,_,rfl,_⟩:=h; show 1 ≤ 19; decide) 19 rfl ?_;rintro xs r w0 G0 ⟨n,l1,y0,h,rfl,rfl⟩ _;rw [zGB] at h;refine zAa ?_;refine zAb [2] [] rfl ?_;show Tri ..;refine zAj (Le.rnm [] [(0,.s (.sl 8 ((List.map zAi) l1)))] [] 0 ⟨rfl,trivial⟩ trivial) ?_;refine zAa ?_;refine zAb [3] [] rfl ?_;show Tri ..
 refine zAj (Le.rnm [(0,0)] [(0,.s (.sl 8 ((List.map zAi) l1))),(3,.orow 0)] [(0,.row 54 8 ((List.map zAi) []))] 1 ⟨rfl,rfl,trivial⟩ ⟨rfl,⟨_,rfl,congrArg (Ob.row 54 8) (by simp [List.map_append,List.map_take,List.map_drop,irow,brow,zAQ,List.map_cons,List.map_nil,zAJ,Nd.encs_eq,Nd.enc,zAq,zAo,zAp,zAv,zAw,zAs,zAy,zAi,zAN,zAD,zAz,zAx,zB9])⟩,trivial⟩) ?_;refine zAa ?_;refine zAa ?_;refine zAb [] [7] rfl ?_;intro n2 hn2
 obtain rfl : (l1.length : Int) = n2:=(hn2.trans (congrArg (fun m : Nat=>(m : Int)) (rlen (fun _=>rfl) l1))).symm;show Tri ..;obtain ⟨l6,hl,h⟩:=zAc h;refine zAr ⟨ofL [(3,.orow 0)],ofH [(0,.row 54 8 ((List.map zAi) l6))],1⟩ ?_ (fun σ' hle=>?_)
 ·refine zAl (zAI (X:=Nat × Int × (List zO8)) (fun y=>match y with | (k,x4,l5)=>⟨ofL [(3,.orow 0),(6,.s (.sl 8 ((List.map zAi) l1))),(7,.s (.int .i64 (l1.length : Int))),(8,.s (.int .i64 x4))],ofH [(0,.row 54 8 ((List.map zAi) l5))],1⟩) (fun y=>zCU n l1 y.1 y.2.1 y.2.2 = some l6) (fun y=>y.1) (n,0,[]) hl ?_ ?_)
  ·exact (Le.rnm [(0,0)] _ _ _ ⟨rfl,rfl,rfl,rfl,trivial⟩ ⟨rfl,⟨_,rfl,rfl⟩,trivial⟩)
  ·rintro ⟨k,x4,l5⟩ h;cases k with
   | zero=>cases h
   | succ k =>
    replace h : zCU n l1 (k+1) x4 l5 = some l6:=h;rw [zCU] at h;refine zAa ?_;refine zAb [] [] rfl ?_;show Tri ..;refine zAa ?_;refine zAd rfl (fun hb=>?_) (fun hb=>?_)
    ·replace h:=zAn hb h;refine zAg ?_;show Tri ..;refine zAa ?_;refine zAl ?_;refine zAa ?_;refine zAb [5] [10] rfl ?_;obtain ⟨⟨e7A,e7W,e7Y,e7U,e7E,e7V,e7T,e7C⟩,he7,h⟩:=zAc h;refine And.intro (zAC (fun _=>rfl) he7).1 ?_;intro r8 hr8;obtain rfl : [.int .i64 e7A,.sl 1 ((List.map (irow .i64)) e7W),.int .i64 e7Y,.int .i64 e7U,.sl 4 (Nd.encs e7E),.int .i64 e7V,.str e7T,.str e7C] = r8:=(hr8.trans (zAC (fun _=>rfl) he7).2.1).symm;show Tri ..
     refine zAj (Le.giveBox 1 [.int .i64 e7A,.sl 1 ((List.map (irow .i64)) e7W),.int .i64 e7Y,.int .i64 e7U,.sl 4 (Nd.encs e7E),.int .i64 e7V,.str e7T,.str e7C] rfl rfl) ?_;refine zAb [16] [15] rfl ?_;obtain ⟨⟨y9A,y9W,y9Y,y9U,y9E,y9V,y9T,y9C⟩,hy9,h⟩:=zAc h;refine ⟨_,⟨_,_,_,hy9,rfl,rfl⟩,?_⟩
     intro r10 hr10;obtain rfl : (List.map zAi) [(y9A,y9W,y9Y,y9U,y9E,y9V,y9T,y9C)] = r10:=(hr10.trans (by simp [List.map_append,List.map_take,List.map_drop,irow,brow,zAQ,List.map_cons,List.map_nil,zAJ,Nd.encs_eq,Nd.enc,zAq,zAo,zAp,zAv,zAw,zAs,zAy,zAi,zAN,zAD,zAz,zAx,zB9])).symm;obtain ⟨hq,h⟩:=zAR h
     refine And.intro (show (((List.map zAi) l5).length + ((List.map zAi) [(y9A,y9W,y9Y,y9U,y9E,y9V,y9T,y9C)]).length) * 112 ≤ 140737488355328 ∧ ((List.map zAi) l5).length + ((List.map zAi) [(y9A,y9W,y9Y,y9U,y9E,y9V,y9T,y9C)]).length ≤ 9223372036854775807 from by simp only [List.length_append,List.length_cons,List.length_nil,List.length_map,rlen (fun _=>rfl)] at hq ⊢; omega) ?_;show Tri ..
     refine zAj (Le.rnm [(2,0)] [(3,.orow 0),(6,.s (.sl 8 ((List.map zAi) l1))),(7,.s (.int .i64 (l1.length : Int))),(8,.s (.int .i64 x4))] [(0,.row 54 8 ((List.map zAi) (l5 ++ [(y9A,y9W,y9Y,y9U,y9E,y9V,y9T,y9C)])))] 1 ⟨rfl,rfl,rfl,rfl,trivial⟩ ⟨rfl,⟨_,rfl,congrArg (Ob.row 54 8) (by simp [List.map_append,List.map_take,List.map_drop,irow,brow,zAQ,List.map_cons,List.map_nil,zAJ,Nd.encs_eq,Nd.enc,zAq,zAo,zAp,zAv,zAw,zAs,zAy,zAi,zAN,zAD,zAz,zAx,zB9])⟩,trivial⟩) ?_
     refine zAb [] [] rfl ?_;refine ⟨(k,IntKind.i64.wrap (x4 + 1),l5 ++ [(y9A,y9W,y9Y,y9U,y9E,y9V,y9T,y9C)]),h,(Le.rnm [(0,0)] _ _ _ ⟨rfl,rfl,rfl,rfl,trivial⟩ ⟨rfl,⟨_,rfl,rfl⟩,trivial⟩),Nat.lt_succ_self k⟩
    ·replace h:=zAm hb h;refine zAM ?_;cases h;exact (Le.rnm [(0,0)] _ _ _ ⟨rfl,trivial⟩ ⟨rfl,⟨_,rfl,rfl⟩,trivial⟩)
 ·show Tri ..;refine zAj hle ?_;refine zAa ?_;refine zAb [] [] rfl ?_;show Tri ..;refine zAh ?_;have hy:=Option.some.inj h;subst hy;unfold zAA;exact ⟨_,Le.refl _ _,0,rfl,rfl⟩
def zDQ (p : zCu) : List S:=[.sl 1 ((List.map (irow .i64)) p.1),.sl 1 ((List.map (irow .i64)) p.2)]
def zNY (xs : List AV) (r : Ret) : Prop:=∃ (a0 : zCu) (y0 : zCu),zCn a0 = some y0 ∧ xs = [.agg ((zDQ a0).map .s)] ∧ r = .val (.agg ((zDQ y0).map .s))
def zGN : zAt:=zAG fun xs r=>zNY xs r
theorem zIx : PSound Tryz.prog 41 zGN:=by
 have gok : ∀ f s,look? f [(43,zII)] = some s → PSound Tryz.prog f s:=zAu (by
  simp only [List.forall_mem_cons]
  exact ⟨zKI,by simp⟩)
 refine zAK tokW Tryz.call41 Tryz.func41 rfl (fun xs r h=>by obtain ⟨_,_,_,rfl,_⟩:=h; show 1 ≤ 10; decide) 10 rfl ?_;rintro xs r w0 G0 ⟨⟨c1Av,c1Aw⟩,y0,h,rfl,rfl⟩ _;rw [zCn] at h;refine zAa ?_;refine zAb [2] [] rfl ?_;show Tri ..;refine zAa ?_;refine zAB (by exact tokW) (by exact gok) (by exact mixed) [] [] [7] rfl (by decide +kernel) ?_;obtain ⟨y2,hy2,h⟩:=zAc h;refine ⟨_,⟨_,_,hy2,rfl,rfl⟩,?_⟩
 obtain ⟨y3,hy3,h⟩:=zAc h;refine ⟨_,⟨_,_,hy3,rfl,rfl⟩,?_⟩
 show Tri ..;refine zAh ?_;have hy:=Option.some.inj h;subst hy;unfold zAA;exact ⟨_,Le.refl _ _,rfl,rfl⟩
def zNZ (n : Nat) (xs : List AV) (r : Ret) : Prop:=∃ (a0 : zRc) (y0 : zRc),zCV n a0 = some y0 ∧ xs = [.agg ((zAx a0).map .s)] ∧ r = .val (.agg ((zAx y0).map .s))
def zJi : zAt:=zAG fun xs r=>∃ n,zNZ n xs r
theorem zMR : PSound Tryz.prog 39 zJi:=by
 have gok : ∀ f s,look? f [(63,zM9),(41,zGN)] = some s → PSound Tryz.prog f s:=zAu (by
  simp only [List.forall_mem_cons]
  exact ⟨zRA,zIx,by simp⟩)
 refine zAK tokW Tryz.call39 Tryz.func39 rfl (fun xs r h=>by obtain ⟨n,_,_,_,rfl,_⟩:=h; show 1 ≤ 13; decide) 13 rfl ?_;rintro xs r w0 G0 ⟨n,⟨r1Am,⟨r1Ao,r1Ap⟩,⟨r1Aq,r1Ar⟩⟩,y0,h,rfl,rfl⟩ _;rw [zCV] at h;refine zAa ?_;refine zAb [2] [] rfl ?_;show Tri ..;refine zAa ?_;refine zAB (by exact tokW) (by exact gok) (by exact mixed) [] [] [10] rfl (by decide +kernel) ?_;obtain ⟨y2,hy2,h⟩:=zAc h;refine ⟨_,⟨_,_,_,hy2,rfl,rfl⟩,?_⟩
 obtain ⟨⟨y3Av,y3Aw⟩,hy3,h⟩:=zAc h;refine ⟨_,⟨_,_,hy3,rfl,rfl⟩,?_⟩
 obtain ⟨⟨y4Av,y4Aw⟩,hy4,h⟩:=zAc h;refine ⟨_,⟨_,_,hy4,rfl,rfl⟩,?_⟩
 show Tri ..;refine zAh ?_;have hy:=Option.some.inj h;subst hy;unfold zAA;exact ⟨_,Le.refl _ _,rfl,rfl⟩
def zIc (n : Nat) (xs : List AV) (os : List Ob) (x : AV) (os' : List (Option Ob)) : Prop:=∃ (a0L : Int) (a0M : List UInt8) (a0N : Int) (a0O : List Nd) (a0P : Int) (a0Q : List UInt8) (a0R : Int) (a0S : List Nd) (a0K : List zRc) (a0G : Int) (a1 : zRc) (y0 : Int) (z0L : Int) (z0M : List UInt8) (z0N : Int) (z0O : List Nd) (z0P : Int) (z0Q : List UInt8) (z0R : Int) (z0S : List Nd) (z0K : List zRc) (z0G : Int),zBX n (Nd.mk a0L a0M a0N a0O,Nd.mk a0P a0Q a0R a0S,a0K,a0G) a1 = some (y0,(Nd.mk z0L z0M z0N z0O,Nd.mk z0P z0Q z0R z0S,z0K,z0G)) ∧ xs = [.op 0 0,.agg ((zAx a1).map .s)] ∧ os = [.box 71 [.s (.int .i64 a0L),.s (.str a0M),.s (.int .i64 a0N),.s (.sl 4 (Nd.encs a0O)),.s (.int .i64 a0P),.s (.str a0Q),.s (.int .i64 a0R),.s (.sl 4 (Nd.encs a0S)),.orow 1,.s (.int .i64 a0G)],.row 47 5 ((List.map zAx) a0K)] ∧ x = .s (.int .i64 y0) ∧ os' = [some (.box 71 [.s (.int .i64 z0L),.s (.str z0M),.s (.int .i64 z0N),.s (.sl 4 (Nd.encs z0O)),.s (.int .i64 z0P),.s (.str z0Q),.s (.int .i64 z0R),.s (.sl 4 (Nd.encs z0S)),.orow 2,.s (.int .i64 z0G)]),none,some (.row 47 5 ((List.map zAx) z0K))]
def zE9 : zAt:=zB6 (fun xs os x os'=>∃ n,zIc n xs os x os')
theorem zHL : PSound Tryz.prog 17 zE9:=by
 have gok : ∀ f s,look? f [(12,zFy),(39,zJi)] = some s → PSound Tryz.prog f s:=zAu (by
  simp only [List.forall_mem_cons]
  exact ⟨zHg,zMR,by simp⟩)
 refine PSound.withNil (zFL tokW Tryz.call17 Tryz.func17 rfl (fun xs os x os' h=>by obtain ⟨n,_,_,_,_,_,_,_,_,_,_,_,_,_,_,_,_,_,_,_,_,_,_,_,rfl,rfl,_,rfl⟩:=h; exact ⟨by show 2 ≤ 57; decide,by show 2 ≤ 3; decide⟩) 57 rfl ?_) _;rintro xs os x os' w0 G0 B0 ⟨n,o1L,o1M,o1N,o1O,o1P,o1Q,o1R,o1S,o1K,o1G,⟨r2Am,⟨r2Ao,r2Ap⟩,⟨r2Aq,r2Ar⟩⟩,y0,z0L,z0M,z0N,z0O,z0P,z0Q,z0R,z0S,z0K,z0G,h,rfl,rfl,rfl,rfl⟩ _
 rw [zBX] at h;refine zAa ?_;refine zAb [] [] rfl ?_;show Tri ..;refine zAa ?_;refine zAa ?_;refine zAb [] [] rfl ?_;show Tri ..;refine zAd rfl (fun h=>by cases h) (fun _=>?_)
 refine zAg ?_;show Tri ..;refine zAa ?_;refine zDI (by exact tokW) (by exact gok) (by exact mixed) [5] [] [3,11,12] [3] rfl (by decide +kernel) ?_;obtain ⟨⟨⟨y3A,y3C,y3D,y3B⟩,y4,y5⟩,hy3,h⟩:=zAc h;refine ⟨_,⟨_,_,_,_,_,_,hy3,rfl,rfl⟩,?_⟩
 show Tri ..;refine zAj (Le.giveBox 2 [.int .i64 y3A,.str y3C,.int .i64 y3D,.sl 4 (Nd.encs y3B)] rfl rfl) ?_;refine zAa ?_;refine zAa ?_;refine zAb [] [] rfl ?_;show Tri ..;refine zAd rfl (fun hb=>?_) (fun hb=>?_)
 ·replace h:=zAn hb h;refine zAa ?_;refine zAb [] [] rfl ?_;show Tri ..;refine zAh ?_;have hj0:=Option.some.inj h;obtain ⟨hv0,hw0⟩:=Prod.mk.inj hj0;subst hv0;obtain ⟨he1H,hr1H⟩:=Prod.mk.inj hw0;obtain ⟨he1I,hr1I⟩:=Prod.mk.inj hr1H;obtain ⟨he1Ac,he1Ad⟩:=Prod.mk.inj hr1I;obtain ⟨he2H,he2I,he2Ac,he2Ad⟩:=Nd.mk.inj he1H;subst he2H;subst he2I;subst he2Ac;subst he2Ad;obtain ⟨he3H,he3I,he3Ac,he3Ad⟩:=Nd.mk.inj he1I;subst he3H;subst he3I;subst he3Ac;subst he3Ad;subst he1Ac;subst he1Ad;unfold zBV
  exact ⟨_,(Le.rnm [(0,0),(1,2)] [(4,.s (.int .i64 y5))] [(0,.box 71 [.s (.int .i64 o1L),.s (.str o1M),.s (.int .i64 o1N),.s (.sl 4 (Nd.encs o1O)),.s (.int .i64 o1P),.s (.str o1Q),.s (.int .i64 o1R),.s (.sl 4 (Nd.encs o1S)),.orow 2,.s (.int .i64 o1G)]),(2,.row 47 5 ((List.map zAx) o1K))] 3 ⟨rfl,trivial⟩ ⟨rfl,⟨_,rfl,rfl⟩,rfl,⟨_,rfl,rfl⟩,trivial⟩),rfl,rfl,rfl,rfl,rfl,rfl,trivial⟩
 ·replace h:=zAm hb h;refine zAg ?_;show Tri ..;refine zAa ?_;refine zAa ?_;refine zAb [] [] rfl ?_;show Tri ..;refine zAd rfl (fun hb=>?_) (fun hb=>?_)
  ·replace h:=zAn hb h;refine zAa ?_;refine zAb [] [] rfl ?_;show Tri ..;refine zAh ?_;have hj0:=Option.some.inj h;obtain ⟨hv0,hw0⟩:=Prod.mk.inj hj0;subst hv0;obtain ⟨he1H,hr1H⟩:=Prod.mk.inj hw0;obtain ⟨he1I,hr1I⟩:=Prod.mk.inj hr1H;obtain ⟨he1Ac,he1Ad⟩:=Prod.mk.inj hr1I;obtain ⟨he2H,he2I,he2Ac,he2Ad⟩:=Nd.mk.inj he1H;subst he2H;subst he2I;subst he2Ac;subst he2Ad;obtain ⟨he3H,he3I,he3Ac,he3Ad⟩:=Nd.mk.inj he1I;subst he3H;subst he3I;subst he3Ac;subst he3Ad;subst he1Ac;subst he1Ad;unfold zBV
   exact ⟨_,(Le.rnm [(0,0),(1,2)] [(4,.s (.int .i64 6))] [(0,.box 71 [.s (.int .i64 o1L),.s (.str o1M),.s (.int .i64 o1N),.s (.sl 4 (Nd.encs o1O)),.s (.int .i64 o1P),.s (.str o1Q),.s (.int .i64 o1R),.s (.sl 4 (Nd.encs o1S)),.orow 2,.s (.int .i64 o1G)]),(2,.row 47 5 ((List.map zAx) o1K))] 3 ⟨rfl,trivial⟩ ⟨rfl,⟨_,rfl,rfl⟩,rfl,⟨_,rfl,rfl⟩,trivial⟩),rfl,rfl,rfl,rfl,rfl,rfl,trivial⟩
  ·replace h:=zAm hb h;refine zAg ?_;show Tri ..;refine zAa ?_;refine zAB (by exact tokW) (by exact gok) (by exact mixed) [38,42] [41] [4,8,9,13,16] rfl (by decide +kernel) ?_;obtain ⟨hq,h⟩:=zAR h;refine And.intro ⟨hq.1,Int.le_trans hq.2 (Int.ofNat_le.2 (Nat.le_of_eq (rlen (fun _=>rfl) _).symm))⟩ ?_;obtain ⟨⟨y6Am,⟨y6Ao,y6Ap⟩,⟨y6Aq,y6Ar⟩⟩,hy6,h⟩:=zAc h;refine ⟨_,⟨_,_,_,hy6,rfl,rfl⟩,?_⟩
   intro r7 hr7;obtain rfl : (List.map zAx) [(y6Am,(y6Ao,y6Ap),(y6Aq,y6Ar))] = r7:=(hr7.trans (by simp [List.map_append,List.map_take,List.map_drop,irow,brow,zAQ,List.map_cons,List.map_nil,zAJ,Nd.encs_eq,Nd.enc,zAq,zAo,zAp,zAv,zAw,zAs,zAy,zAi,zAN,zAD,zAz,zAx,zB9,zDQ])).symm;obtain ⟨hq,h⟩:=zAR h
   refine And.intro (show (((((List.map zAx) o1K)).take o1G.toNat).length + ((List.map zAx) [(y6Am,(y6Ao,y6Ap),(y6Aq,y6Ar))]).length) * 120 ≤ 140737488355328 ∧ ((((List.map zAx) o1K)).take o1G.toNat).length + ((List.map zAx) [(y6Am,(y6Ao,y6Ap),(y6Aq,y6Ar))]).length ≤ 9223372036854775807 from by simp only [List.length_append,List.length_cons,List.length_nil,List.length_map,List.length_take,rlen (fun _=>rfl)] at hq ⊢; omega) ?_;show Tri ..
   refine zAj (Le.rnm [(0,0),(4,2)] [(0,.op 0 0),(5,.s (.pt [.int .i64 y3A,.str y3C,.int .i64 y3D,.sl 4 (Nd.encs y3B)]))] [(0,.box 71 [.s (.int .i64 o1L),.s (.str o1M),.s (.int .i64 o1N),.s (.sl 4 (Nd.encs o1O)),.s (.int .i64 o1P),.s (.str o1Q),.s (.int .i64 o1R),.s (.sl 4 (Nd.encs o1S)),.orow 2,.s (.int .i64 o1G)]),(2,.row 47 5 ((List.map zAx) ((o1K.take o1G.toNat) ++ [(y6Am,(y6Ao,y6Ap),(y6Aq,y6Ar))])))] 3 ⟨rfl,rfl,trivial⟩ ⟨rfl,⟨_,rfl,rfl⟩,rfl,⟨_,rfl,congrArg (Ob.row 47 5) (by simp [List.map_append,List.map_take,List.map_drop,irow,brow,zAQ,List.map_cons,List.map_nil,zAJ,Nd.encs_eq,Nd.enc,zAq,zAo,zAp,zAv,zAw,zAs,zAy,zAi,zAN,zAD,zAz,zAx,zB9,zDQ])⟩,trivial⟩) ?_
   refine zAa ?_;refine zAB (by exact tokW) (by exact gok) (by exact mixed) [] [] [6,10,13] rfl (by decide +kernel) ?_;show Tri ..;refine zAa ?_;refine zAb [] [] rfl ?_;show Tri ..;refine zAh ?_;have hj0:=Option.some.inj h;obtain ⟨hv0,hw0⟩:=Prod.mk.inj hj0;subst hv0;obtain ⟨he1H,hr1H⟩:=Prod.mk.inj hw0;obtain ⟨he1I,hr1I⟩:=Prod.mk.inj hr1H;obtain ⟨he1Ac,he1Ad⟩:=Prod.mk.inj hr1I;obtain ⟨he2H,he2I,he2Ac,he2Ad⟩:=Nd.mk.inj he1H;subst he2H;subst he2I;subst he2Ac;subst he2Ad;obtain ⟨he3H,he3I,he3Ac,he3Ad⟩:=Nd.mk.inj he1I;subst he3H;subst he3I;subst he3Ac;subst he3Ad;subst he1Ac;subst he1Ad;unfold zBV
   exact ⟨_,(Le.rnm [(0,0),(2,2)] [(4,.s (.int .i64 0))] [(0,.box 71 [.s (.int .i64 o1L),.s (.str o1M),.s (.int .i64 o1N),.s (.sl 4 (Nd.encs o1O)),.s (.int .i64 y3A),.s (.str y3C),.s (.int .i64 y3D),.s (.sl 4 (Nd.encs y3B)),.orow 2,.s (.int .i64 (IntKind.i64.wrap (o1G + 1)))]),(2,.row 47 5 ((List.map zAx) ((o1K.take o1G.toNat) ++ [(y6Am,(y6Ao,y6Ap),(y6Aq,y6Ar))])))] 3 ⟨rfl,trivial⟩ ⟨rfl,⟨_,rfl,rfl⟩,rfl,⟨_,rfl,rfl⟩,trivial⟩),rfl,rfl,rfl,rfl,rfl,rfl,trivial⟩
def zHi (xs : List AV) (os : List Ob) (x : AV) (os' : List (Option Ob)) : Prop:=∃ (a0L : Int) (a0M : List UInt8) (a0N : Int) (a0O : List Nd) (a0P : Int) (a0Q : List UInt8) (a0R : Int) (a0S : List Nd) (a0K : List zRc) (a0G : Int) (y0 : Nd) (z0L : Int) (z0M : List UInt8) (z0N : Int) (z0O : List Nd) (z0P : Int) (z0Q : List UInt8) (z0R : Int) (z0S : List Nd) (z0K : List zRc) (z0G : Int),zBq (Nd.mk a0L a0M a0N a0O,Nd.mk a0P a0Q a0R a0S,a0K,a0G) = some (y0,(Nd.mk z0L z0M z0N z0O,Nd.mk z0P z0Q z0R z0S,z0K,z0G)) ∧ xs = [.op 0 0] ∧ os = [.box 71 [.s (.int .i64 a0L),.s (.str a0M),.s (.int .i64 a0N),.s (.sl 4 (Nd.encs a0O)),.s (.int .i64 a0P),.s (.str a0Q),.s (.int .i64 a0R),.s (.sl 4 (Nd.encs a0S)),.orow 1,.s (.int .i64 a0G)],.row 47 5 ((List.map zAx) a0K)] ∧ x = .agg ((Nd.enc y0).map .s) ∧ os' = [some (.box 71 [.s (.int .i64 z0L),.s (.str z0M),.s (.int .i64 z0N),.s (.sl 4 (Nd.encs z0O)),.s (.int .i64 z0P),.s (.str z0Q),.s (.int .i64 z0R),.s (.sl 4 (Nd.encs z0S)),.orow 2,.s (.int .i64 z0G)]),none,some (.row 47 5 ((List.map zAx) z0K))]
def zEu : zAt:=zB6 (fun xs os x os'=>zHi xs os x os')
theorem zG3 : PSound Tryz.prog 18 zEu:=by
 have gok : ∀ f s,look? f [(34,zDV)] = some s → PSound Tryz.prog f s:=zAu (by
  simp only [List.forall_mem_cons]
  exact ⟨zEc,by simp⟩)
 refine PSound.withNil (zFL tokW Tryz.call18 Tryz.func18 rfl (fun xs os x os' h=>by obtain ⟨_,_,_,_,_,_,_,_,_,_,_,_,_,_,_,_,_,_,_,_,_,_,rfl,rfl,_,rfl⟩:=h; exact ⟨by show 1 ≤ 11; decide,by show 2 ≤ 3; decide⟩) 11 rfl ?_) _;rintro xs os x os' w0 G0 B0 ⟨o1L,o1M,o1N,o1O,o1P,o1Q,o1R,o1S,o1K,o1G,y0,z0L,z0M,z0N,z0O,z0P,z0Q,z0R,z0S,z0K,z0G,h,rfl,rfl,rfl,rfl⟩ _;rw [zBq] at h;refine zAa ?_;refine zAb [2] [] rfl ?_;show Tri ..
 refine zAa ?_;refine zAa ?_;refine zAb [] [] rfl ?_;show Tri ..;refine zAd rfl (fun h=>by cases h) (fun _=>?_)
 refine zAg ?_;show Tri ..;refine zAa ?_;refine zAb [] [] rfl ?_;obtain ⟨⟨y2A,y2C,y2D,y2B⟩,hy2,h⟩:=zAc h;refine ⟨_,⟨_,_,hy2,rfl,rfl⟩,?_⟩
 show Tri ..;refine zAh ?_;have hj0:=Option.some.inj h;obtain ⟨hv0,hw0⟩:=Prod.mk.inj hj0;subst hv0;obtain ⟨he1H,hr1H⟩:=Prod.mk.inj hw0;obtain ⟨he1I,hr1I⟩:=Prod.mk.inj hr1H;obtain ⟨he1Ac,he1Ad⟩:=Prod.mk.inj hr1I;obtain ⟨he2H,he2I,he2Ac,he2Ad⟩:=Nd.mk.inj he1H;subst he2H;subst he2I;subst he2Ac;subst he2Ad;obtain ⟨he3H,he3I,he3Ac,he3Ad⟩:=Nd.mk.inj he1I;subst he3H;subst he3I;subst he3Ac;subst he3Ad;subst he1Ac;subst he1Ad;unfold zBV
 exact ⟨_,(Le.rnm [(0,0),(1,2),(2,3)] [(2,.op 3 0)] [(0,.box 71 [.s (.int .i64 o1L),.s (.str o1M),.s (.int .i64 o1N),.s (.sl 4 (Nd.encs o1O)),.s (.int .i64 o1P),.s (.str o1Q),.s (.int .i64 o1R),.s (.sl 4 (Nd.encs o1S)),.orow 2,.s (.int .i64 o1G)]),(2,.row 47 5 ((List.map zAx) o1K)),(3,.box 24 [.s (.int .i64 y2A),.s (.str y2C),.s (.int .i64 y2D),.s (.sl 4 (Nd.encs y2B))])] 4 ⟨rfl,trivial⟩ ⟨rfl,⟨_,rfl,rfl⟩,rfl,⟨_,rfl,rfl⟩,rfl,⟨_,rfl,rfl⟩,trivial⟩),rfl,rfl,rfl,rfl,rfl,rfl,trivial⟩
def zHj (n : Nat) (xs : List AV) (os : List Ob) (x : AV) (os' : List (Option Ob)) : Prop:=∃ (a0L : Int) (a0M : List UInt8) (a0N : Int) (a0O : List Nd) (a0P : Int) (a0Q : List UInt8) (a0R : Int) (a0S : List Nd) (a0K : List zRc) (a0G : Int) (y0 : zCu) (y1 : Int) (z0L : Int) (z0M : List UInt8) (z0N : Int) (z0O : List Nd) (z0P : Int) (z0Q : List UInt8) (z0R : Int) (z0S : List Nd) (z0K : List zRc) (z0G : Int),zBH n (Nd.mk a0L a0M a0N a0O,Nd.mk a0P a0Q a0R a0S,a0K,a0G) = some (y0,y1,(Nd.mk z0L z0M z0N z0O,Nd.mk z0P z0Q z0R z0S,z0K,z0G)) ∧ xs = [.op 0 0] ∧ os = [.box 71 [.s (.int .i64 a0L),.s (.str a0M),.s (.int .i64 a0N),.s (.sl 4 (Nd.encs a0O)),.s (.int .i64 a0P),.s (.str a0Q),.s (.int .i64 a0R),.s (.sl 4 (Nd.encs a0S)),.orow 1,.s (.int .i64 a0G)],.row 47 5 ((List.map zAx) a0K)] ∧ x = .tup [.agg ((zDQ y0).map .s),.s (.int .i64 y1)] ∧ os' = [some (.box 71 [.s (.int .i64 z0L),.s (.str z0M),.s (.int .i64 z0N),.s (.sl 4 (Nd.encs z0O)),.s (.int .i64 z0P),.s (.str z0Q),.s (.int .i64 z0R),.s (.sl 4 (Nd.encs z0S)),.orow 2,.s (.int .i64 z0G)]),none,some (.row 47 5 ((List.map zAx) z0K))]
def zEv : zAt:=zB6 (fun xs os x os'=>∃ n,zHj n xs os x os')
theorem zG4 : PSound Tryz.prog 19 zEv:=by
 have gok : ∀ f s,look? f [(40,zHb),(12,zFy),(41,zGN)] = some s → PSound Tryz.prog f s:=zAu (by
  simp only [List.forall_mem_cons]
  exact ⟨zKc,zHg,zIx,by simp⟩)
 refine PSound.withNil (zFL tokW Tryz.call19 Tryz.func19 rfl (fun xs os x os' h=>by obtain ⟨n,_,_,_,_,_,_,_,_,_,_,_,_,_,_,_,_,_,_,_,_,_,_,_,rfl,rfl,_,rfl⟩:=h; exact ⟨by show 1 ≤ 59; decide,by show 2 ≤ 3; decide⟩) 59 rfl ?_) _;rintro xs os x os' w0 G0 B0 ⟨n,o1L,o1M,o1N,o1O,o1P,o1Q,o1R,o1S,o1K,o1G,y0,y1,z0L,z0M,z0N,z0O,z0P,z0Q,z0R,z0S,z0K,z0G,h,rfl,rfl,rfl,rfl⟩ _;rw [zBH] at h;refine zAa ?_;refine zAb [2] [] rfl ?_
 show Tri ..;refine zAa ?_;refine zAa ?_;refine zAb [] [] rfl ?_;show Tri ..;refine zAd rfl (fun h=>by cases h) (fun _=>?_)
 refine zAg ?_;show Tri ..;refine zAa ?_;refine zAa ?_;refine zAb [] [] rfl ?_;show Tri ..;refine zAd rfl (fun hb=>?_) (fun hb=>?_)
 ·replace h:=zAn hb h;refine zAa ?_;refine zAb [] [] rfl ?_;show Tri ..;refine zAh ?_;have hj0:=Option.some.inj h;obtain ⟨hv0,hw0⟩:=Prod.mk.inj hj0;subst hv0;obtain ⟨hv1,hw1⟩:=Prod.mk.inj hw0;subst hv1;obtain ⟨he1H,hr1H⟩:=Prod.mk.inj hw1;obtain ⟨he1I,hr1I⟩:=Prod.mk.inj hr1H;obtain ⟨he1Ac,he1Ad⟩:=Prod.mk.inj hr1I;obtain ⟨he2H,he2I,he2Ac,he2Ad⟩:=Nd.mk.inj he1H;subst he2H;subst he2I;subst he2Ac;subst he2Ad;obtain ⟨he3H,he3I,he3Ac,he3Ad⟩:=Nd.mk.inj he1I;subst he3H;subst he3I;subst he3Ac;subst he3Ad;subst he1Ac;subst he1Ad;unfold zBV
  exact ⟨_,(Le.rnm [(0,0),(1,2),(2,3)] [(2,.op 3 0),(3,.s (.int .i64 8))] [(0,.box 71 [.s (.int .i64 o1L),.s (.str o1M),.s (.int .i64 o1N),.s (.sl 4 (Nd.encs o1O)),.s (.int .i64 o1P),.s (.str o1Q),.s (.int .i64 o1R),.s (.sl 4 (Nd.encs o1S)),.orow 2,.s (.int .i64 o1G)]),(2,.row 47 5 ((List.map zAx) o1K)),(3,.box 45 [.nl 1,.nl 1])] 4 ⟨rfl,rfl,trivial⟩ ⟨rfl,⟨_,rfl,rfl⟩,rfl,⟨_,rfl,rfl⟩,rfl,⟨_,rfl,rfl⟩,trivial⟩),rfl,rfl,rfl,rfl,rfl,rfl,trivial⟩
 ·replace h:=zAm hb h;refine zAg ?_;show Tri ..;refine zAa ?_;refine zDI (by exact tokW) (by exact gok) (by exact mixed) [4] [] [3,7,9,10,11,12] [3,7,9,10] rfl (by decide +kernel) ?_;obtain ⟨⟨e2Am,⟨e2Ao,e2Ap⟩,⟨e2Aq,e2Ar⟩⟩,he2,h⟩:=zAc h;refine And.intro (zAC (fun _=>rfl) he2).1 ?_;refine And.intro (zAC (fun _=>rfl) he2).2.2 ?_;refine ⟨_,(zAC (fun _=>rfl) he2).2.1,?_⟩
  show Tri ..;refine zAj (Le.giveBox 3 [.sl 8 ((List.map zAi) e2Am),.sl 1 ((List.map (irow .i64)) e2Ao),.sl 1 ((List.map (irow .i64)) e2Ap),.sl 1 ((List.map (irow .i64)) e2Aq),.sl 1 ((List.map (irow .i64)) e2Ar)] rfl rfl) ?_;refine zAa ?_;refine zDI (by exact tokW) (by exact gok) (by exact mixed) [5] [] [3,12,13] [3] rfl (by decide +kernel) ?_;obtain ⟨y3,hy3,h⟩:=zAc h;refine ⟨_,⟨_,_,_,hy3,rfl,rfl⟩,?_⟩
  obtain ⟨⟨⟨y4A,y4C,y4D,y4B⟩,y5,y6⟩,hy4,h⟩:=zAc h;refine ⟨_,⟨_,_,_,_,_,_,hy4,rfl,rfl⟩,?_⟩
  show Tri ..;refine zAj (Le.giveBox 4 [.int .i64 y4A,.str y4C,.int .i64 y4D,.sl 4 (Nd.encs y4B)] rfl rfl) ?_;refine zAa ?_;refine zAa ?_;refine zAb [] [] rfl ?_;show Tri ..;refine zAd rfl (fun hb=>?_) (fun hb=>?_)
  ·replace h:=zAn hb h;refine zAa ?_;refine zAb [] [] rfl ?_;show Tri ..;refine zAh ?_;have hj0:=Option.some.inj h;obtain ⟨hv0,hw0⟩:=Prod.mk.inj hj0;subst hv0;obtain ⟨hv1,hw1⟩:=Prod.mk.inj hw0;subst hv1;obtain ⟨he1H,hr1H⟩:=Prod.mk.inj hw1;obtain ⟨he1I,hr1I⟩:=Prod.mk.inj hr1H;obtain ⟨he1Ac,he1Ad⟩:=Prod.mk.inj hr1I;obtain ⟨he2H,he2I,he2Ac,he2Ad⟩:=Nd.mk.inj he1H;subst he2H;subst he2I;subst he2Ac;subst he2Ad;obtain ⟨he3H,he3I,he3Ac,he3Ad⟩:=Nd.mk.inj he1I;subst he3H;subst he3I;subst he3Ac;subst he3Ad;subst he1Ac;subst he1Ad;unfold zBV
   exact ⟨_,(Le.rnm [(0,0),(1,2),(2,3)] [(2,.op 3 0),(3,.s (.int .i64 y6))] [(0,.box 71 [.s (.int .i64 o1L),.s (.str o1M),.s (.int .i64 o1N),.s (.sl 4 (Nd.encs o1O)),.s (.int .i64 o1P),.s (.str o1Q),.s (.int .i64 o1R),.s (.sl 4 (Nd.encs o1S)),.orow 2,.s (.int .i64 o1G)]),(2,.row 47 5 ((List.map zAx) o1K)),(3,.box 45 [.nl 1,.nl 1])] 4 ⟨rfl,rfl,trivial⟩ ⟨rfl,⟨_,rfl,rfl⟩,rfl,⟨_,rfl,rfl⟩,rfl,⟨_,rfl,rfl⟩,trivial⟩),rfl,rfl,rfl,rfl,rfl,rfl,trivial⟩
  ·replace h:=zAm hb h;refine zAg ?_;show Tri ..;refine zAa ?_;refine zAB (by exact tokW) (by exact gok) (by exact mixed) [] [] [6,10,13] rfl (by decide +kernel) ?_;show Tri ..;refine zAa ?_;refine zAb [] [] rfl ?_;obtain ⟨⟨y7Av,y7Aw⟩,hy7,h⟩:=zAc h;refine ⟨_,⟨_,_,hy7,rfl,rfl⟩,?_⟩
   show Tri ..;refine zAh ?_;have hj0:=Option.some.inj h;obtain ⟨hv0,hw0⟩:=Prod.mk.inj hj0;subst hv0;obtain ⟨hv1,hw1⟩:=Prod.mk.inj hw0;subst hv1;obtain ⟨he1H,hr1H⟩:=Prod.mk.inj hw1;obtain ⟨he1I,hr1I⟩:=Prod.mk.inj hr1H;obtain ⟨he1Ac,he1Ad⟩:=Prod.mk.inj hr1I;obtain ⟨he2H,he2I,he2Ac,he2Ad⟩:=Nd.mk.inj he1H;subst he2H;subst he2I;subst he2Ac;subst he2Ad;obtain ⟨he3H,he3I,he3Ac,he3Ad⟩:=Nd.mk.inj he1I;subst he3H;subst he3I;subst he3Ac;subst he3Ad;subst he1Ac;subst he1Ad;unfold zBV
   exact ⟨_,(Le.rnm [(0,0),(1,2),(2,3)] [(2,.op 3 0),(3,.s (.int .i64 0))] [(0,.box 71 [.s (.int .i64 o1L),.s (.str o1M),.s (.int .i64 o1N),.s (.sl 4 (Nd.encs o1O)),.s (.int .i64 y4A),.s (.str y4C),.s (.int .i64 y4D),.s (.sl 4 (Nd.encs y4B)),.orow 2,.s (.int .i64 (IntKind.i64.wrap (o1G - 1)))]),(2,.row 47 5 ((List.map zAx) o1K)),(3,.box 45 [.s (.sl 1 ((List.map (irow .i64)) y7Av)),.s (.sl 1 ((List.map (irow .i64)) y7Aw))])] 4 ⟨rfl,rfl,trivial⟩ ⟨rfl,⟨_,rfl,rfl⟩,rfl,⟨_,rfl,rfl⟩,rfl,⟨_,rfl,rfl⟩,trivial⟩),rfl,rfl,rfl,rfl,rfl,rfl,trivial⟩
def zJZ (n : Nat) (xs : List AV) (r : Ret) : Prop:=∃ (a0 : Nd) (a1 : Nd) (y0 : Bool),zCG n a0 a1 = some y0 ∧ xs = [.agg ((Nd.enc a0).map .s),.agg ((Nd.enc a1).map .s)] ∧ r = .val (.s (.bool y0))
def zJ2 : zAt:=zAG fun xs r=>∃ n,zJZ n xs r
set_option maxHeartbeats 40000000 in
theorem zJH : PSound Tryz.prog 5 zJ2:=by
 have gok : ∀ f s,look? f [(6,zLu),(7,zPr),(9,zLD),(8,zNa),(16,zJl),(17,zE9),(18,zEu),(15,zLC),(19,zEv)] = some s → PSound Tryz.prog f s:=zAu (by
  simp only [List.forall_mem_cons]
  exact ⟨zQn,zS0,zQx,zRB,zMU,zHL,zG3,zQv,zG4,by simp⟩)
 refine zAK tokW Tryz.call5 Tryz.func5 rfl (fun xs r h=>by obtain ⟨n,_,_,_,_,rfl,_⟩:=h; show 2 ≤ 71; decide) 71 rfl ?_;rintro xs r w0 G0 ⟨n,⟨a1A,a1C,a1D,a1B⟩,⟨a2A,a2C,a2D,a2B⟩,y0,h,rfl,rfl⟩ _;rw [zCG] at h;refine zAa ?_;refine zAb [] [] rfl ?_;show Tri ..;refine zAa ?_;refine zAa ?_;refine zAb [] [] rfl ?_;obtain ⟨y3,hy3,h⟩:=zAc h;refine ⟨_,⟨_,_,hy3,rfl,rfl⟩,?_⟩
 show Tri ..;refine zAd rfl (fun hb=>?_) (fun hb=>?_)
 ·replace h:=zAn hb h;refine zAa ?_;refine zAb [] [] rfl ?_;show Tri ..;refine zAh ?_;have hy:=Option.some.inj h;subst hy;unfold zAA;exact ⟨_,Le.refl _ _,rfl,rfl⟩
 ·replace h:=zAm hb h;refine zAg ?_;show Tri ..;refine zAa ?_;refine zAa ?_;obtain ⟨x4,hj,h⟩:=zAc h;refine zAr ⟨ofL [(2,.s (.pt [.int .i64 a1A,.str a1C,.int .i64 a1D,.sl 4 (Nd.encs a1B)])),(3,.s (.pt [.int .i64 a2A,.str a2C,.int .i64 a2D,.sl 4 (Nd.encs a2B)])),(26,.s (.bool x4))],fun _=>none,0⟩ ?_ (fun σ' hle=>?_)
  ·replace h:=hj;refine zAb [] [17,22] rfl ?_;obtain ⟨y5,hy5,h⟩:=zAc h;refine ⟨_,⟨_,_,_,_,hy5,rfl,rfl⟩,?_⟩
   intro b hb;cases b with
   | true =>
    replace h:=zAn hb.symm h;intro b hb;subst hb;cases h;exact (Le.forget _ ⟨rfl,rfl,rfl,trivial⟩)
   | false =>
    replace h:=zAm hb.symm h;obtain ⟨y6,hy6,h⟩:=zAc h;refine ⟨_,⟨_,_,_,hy6,rfl,rfl⟩,?_⟩
    intro b hb;cases b with
    | true =>
     replace h:=zAn hb.symm h;cases h;exact (Le.forget _ ⟨rfl,rfl,rfl,trivial⟩)
    | false =>
     replace h:=zAm hb.symm h;obtain ⟨y7,hy7,h⟩:=zAc h;refine ⟨_,⟨_,_,_,hy7,rfl,rfl⟩,?_⟩
     cases h;exact (Le.forget _ ⟨rfl,rfl,rfl,trivial⟩)
  ·show Tri ..;refine zAj hle ?_;refine zAd rfl (fun hb=>?_) (fun hb=>?_)
   ·replace h:=zAn hb h;refine zAa ?_;refine zAb [] [] rfl ?_;show Tri ..;refine zAh ?_;have hy:=Option.some.inj h;subst hy;unfold zAA;exact ⟨_,Le.refl _ _,rfl,rfl⟩
   ·replace h:=zAm hb h;refine zAg ?_;show Tri ..;refine zAa ?_;refine zAb [] [] rfl ?_;obtain ⟨⟨y8,y9⟩,hy8,h⟩:=zAc h;refine ⟨_,⟨_,_,_,_,_,hy8,rfl,rfl⟩,?_⟩
    show Tri ..;refine zAa ?_;refine zAb [] [] rfl ?_;obtain ⟨⟨y10,y11⟩,hy10,h⟩:=zAc h;cases y10 with
    | none =>
     obtain ⟨hq,h⟩:=zAR h;subst hq;refine ⟨_,_,⟨_,_,_,_,hy10,rfl,rfl,rfl,rfl⟩,?_⟩
     show Tri ..;refine zAa ?_;refine zAa ?_;obtain ⟨_,hj,h⟩:=zAc h;refine zAr ⟨ofL [(2,.s (.pt [.int .i64 a1A,.str a1C,.int .i64 a1D,.sl 4 (Nd.encs a1B)])),(7,.s (.np)),(57,.s (.bool true))],fun _=>none,0⟩ ?_ (fun σ' hle=>?_)
     ·replace h:=hj;refine zAB (by exact tokW) (by exact gok) (by exact mixed) [] [40] [] rfl (by decide +kernel) ?_;intro b hb;cases b with
      | true =>
       replace h:=zAn hb.symm h;cases h;exact (Le.rnm [] _ [] 0 ⟨rfl,rfl,rfl,trivial⟩ trivial)
      | false =>
       replace h:=zAm hb.symm h;cases h;exact (Le.rnm [] _ [] 0 ⟨rfl,rfl,rfl,trivial⟩ trivial)
     ·show Tri ..;refine zAj hle ?_;refine zAd rfl (fun _=>?_) (fun h=>by cases h)
      refine zAa ?_;refine zAb [] [] rfl ?_;show Tri ..;refine zAh ?_;have hy:=Option.some.inj h;subst hy;unfold zAA;exact ⟨_,Le.refl _ _,rfl,rfl⟩
    | some w12 =>
     obtain ⟨⟨w12L,w12M,w12N,w12O⟩,⟨w12P,w12Q,w12R,w12S⟩,w12K,w12G⟩:=w12;obtain ⟨hq,h⟩:=zAR h;subst hq;refine ⟨_,_,⟨_,_,_,_,hy10,rfl,rfl,rfl,rfl⟩,?_⟩
     show Tri ..;refine zAa ?_;refine zAa ?_;obtain ⟨⟨x13,x14,x15,x16,x17,x18,x19,x20,x21,x22,l23⟩,hj,h⟩:=zAc h;refine zAr ⟨ofL [(2,.s (.pt [.int .i64 a1A,.str a1C,.int .i64 a1D,.sl 4 (Nd.encs a1B)])),(7,.op 0 0),(57,.s (.bool x13))],ofH [(0,.box 71 [.s (.int .i64 x14),.s (.str x15),.s (.int .i64 x16),.s (.sl 4 (Nd.encs x17)),.s (.int .i64 x18),.s (.str x19),.s (.int .i64 x20),.s (.sl 4 (Nd.encs x21)),.orow 1,.s (.int .i64 x22)]),(1,.row 47 5 ((List.map zAx) l23))],2⟩ ?_ (fun σ' hle=>?_)
     ·replace h:=hj;refine zAB (by exact tokW) (by exact gok) (by exact mixed) [] [40,51] [10,15] rfl (by decide +kernel) ?_;intro b hb;cases b with
      | true =>
       replace h:=zAn hb.symm h;intro b hb;subst hb;cases h;exact (Le.rnm [(0,0),(1,1)] _ _ _ ⟨rfl,rfl,rfl,trivial⟩ ⟨rfl,⟨_,rfl,rfl⟩,rfl,⟨_,rfl,rfl⟩,trivial⟩)
      | false =>
       replace h:=zAm hb.symm h;obtain ⟨⟨y24,⟨⟨w25L,w25M,w25N,w25O⟩,⟨w25P,w25Q,w25R,w25S⟩,w25K,w25G⟩⟩,hy24,h⟩:=zAc h;refine ⟨_,_,⟨_,_,_,_,_,_,_,_,_,_,_,_,_,_,_,_,_,_,_,_,_,_,_,hy24,rfl,rfl,rfl,rfl⟩,?_⟩
       intro b hb;cases b with
       | true =>
        replace h:=zAn hb.symm h;cases h;exact (Le.rnm [(0,0),(2,1)] _ _ _ ⟨rfl,rfl,rfl,trivial⟩ ⟨rfl,⟨_,rfl,rfl⟩,rfl,⟨_,rfl,rfl⟩,trivial⟩)
       | false =>
        replace h:=zAm hb.symm h;obtain ⟨⟨⟨y26A,y26C,y26D,y26B⟩,⟨⟨w27L,w27M,w27N,w27O⟩,⟨w27P,w27Q,w27R,w27S⟩,w27K,w27G⟩⟩,hy26,h⟩:=zAc h;refine ⟨_,_,⟨_,_,_,_,_,_,_,_,_,_,_,_,_,_,_,_,_,_,_,_,_,hy26,rfl,rfl,rfl,rfl⟩,?_⟩
        obtain ⟨y28,hy28,h⟩:=zAc h;refine ⟨_,⟨_,_,_,_,hy28,rfl,rfl⟩,?_⟩
        cases h;exact (Le.rnm [(0,0),(3,1)] _ _ _ ⟨rfl,rfl,rfl,trivial⟩ ⟨rfl,⟨_,rfl,rfl⟩,rfl,⟨_,rfl,rfl⟩,trivial⟩)
     ·show Tri ..;refine zAj hle ?_;refine zAd rfl (fun hb=>?_) (fun hb=>?_)
      ·replace h:=zAn hb h;refine zAa ?_;refine zAb [] [] rfl ?_;show Tri ..;refine zAh ?_;have hy:=Option.some.inj h;subst hy;unfold zAA;exact ⟨_,Le.refl _ _,rfl,rfl⟩
      ·replace h:=zAm hb h;refine zAg ?_;show Tri ..;refine zAa ?_;refine zAb [9] [] rfl ?_;obtain ⟨⟨⟨y29Av,y29Aw⟩,y30,⟨⟨w31L,w31M,w31N,w31O⟩,⟨w31P,w31Q,w31R,w31S⟩,w31K,w31G⟩⟩,hy29,h⟩:=zAc h;refine ⟨_,_,⟨_,_,_,_,_,_,_,_,_,_,_,_,_,_,_,_,_,_,_,_,_,_,_,hy29,rfl,rfl,rfl,rfl⟩,?_⟩
       show Tri ..;refine zAj (Le.giveBox 3 [.sl 1 ((List.map (irow .i64)) y29Av),.sl 1 ((List.map (irow .i64)) y29Aw)] rfl rfl) ?_;refine zAa ?_;obtain ⟨x32,hj,h⟩:=zAc h;refine zAr ⟨ofL [(4,.s (.bool x32))],fun _=>none,0⟩ ?_ (fun σ' hle=>?_)
       ·replace h:=hj;refine zAB (by exact tokW) (by exact gok) (by exact mixed) [] [65] [4] rfl (by decide +kernel) ?_;intro b hb;cases b with
        | true =>
         replace h:=zAn hb.symm h;obtain ⟨⟨⟨y33A,y33C,y33D,y33B⟩,⟨⟨w34L,w34M,w34N,w34O⟩,⟨w34P,w34Q,w34R,w34S⟩,w34K,w34G⟩⟩,hy33,h⟩:=zAc h;refine ⟨_,_,⟨_,_,_,_,_,_,_,_,_,_,_,_,_,_,_,_,_,_,_,_,_,hy33,rfl,rfl,rfl,rfl⟩,?_⟩
         obtain ⟨y35,hy35,h⟩:=zAc h;refine ⟨_,⟨_,_,_,_,hy35,rfl,rfl⟩,?_⟩
         cases h;exact (Le.rnm [] _ [] 0 ⟨rfl,trivial⟩ trivial)
        | false =>
         replace h:=zAm hb.symm h;cases h;exact (Le.rnm [] _ [] 0 ⟨rfl,trivial⟩ trivial)
       ·show Tri ..;refine zAj hle ?_;refine zAh ?_;have hy:=Option.some.inj h;subst hy;unfold zAA;exact ⟨_,Le.refl _ _,rfl,rfl⟩
end Go.Proofs.YtjdhkpdjecegnaaGreatDoor
namespace Go.Proofs.YtjdhkpdjecegnaaGreatDoor
open Go.Abs
theorem zSB {n : Nat} {ss : List S} (h : Typed T n 24 ss) : ∃ t : Nd,ss = t.enc ∧ t.rng :=
 zTa (T:=T) (e:=24) (s:=22) (ki:=3) (st:=9) rfl rfl rfl rfl rfl rfl rfl rfl rfl n h
end Go.Proofs.YtjdhkpdjecegnaaGreatDoor
namespace Go.Proofs.YtjdhkpdjecegnaaGreatDoor
open Go.Abs
theorem zBg {φ : Prop} [Decidable φ] (h : φ) : decide φ = true:=decide_eq_true h
theorem zBf {φ : Prop} [Decidable φ] (h : ¬ φ) : decide φ = false:=decide_eq_false h
theorem zIA {F : Nd → Option Int} {ks : List Nd} (hF : ∀ v ∈ ks,F v = some (v.cnt : Int)) :
  ∀ (k i : Nat) (o : Nat),ks.length - i < k → i ≤ ks.length → o + Nd.cnts (ks.drop i) ≤ 1073741824 → ks.length ≤ 1073741824 → zCx F ks k (o : Int) (i : Int) = some ((o + Nd.cnts (ks.drop i) : Nat) : Int)
 | 0,_,_,h,_,_,_=>by omega
 | k + 1,i,o,hk,hi,ho,hl=>by
  unfold zCx
  by_cases h : i < ks.length
  ·rw [zBg (Int.ofNat_lt.2 h),cond_true,zBx h]
   have hd:=Nd.cnts_drop h;have hf:=hF _ (List.getElem_mem h)
   rcases e : ks[i] with ⟨a,b,c,d⟩
   rw [e] at hd hf;simp only [Option.bind_some,hf]
   rw [wrap64_in (by omega) (by omega),zAX (by omega),← Int.natCast_add,zIA hF k (i + 1) _ (by omega) (by omega) (by omega) hl,hd]
   congr 2; omega
  ·rw [zBf (by omega),cond_false]
   obtain rfl : i = ks.length :=(by omega);simp [Nd.cnts]
theorem zKM : ∀ (n : Nat) (t : Nd),t.cnt < n → t.cnt ≤ 67108864 → zCW n t = some (t.cnt : Int)
 | 0,_,h,_=>by omega
 | n + 1,.mk a b c ks,h,hb=>by
  simp only [Nd.cnt] at h hb;have hl:=Nd.cnts_len ks;unfold zCW;have:=zIA (F:=zCW n) (ks:=ks) (fun v hv=>zKM n v (by have:=Nd.cnts_mem hv; omega) (by have:=Nd.cnts_mem hv; omega)) n 0 1 (by omega) (by omega) (by simp; omega) (by omega)
  rw [show ((0 : Nat) : Int) = 0 from rfl,show ((1 : Nat) : Int) = 1 from rfl] at this;rw [this]
  simp only [Option.bind_some,List.drop_zero,Nd.cnt]
  congr 2; omega
def scnt : List (Nd × Int) → Nat
 | []=>0
 | p :: l=>p.1.cnt + scnt l
theorem zI4 : ∀ a b : List (Nd × Int),scnt (a ++ b) = scnt a + scnt b
 | [],b=>by simp [scnt]
 | v :: a,b=>by simp only [List.cons_append,scnt,zI4 a b]; omega
theorem zOX : ∀ a : List (Nd × Int),a.length ≤ scnt a
 | []=>Nat.le_refl _
 | v :: a=>by have:=zOX a; have:=v.1.cnt_pos; simp only [scnt,List.length_cons]; omega
theorem zNp {ks : List Nd} {d : Int} : ∀ (k i : Nat) (l : List (Nd × Int)),ks.length - i < k → i ≤ ks.length → scnt l + Nd.cnts (ks.drop i) ≤ 1073741824 → ks.length ≤ 1073741824 →
  ∃ l',zCw ks d k (i : Int) l = some l' ∧ scnt l' = scnt l + Nd.cnts (ks.drop i)
 | 0,_,_,h,_,_,_=>by omega
 | k + 1,i,l,hk,hi,ho,hl=>by
  unfold zCw
  by_cases h : i < ks.length
  ·rw [zBg (Int.ofNat_lt.2 h),cond_true,zBx h]
   have hd:=Nd.cnts_drop h;rcases e : ks[i] with ⟨a,b,c,e4⟩
   rw [e] at hd;have hp:=(Nd.mk a b c e4).cnt_pos;have hll:=zOX l;simp only [Option.bind_some]
   rw [zCg (by simp only [List.length_singleton]; omega),zAX (by omega)]
   have hs : scnt (l ++ [(Nd.mk a b c e4,IntKind.i64.wrap (d + 1))]) = scnt l + (Nd.mk a b c e4).cnt :=(by rw [zI4]; simp [scnt]);obtain ⟨l',h1,h2⟩:=zNp (ks:=ks) (d:=d) k (i + 1) (l ++ [(Nd.mk a b c e4,IntKind.i64.wrap (d + 1))]) (by omega) (by omega) (by omega) hl;exact ⟨l',h1,by omega⟩
  ·rw [zBf (by omega),cond_false]
   obtain rfl : i = ks.length :=(by omega);exact ⟨l,rfl,by simp [Nd.cnts]⟩
theorem zNo (n : Nat) : ∀ (k : Nat) (x : Nat) (l : List (Nd × Int)),scnt l < k → scnt l < n → x + scnt l ≤ 67108864 → zCv n k (x : Int) l = some ((x + scnt l : Nat) : Int)
 | 0,_,_,h,_,_=>by omega
 | k + 1,x,l,hk,hn,hx=>by
  unfold zCv;rcases List.eq_nil_or_concat l with rfl | ⟨l,p,rfl⟩
  ·simp [scnt]
  ·rw [List.concat_eq_append] at *;obtain ⟨⟨a,b,c,ks⟩,d⟩:=p;have hs : scnt (l ++ [(Nd.mk a b c ks,d)]) = scnt l + (Nd.cnts ks + 1) :=(by rw [zI4]; simp [scnt,Nd.cnt]);have hll:=zOX l;have hlk:=Nd.cnts_len ks;have hlen : ((l ++ [(Nd.mk a b c ks,d)]).length : Int) = (l.length : Int) + 1 :=(by simp);have hw : IntKind.i64.wrap (((l ++ [(Nd.mk a b c ks,d)]).length : Int) - 1) = (l.length : Int) :=(by rw [hlen,wrap64_in (by omega) (by omega)]; omega);rw [zBg (by omega),cond_true,hw,zBx (by simp)]
   simp only [List.getElem_concat_length,Option.bind_some]
   rw [zCg (by omega)]
   simp only [zEN,Option.bind_some,Int.toNat_natCast,List.take_left]
   obtain ⟨l',h1,h2⟩:=zNp (ks:=ks) (d:=d) n 0 l (by omega) (by omega) (by simp; omega) (by omega)
   rw [List.drop_zero] at h2;rw [show ((0 : Nat) : Int) = 0 from rfl] at h1;rw [h1,Option.bind_some,zAX (by omega),zNo n k (x + 1) l' (by omega) (by omega) (by omega)]
   congr 2; omega
theorem zOx (n : Nat) (t : Nd) (h : t.cnt < n) (hb : t.cnt ≤ 67108864) : zEX n t = some (t.cnt : Int):=by
 obtain ⟨a,b,c,ks⟩:=t;have:=zNo n n 0 [(.mk a b c ks,1)] (by simpa [scnt] using h) (by simpa [scnt] using h) (by simp only [scnt]; omega)
 rw [show ((0 : Nat) : Int) = 0 from rfl] at this;simp only [zEX,zG1,this,Option.bind_some,scnt]
 congr 2; omega
theorem zQc {F : Nd → Int → Option Int} {ks : List Nd} {b : Nat} (hF : ∀ (v : Nd) (m : Nat),m ≤ b → ∃ r,F v (m : Int) = some r ∧ -1 ≤ r ∧ r < m ∧ (0 ≤ r → r + v.cnt = m)) :
  ∀ (k i : Nat) (m : Int),m + 1 < k → -1 ≤ m → m ≤ b → i ≤ ks.length → (i : Int) + m < 4611686018427387904 → ∃ r,zCp F ks k m (i : Int) = some r ∧ -1 ≤ r ∧ r ≤ m ∧ (0 ≤ r → r + Nd.cnts (ks.drop i) = m)
 | 0,_,_,h,_,_,_,_=>by omega
 | k + 1,i,m,hk,hm,hb,hi,hx=>by
  unfold zCp
  by_cases h : i < ks.length
  ·rw [zBg (Int.ofNat_lt.2 h),cond_true]
   simp only [Option.bind_some]
   by_cases h0 : 0 ≤ m
   ·rw [zBg h0,cond_true,zBx h]
    have hd:=Nd.cnts_drop h;rcases e : ks[i] with ⟨e1,e2,e3,e4⟩
    rw [e] at hd;simp only [Option.bind_some]
    obtain ⟨m',rfl⟩:=Int.eq_ofNat_of_zero_le h0;obtain ⟨r,h1,h2,h3,h4⟩:=hF (.mk e1 e2 e3 e4) m' (by omega)
    rw [h1,Option.bind_some,zAX (by omega)]
    obtain ⟨r',g1,g2,g3,g4⟩:=zQc (ks:=ks) hF k (i + 1) r (by omega) h2 (by omega) (by omega) (by omega)
    exact ⟨r',g1,g2,by omega,fun g=>by have:=g4 g; have:=h4 (by omega); omega⟩
   ·rw [zBf h0,cond_false]
    exact ⟨m,rfl,hm,Int.le_refl _,fun g=>by omega⟩
  ·rw [zBf (by omega),cond_false]
   simp only [Option.bind_some,cond_false]
   obtain rfl : i = ks.length :=(by omega);exact ⟨m,rfl,hm,Int.le_refl _,fun _=>by simp [Nd.cnts]⟩
theorem left_eq : ∀ (n : Nat) (t : Nd) (m : Nat),m + 1 < n → m ≤ 67108864 → ∃ r,zDE n t (m : Int) = some r ∧ -1 ≤ r ∧ r < m ∧ (0 ≤ r → r + t.cnt = m)
 | 0,_,_,h,_=>by omega
 | n + 1,.mk a b c ks,m,h,hm=>by
  unfold zDE;rw [wrap64_in (by omega) (by omega)]
  cases m with
  | zero =>
   cases n with
   | zero=>omega
   | succ n =>
    refine ⟨-1,?_,by omega,by omega,fun h=>by omega⟩
    unfold zCp;cases decide (((0 : Nat) : Int) < (ks.length : Int)) <;> simp <;> rfl
  | succ m =>
   obtain ⟨r,h1,h2,h3,h4⟩:=zQc (F:=zDE n) (ks:=ks) (b:=m) (fun v q hq=>left_eq n v q (by omega) (by omega)) n 0 (m : Int) (by omega) (by omega) (by omega) (by omega) (by omega)
   rw [show ((0 : Nat) : Int) = 0 from rfl] at h1;rw [show ((m + 1 : Nat) : Int) - 1 = (m : Int) by omega,h1]
   exact ⟨r,rfl,h2,by omega,fun g=>by have:=h4 g; rw [List.drop_zero] at this; simp only [Nd.cnt]; omega⟩
theorem zVK (n : Nat) (t : Nd) (m : Nat) (h : m + 1 < n) (hm : m ≤ 67108864) : ∃ b,zGD n t (m : Int) = some b ∧ (b = true → t.cnt ≤ m):=by
 obtain ⟨a,b,c,ks⟩:=t;obtain ⟨r,h1,h2,h3,h4⟩:=left_eq n (.mk a b c ks) m h hm;refine ⟨decide (0 ≤ r),by simp [zGD,h1],fun g=>by have g0:=of_decide_eq_true g; have:=h4 g0; omega⟩
end Go.Proofs.YtjdhkpdjecegnaaGreatDoor
namespace Go.Proofs.YtjdhkpdjecegnaaGreatDoor
open Go.Abs
def zOc {α : Type} (p : α → Bool) (l : List α) : Fl Bool Unit:=if l.all p then .go () else .ret false
theorem zUO {α : Type} {p : α → Bool} {l : List α} {i : Nat} (h : i < l.length) : (l.drop i).all p = (p l[i] && (l.drop (i + 1)).all p):=by
 rw [List.drop_eq_getElem_cons h]; rfl
theorem zUP {α : Type} {p : α → Bool} {l : List α} {i : Nat} (h : i < l.length) : (l.drop i).any p = (p l[i] || (l.drop (i + 1)).any p):=by
 rw [List.drop_eq_getElem_cons h]; rfl
theorem zH3 {α : Type} {p : α → Bool} {l : List α} (L : Nat → Int → Option (Fl Bool Unit)) (hb : l.length ≤ 1073741824)
  (h1 : ∀ (k i : Nat) (h : i < l.length),L (k + 1) (i : Int) = if p l[i] then L k (((i + 1 : Nat)) : Int) else some (.ret false)) (h2 : ∀ k,L (k + 1) (l.length : Int) = some (.go ())) :
  ∀ (k i : Nat),l.length - i < k → i ≤ l.length → L k (i : Int) = some (zOc p (l.drop i))
 | 0,_,h,_=>by omega
 | k + 1,i,hk,hi=>by
  by_cases h : i < l.length
  ·rw [h1 k i h,zH3 L hb h1 h2 k (i + 1) (by omega) (by omega)]
   unfold zOc;rw [zUO h]
   cases p l[i] <;> simp
  ·obtain rfl : i = l.length :=(by omega);rw [h2]; simp [zOc]
theorem zOu {α : Type} {p : α → Bool} {l : List α} (L : Nat → Int → Option (Fl Bool Unit)) (hb : l.length ≤ 1073741824)
  (h1 : ∀ (k i : Nat) (h : i < l.length),L (k + 1) (i : Int) = if p l[i] then some (.ret true) else L k (((i + 1 : Nat)) : Int)) (h2 : ∀ k,L (k + 1) (l.length : Int) = some (.go ())) :
  ∀ (k i : Nat),l.length - i < k → i ≤ l.length → L k (i : Int) = some (if (l.drop i).any p then .ret true else .go ())
 | 0,_,h,_=>by omega
 | k + 1,i,hk,hi=>by
  by_cases h : i < l.length
  ·rw [h1 k i h,zOu L hb h1 h2 k (i + 1) (by omega) (by omega),zUP h]
   cases p l[i] <;> simp
  ·obtain rfl : i = l.length :=(by omega);rw [h2]; simp
theorem zKS {P : UInt8 → Bool} (h : (List.range 256).all (fun n=>P n.toUInt8) = true) (b : UInt8) : P b = true:=by
 have : P (UInt8.ofNat b.toNat) = true:=List.all_eq_true.1 h b.toNat (List.mem_range.2 b.toNat_lt)
 rwa [UInt8.ofNat_toNat] at this
def zDl (b : UInt8) : Bool:=(decide (97 ≤ b.toNat) && decide (b.toNat ≤ 122)) || (decide (65 ≤ b.toNat) && decide (b.toNat ≤ 90))
def zDJ (b : UInt8) : Bool:=decide (48 ≤ b.toNat) && decide (b.toNat ≤ 57)
def zGK (b : UInt8) : Bool:=decide (32 ≤ b.toNat) && decide (b.toNat ≤ 126)
theorem zPA (b : UInt8) : (bif decide ((zLK .or .u8 (b.toNat : Int) 32) < 97) then some true else some (decide (122 < (zLK .or .u8 (b.toNat : Int) 32)))) = some (!zDl b) :=
 of_decide_eq_true (zKS (P:=fun b=>decide ((bif decide ((zLK .or .u8 (b.toNat : Int) 32) < 97) then some true else some (decide (122 < (zLK .or .u8 (b.toNat : Int) 32)))) = some (!zDl b))) (by decide +kernel) b)
theorem zKC (b : UInt8) : zEb (b.toNat : Int) = some (zDl b) :=
 of_decide_eq_true (zKS (P:=fun b=>decide (zEb (b.toNat : Int) = some (zDl b))) (by decide +kernel) b)
theorem zRk (b : UInt8) : zFJ (b.toNat : Int) = some (zDJ b) :=
 of_decide_eq_true (zKS (P:=fun b=>decide (zFJ (b.toNat : Int) = some (zDJ b))) (by decide +kernel) b)
theorem zL4 (n : Nat) (s : List UInt8) (h : s.length < n) (hb : s.length ≤ 1073741824) : zDb n s = some (s.all zDl):=by
 have:=zH3 (p:=zDl) (l:=s) (zBw s) hb (fun k i h=>by
  rw [zBw,zBg (Int.ofNat_lt.2 h),cond_true,zBx h]
  simp only [Option.bind_some,zPA]
  rw [zAX (by omega)]
  cases zDl s[i] <;> rfl) (fun k=>by rw [zBw,zBf (by omega)]; rfl) n 0 (by omega) (by omega)
 rw [show ((0 : Nat) : Int) = 0 from rfl,List.drop_zero] at this;rw [zDb,this]
 unfold zOc;cases s.all zDl <;> rfl
theorem zM1 (n : Nat) (s : List UInt8) (h : s.length < n) (hb : s.length ≤ 1073741824) : zBF s n 0 = some (zOc zDl s):=by
 have:=zH3 (p:=zDl) (l:=s) (zBF s) hb (fun k i h=>by
  rw [zBF,zBg (Int.ofNat_lt.2 h),cond_true,zBx h]
  simp only [Option.bind_some,zKC]
  rw [zAX (by omega)]
  cases zDl s[i] <;> rfl) (fun k=>by rw [zBF,zBf (by omega)]; rfl) n 0 (by omega) (by omega)
 rwa [show ((0 : Nat) : Int) = 0 from rfl,List.drop_zero] at this
theorem zNI (n : Nat) (s : List UInt8) (c : Int) (h : s.length < n) (hb : s.length ≤ 1073741824) : zDs n s c = some (s.any fun b=>(b.toNat : Int) == c):=by
 have:=zOu (p:=fun b=>(b.toNat : Int) == c) (l:=s) (zCP s c) hb (fun k i h=>by
  rw [zCP,zBg (Int.ofNat_lt.2 h),cond_true,zBx h]
  simp only [Option.bind_some]
  rw [zAX (by omega)]
  cases ((s[i].toNat : Int) == c) <;> rfl) (fun k=>by rw [zCP,zBf (by omega)]; rfl) n 0 (by omega) (by omega)
 rw [show ((0 : Nat) : Int) = 0 from rfl,List.drop_zero] at this;rw [zDs,this]
 cases s.any fun b=>(b.toNat : Int) == c <;> rfl
theorem zMg (n : Nat) (l : List (List UInt8)) (s : List UInt8) (h : l.length < n) (hb : l.length ≤ 1073741824) : zEO n l s = some (l.any fun e=>e == s):=by
 have:=zOu (p:=fun e=>e == s) (l:=l) (zDq l s) hb (fun k i h=>by
  rw [zDq,zBg (Int.ofNat_lt.2 h),cond_true,zBx h]
  simp only [Option.bind_some]
  rw [zAX (by omega)]
  cases (l[i] == s) <;> rfl) (fun k=>by rw [zDq,zBf (by omega)]; rfl) n 0 (by omega) (by omega)
 rw [show ((0 : Nat) : Int) = 0 from rfl,List.drop_zero] at this;rw [zEO,this]
 cases l.any fun e=>e == s <;> rfl
theorem zGh (n : Nat) (s : List UInt8) (h : s.length < n) (hb : s.length ≤ 1073741824) : zDB n s = some (s.all zDJ && !(s == [])):=by
 have:=zH3 (p:=zDJ) (l:=s) (zBG s) hb (fun k i h=>by
  rw [zBG,zBg (Int.ofNat_lt.2 h),cond_true,zBx h]
  simp only [Option.bind_some]
  rw [zAX (by omega)]
  unfold zDJ
  by_cases a : 48 ≤ s[i].toNat
  ·by_cases b : s[i].toNat ≤ 57
   ·simp [a,b,show ¬ ((s[i].toNat : Int) < 48) by omega,show ¬ (57 < (s[i].toNat : Int)) by omega]
   ·simp [a,b,show ¬ ((s[i].toNat : Int) < 48) by omega,show (57 < (s[i].toNat : Int)) by omega]
  ·simp [a,show ((s[i].toNat : Int) < 48) by omega]) (fun k=>by rw [zBG,zBf (by omega)]; rfl) n 0 (by omega) (by omega)
 rw [show ((0 : Nat) : Int) = 0 from rfl,List.drop_zero] at this;rw [zDB,this]
 unfold zOc;cases s.all zDJ <;> rfl
theorem zQG (b : UInt8) : (bif decide ((b.toNat : Int) < 32) then some true else some (decide (126 < (b.toNat : Int))) : Option Bool) = some (!zGK b):=by
 unfold zGK
 by_cases a : 32 ≤ b.toNat
 ·by_cases c : b.toNat ≤ 126
  ·simp [a,c,show ¬ ((b.toNat : Int) < 32) by omega,show ¬ (126 < (b.toNat : Int)) by omega]
  ·simp [a,c,show ¬ ((b.toNat : Int) < 32) by omega,show (126 < (b.toNat : Int)) by omega]
 ·simp [a,show ((b.toNat : Int) < 32) by omega]
theorem zOz (n : Nat) (s : List UInt8) (h : s.length < n) (hb : s.length ≤ 1073741824) : zEZ n s = some (s.all zGK && decide ((s.length : Int) ≤ 200)):=by
 have:=zH3 (p:=zGK) (l:=s) (zBN s) hb (fun k i h=>by
  rw [zBN,zBg (Int.ofNat_lt.2 h),cond_true,zBx h]
  simp only [Option.bind_some,zQG]
  rw [zAX (by omega)]
  cases zGK s[i] <;> rfl) (fun k=>by rw [zBN,zBf (by omega)]; rfl) n 0 (by omega) (by omega)
 rw [show ((0 : Nat) : Int) = 0 from rfl,List.drop_zero] at this;rw [zEZ,this]
 unfold zOc;cases s.all zGK <;> rfl
theorem zK2 (n : Nat) (s : List UInt8) (h : s.length < n) (hb : s.length ≤ 1073741824) : zDr n s = some (s.all zGK):=by
 have:=zH3 (p:=zGK) (l:=s) (zBp s) hb (fun k i h=>by
  rw [zBp,zBg (Int.ofNat_lt.2 h),cond_true,zBx h]
  simp only [Option.bind_some,zQG]
  rw [zAX (by omega)]
  cases zGK s[i] <;> rfl) (fun k=>by rw [zBp,zBf (by omega)]; rfl) n 0 (by omega) (by omega)
 rw [show ((0 : Nat) : Int) = 0 from rfl,List.drop_zero] at this;rw [zDr,this]
 unfold zOc;cases s.all zGK <;> rfl
end Go.Proofs.YtjdhkpdjecegnaaGreatDoor
namespace Go.Proofs.YtjdhkpdjecegnaaGreatDoor
open Go.Abs
def spL : List UInt8:=[43,45,42,47,61,60,62,44,59,58,33,124,39,63,126,64]
def fsL : List UInt8:=[40,41,91,93,123,125,60,62,47,124,46]
def kwL : List (List UInt8):=[[102,114,97,99],[114,111,111,116],[109,97,116,114,105,120],[102,101,110,99,101]]
def acL : List (List UInt8):=[[104,97,116],[98,97,114],[118,101,99],[100,111,116],[116,105,108,100,101],[99,104,101,99,107]]
def spB (c : UInt8) : Bool:=decide (0 ≤ Lib.indexByte spL c)
def fsB (c : UInt8) : Bool:=decide (0 ≤ Lib.indexByte fsL c)
theorem zV7 (c : UInt8) : (spL.any fun b=>(b.toNat : Int) == (c.toNat : Int)) = spB c :=
 of_decide_eq_true (zKS (P:=fun c=>decide ((spL.any fun b=>(b.toNat : Int) == (c.toNat : Int)) = spB c)) (by decide +kernel) c)
theorem zV6 (c : UInt8) : (([40,41,91,93,123,125,124,60,62,47,46] : List UInt8).any fun b=>(b.toNat : Int) == (c.toNat : Int)) = fsB c :=
 of_decide_eq_true (zKS (P:=fun c=>decide ((([40,41,91,93,123,125,124,60,62,47,46] : List UInt8).any fun b=>(b.toNat : Int) == (c.toNat : Int)) = fsB c)) (by decide +kernel) c)
theorem zUT (c : UInt8) : Lib.indexByte fsL ((c.toNat : Int).toNat.toUInt8) = Lib.indexByte fsL c:=by
 rw [Int.toNat_natCast]; congr 1; exact UInt8.ofNat_toNat
theorem zMK (e s : List UInt8) : (e == s) = (s == e):=by
 rw [Bool.eq_iff_iff]; simp only [beq_iff_eq]; exact eq_comm
theorem zL3 (s : List UInt8) : zDS s = some (kwL.any fun e=>e == s):=by
 simp only [zDS,kwL,List.any_cons,List.any_nil,zMK [102,114,97,99] s,zMK [114,111,111,116] s,zMK [109,97,116,114,105,120] s,zMK [102,101,110,99,101] s]
 generalize (s == [102,114,97,99]) = b1;generalize (s == [114,111,111,116]) = b2;generalize (s == [109,97,116,114,105,120]) = b3;generalize (s == [102,101,110,99,101]) = b4;cases b1 <;> cases b2 <;> cases b3 <;> cases b4 <;> rfl
theorem zIw (s : List UInt8) : zDA s = some (acL.any fun e=>e == s):=by
 simp only [zDA,acL,List.any_cons,List.any_nil,zMK [104,97,116] s,zMK [98,97,114] s,zMK [118,101,99] s,zMK [100,111,116] s,zMK [116,105,108,100,101] s,zMK [99,104,101,99,107] s]
 generalize (s == [104,97,116]) = b1;generalize (s == [98,97,114]) = b2;generalize (s == [118,101,99]) = b3;generalize (s == [100,111,116]) = b4;generalize (s == [116,105,108,100,101]) = b5;generalize (s == [99,104,101,99,107]) = b6;cases b1 <;> cases b2 <;> cases b3 <;> cases b4 <;> cases b5 <;> cases b6 <;> rfl
def symB (s : List UInt8) : Bool :=
 if s.length = 1 then s.all zDl || s.all spB
 else s.all zDl && (decide (2 ≤ s.length) && (decide (s.length ≤ 16) && (!(kwL.any fun e=>e == s) && !(acL.any fun e=>e == s))))
theorem len1 (s : List UInt8) : ((s.length : Int) == 1) = decide (s.length = 1):=by
 by_cases h : s.length = 1
 ·simp [h]
 ·rw [zBf h]
  cases e : ((s.length : Int) == 1) with
  | false=>rfl
  | true=>have:=eq_of_beq e; omega
theorem zFF (a b : Nat) : decide ((a : Int) ≤ (b : Int)) = decide (a ≤ b):=by
 by_cases h : a ≤ b
 ·rw [zBg h,zBg (by omega)]
 ·rw [zBf h,zBf (by omega)]
theorem zTq (a b : Nat) : decide ((a : Int) < (b : Int)) = decide (a < b):=by
 by_cases h : a < b
 ·rw [zBg h,zBg (by omega)]
 ·rw [zBf h,zBf (by omega)]
theorem zMO (n : Nat) (s : List UInt8) (h : s.length + 40 < n) (hb : s.length ≤ 1073741824) : zEm n s = some (symB s):=by
 rw [zEm,len1,zL4 n s (by omega) hb]
 unfold symB
 by_cases h1 : s.length = 1
 ·rw [zBg h1,if_pos h1]
  obtain ⟨c,rfl⟩:=List.length_eq_one_iff.1 h1;have : zEo [43,45,42,47,61,60,62,44,59,58,33,124,39,63,126,64] [c] = some (spB c):=rfl;simp only [cond_true,Option.bind_some,this,List.all_cons,List.all_nil,Bool.and_true]
  cases zDl c <;> rfl
 ·rw [zBf h1,if_neg h1]
  have e2:=zFF 2 s.length;have e16:=zFF s.length 16;rw [show ((2 : Nat) : Int) = 2 from rfl] at e2;rw [show ((16 : Nat) : Int) = 16 from rfl] at e16;simp only [cond_false,Option.bind_some,zL3,zIw,e2,e16]
  cases s.all zDl <;> cases decide (2 ≤ s.length) <;> cases decide (s.length ≤ 16) <;> cases (kwL.any fun e=>e == s) <;> rfl
theorem zOS (n : Nat) (s : List UInt8) (h : s.length + 40 < n) (hb : s.length ≤ 1073741824) : zE1 n s = some (symB s):=by
 rw [zE1,len1,zM1 n s (by omega) hb]
 unfold symB
 by_cases h1 : s.length = 1
 ·rw [zBg h1,if_pos h1]
  obtain ⟨c,rfl⟩:=List.length_eq_one_iff.1 h1;have e1 : at? [c] (0 : Int) = some c:=rfl;have e2 : zDs n [43,45,42,47,61,60,62,44,59,58,33,124,39,63,126,64] (c.toNat : Int) = some (spB c):=by
   rw [zNI n _ _ (by simp only [List.length_cons,List.length_nil]; omega) (by simp only [List.length_cons,List.length_nil]; omega)]
   exact congrArg some (zV7 c)
  simp only [cond_true,Option.bind_some,e1,zEn,zKC,e2,List.all_cons,List.all_nil,Bool.and_true]
  cases zDl c <;> rfl
 ·rw [zBf h1,if_neg h1]
  have e2:=zFF 2 s.length;have e16:=zFF s.length 16;rw [show ((2 : Nat) : Int) = 2 from rfl] at e2;rw [show ((16 : Nat) : Int) = 16 from rfl] at e16;have ek : zEO n kwL s = some (kwL.any fun e=>e == s):=zMg n kwL s (by simp only [kwL,List.length_cons,List.length_nil]; omega) (by simp [kwL])
  have ea : zEO n acL s = some (acL.any fun e=>e == s):=zMg n acL s (by simp only [acL,List.length_cons,List.length_nil]; omega) (by simp [acL])
  have k1 : zEP = some kwL:=rfl;have a1 : zDC = some acL:=rfl;unfold zOc;simp only [cond_false,Option.bind_some,k1,a1,ek,ea,e2,e16]
  cases s.all zDl <;> cases decide (2 ≤ s.length) <;> cases decide (s.length ≤ 16) <;> cases (kwL.any fun e=>e == s) <;> rfl
def fenB (s : List UInt8) : Bool:=decide (s.length = 2) && s.all fsB
theorem len2 (s : List UInt8) : ((s.length : Int) == 2) = decide (s.length = 2):=by
 by_cases h : s.length = 2
 ·simp [h]
 ·rw [zBf h]
  cases e : ((s.length : Int) == 2) with
  | false=>rfl
  | true=>have:=eq_of_beq e; omega
theorem zOy (s : List UInt8) : zEY s = some (fenB s):=by
 rw [zEY,len2]
 unfold fenB
 by_cases h1 : s.length = 2
 ·rw [zBg h1]
  match s,h1 with
  | [c,d],_ =>
   have e0 : at? [c,d] (0 : Int) = some c:=rfl;have e1 : at? [c,d] (1 : Int) = some d:=rfl;have f : ∀ c : UInt8,zCZ [40,41,91,93,123,125,60,62,47,124,46] (c.toNat : Int) = some (Lib.indexByte fsL c):=fun c=>congrArg some (zUT c)
   have g : ∀ c : UInt8,decide (0 ≤ Lib.indexByte fsL c) = fsB c:=fun c=>rfl
   simp only [cond_true,e0,e1,f,Option.bind_some,g,List.all_cons,List.all_nil,Bool.and_true,Bool.true_and]
   cases fsB c <;> rfl
 ·rw [zBf h1]; rfl
theorem zQH (n : Nat) (s : List UInt8) (h : 40 < n) : (bif ((s.length : Int) == 2) then (
        (at? s 0).bind fun c9 =>
        (zDs n [40,41,91,93,123,125,124,60,62,47,46] (c9.toNat : Int)).bind fun y11 =>
        bif y11 then (
         (at? s 1).bind fun c12 =>
         (zDs n [40,41,91,93,123,125,124,60,62,47,46] (c12.toNat : Int)).bind fun y14 =>
         some y14
        ) else (
         some false
        )
       ) else (
        some false
       )) = some (fenB s):=by
 rw [len2]
 unfold fenB
 by_cases h1 : s.length = 2
 ·rw [zBg h1]
  match s,h1 with
  | [c,d],_ =>
   have e0 : at? [c,d] (0 : Int) = some c:=rfl;have e1 : at? [c,d] (1 : Int) = some d:=rfl;have f : ∀ c : UInt8,zDs n [40,41,91,93,123,125,124,60,62,47,46] (c.toNat : Int) = some (fsB c):=fun c=>by
    rw [zNI n _ _ (by simp only [List.length_cons,List.length_nil]; omega) (by simp only [List.length_cons,List.length_nil]; omega)]
    exact congrArg some (zV6 c)
   simp only [cond_true,e0,e1,f,Option.bind_some,List.all_cons,List.all_nil,Bool.and_true,Bool.true_and]
   cases fsB c <;> rfl
 ·rw [zBf h1]; rfl
def okL (L : Nat) : Nat → List UInt8 → Bool
 | _,[]=>true
 | i,c :: r=>((c == 46 && (decide (0 < i) && decide (i + 1 < L))) || zDJ c) && okL L (i + 1) r
def numB (s : List UInt8) : Bool:=okL s.length 0 s && (decide (0 < s.length) && (decide (s.length ≤ 20) && decide (s.count 46 ≤ 1)))
theorem zWL (c : UInt8) : ((c.toNat : Int) == 46) = (c == 46) :=
 of_decide_eq_true (zKS (P:=fun c=>decide (((c.toNat : Int) == 46) = (c == 46))) (by decide +kernel) c)
theorem zWa : zDJ 46 = false:=by decide
theorem zOA (s : List UInt8) (hb : s.length ≤ 1073741824) : ∀ (k i p : Nat),s.length - i < k → i ≤ s.length → p ≤ i →
  zCe s k (p : Int) (i : Int) = some (if okL s.length i (s.drop i) then .go ((p + (s.drop i).count 46 : Nat) : Int) else .ret false)
 | 0,_,_,h,_,_=>by omega
 | k + 1,i,p,hk,hi,hp=>by
  unfold zCe
  by_cases h : i < s.length
  ·rw [zBg (Int.ofNat_lt.2 h),cond_true,zBx h,List.drop_eq_getElem_cons h]
   generalize s[i] = c;simp only [Option.bind_some,zWL,zRk,okL,List.count_cons]
   rw [zAX (by omega),zAX (by omega),wrap64_in (by omega) (by omega)]
   have d1 : decide ((0 : Int) < (i : Int)) = decide (0 < i):=zTq 0 i;have d2 : decide ((i : Int) < (s.length : Int) - 1) = decide (i + 1 < s.length):=by
    by_cases h : i + 1 < s.length
    ·rw [zBg h,zBg (by omega)]
    ·rw [zBf h,zBf (by omega)]
   rw [d1,d2]
   cases e : c == 46 with
   | true =>
    obtain rfl : c = 46:=eq_of_beq e;simp only [cond_true,zWa,Bool.true_and,Bool.or_false]
    cases decide (0 < i) with
    | false=>rfl
    | true =>
     simp only [cond_true,Option.bind_some,Bool.true_and]
     cases decide (i + 1 < s.length) with
     | false=>rfl
     | true =>
      simp only [cond_true,Option.bind_some,Bool.true_and]
      rw [zOA s hb k (i + 1) (p + 1) (by omega) (by omega) (by omega)]
      simp only [if_true]
      rw [show p + 1 + (s.drop (i + 1)).count 46 = p + ((s.drop (i + 1)).count 46 + 1) by omega]
   | false =>
    simp only [cond_false,Option.bind_some,Bool.false_and,Bool.false_or]
    cases zDJ c with
    | false=>rfl
    | true =>
     simp only [Bool.not_true,cond_false,Option.bind_some,Bool.true_and]
     rw [zOA s hb k (i + 1) p (by omega) (by omega) (by omega)]
     simp
  ·rw [zBf (by omega),cond_false]
   obtain rfl : i = s.length :=(by omega);simp [okL]
theorem zOR (n : Nat) (s : List UInt8) (h : s.length < n) (hb : s.length ≤ 1073741824) : zE0 n s = some (numB s):=by
 have:=zOA s hb n 0 0 (by omega) (by omega) (by omega)
 rw [show ((0 : Nat) : Int) = 0 from rfl,List.drop_zero] at this;rw [zE0,this]
 unfold numB;have e0:=zTq 0 s.length;have e20:=zFF s.length 20;have e1:=zFF (s.count 46) 1;rw [show ((0 : Nat) : Int) = 0 from rfl] at e0;rw [show ((20 : Nat) : Int) = 20 from rfl] at e20;rw [show ((1 : Nat) : Int) = 1 from rfl] at e1;cases okL s.length 0 s with
 | false=>rfl
 | true =>
  simp only [if_true,Option.bind_some,e0,e20,Nat.zero_add,e1]
  cases decide (0 < s.length) <;> cases decide (s.length ≤ 20) <;> rfl
theorem zPE : ∀ s : List UInt8,(s.count 46 = 0 ∧ Lib.indexByte s 46 = -1) ∨ ∃ a b,s = a ++ 46 :: b ∧ a.count 46 = 0 ∧ Lib.indexByte s 46 = (a.length : Int)
 | []=>.inl ⟨rfl,rfl⟩
 | c :: s=>by
  by_cases h : c = 46
  ·subst h;exact .inr ⟨[],s,rfl,rfl,by simp [Lib.indexByte]⟩
  ·have hc : (c == 46) = false :=(by simpa using h);rcases zPE s with ⟨h1,h2⟩ | ⟨a,b,rfl,h1,h2⟩
   ·exact .inl ⟨by rw [List.count_cons,h1,hc]; rfl,by simp [Lib.indexByte,hc,h2]⟩
   ·refine .inr ⟨c :: a,b,rfl,by rw [List.count_cons,h1,hc]; rfl,?_⟩
    have h3 : ((a.length : Int) == -1) = false:=by
     cases e : ((a.length : Int) == -1) with
     | false=>rfl
     | true=>have:=eq_of_beq e; omega
    simp [Lib.indexByte,hc,h2,h3]
theorem zHG (L : Nat) : ∀ (i : Nat) (a : List UInt8),a.count 46 = 0 → okL L i a = a.all zDJ
 | _,[],_=>rfl
 | i,c :: a,h=>by
  have hc : (c == 46) = false:=by
   cases e : c == 46 with
   | false=>rfl
   | true=>rw [List.count_cons,e] at h; simp at h
  rw [List.count_cons,hc] at h;rw [okL,hc,zHG L (i + 1) a (by simpa using h)]
  simp
theorem zNC (L : Nat) : ∀ (i : Nat) (a b : List UInt8),okL L i (a ++ b) = (okL L i a && okL L (i + a.length) b)
 | _,[],b=>by simp [okL]
 | i,c :: a,b=>by
  simp only [List.cons_append,okL,zNC L (i + 1) a b,List.length_cons,Bool.and_assoc,show i + 1 + a.length = i + (a.length + 1) by omega]
theorem zOl : ∀ a : List UInt8,a.all zDJ = true → a.count 46 = 0
 | [],_=>rfl
 | c :: a,h=>by
  simp only [List.all_cons,Bool.and_eq_true] at h;have hc : (c == 46) = false:=by
   cases e : c == 46 with
   | false=>rfl
   | true=>obtain rfl : c = 46:=eq_of_beq e; simp [zWa] at h
  rw [List.count_cons,hc,zOl a h.2]; rfl
theorem zWn (a b : List UInt8) (ha : a.count 46 = 0) : numB (a ++ 46 :: b) = (decide ((a ++ 46 :: b).length ≤ 20) && ((a.all zDJ && !(a == [])) && (b.all zDJ && !(b == [])))):=by
 unfold numB;have hl : (a ++ 46 :: b).length = a.length + (b.length + 1) :=(by simp);rw [zNC,zHG _ _ a ha,hl]
 simp only [okL,zWa,Bool.or_false,List.count_append,List.count_cons,ha,beq_self_eq_true,Bool.true_and,if_true,Nat.zero_add]
 have e1 : decide (0 < a.length) = !(a == []) :=(by cases a <;> rfl);have e2 : decide (a.length + 1 < a.length + (b.length + 1)) = !(b == []):=by
  cases b with
  | nil=>simp
  | cons c b=>simp
 have e3 : decide (0 < a.length + (b.length + 1)) = true:=zBg (by omega)
 rw [e1,e2,e3]
 cases hb : b.all zDJ with
 | true =>
  rw [zHG _ _ b (zOl b hb),hb,zOl b hb]
  cases a.all zDJ <;> cases a == [] <;> cases b == [] <;> cases decide (a.length + (b.length + 1) ≤ 20) <;> rfl
 | false =>
  cases hc : decide (b.count 46 + 1 ≤ 1) with
  | true =>
   have : b.count 46 = 0 :=(by have:=of_decide_eq_true hc; omega);rw [zHG _ _ b this,hb]
   cases a.all zDJ <;> cases a == [] <;> cases b == [] <;> cases decide (a.length + (b.length + 1) ≤ 20) <;> rfl
  | false =>
   generalize okL _ _ b = z;cases z <;> cases a.all zDJ <;> cases a == [] <;> cases b == [] <;> cases decide (a.length + (b.length + 1) ≤ 20) <;> rfl
theorem zT6 (s : List UInt8) (h : s.count 46 = 0) : numB s = (decide (s.length ≤ 20) && (s.all zDJ && !(s == []))):=by
 unfold numB;rw [zHG _ _ s h,h]
 have e1 : decide (0 < s.length) = !(s == []) :=(by cases s <;> rfl);rw [e1]
 cases s.all zDJ <;> cases s == [] <;> cases decide (s.length ≤ 20) <;> rfl
theorem zMN (n : Nat) (s : List UInt8) (h : s.length < n) (hb : s.length ≤ 1073741824) : zDz n s = some (numB s):=by
 have e20:=zFF s.length 20;rw [show ((20 : Nat) : Int) = 20 from rfl] at e20;have hi : zDY s [46] = some (Lib.indexByte s 46):=rfl;rcases zPE s with ⟨h1,h2⟩ | ⟨a,b,rfl,h1,h2⟩
 ·rw [zT6 s h1]
  simp only [zDz,zEp,zCJ,hi,h2,Option.bind_some,show decide ((0 : Int) ≤ -1) = false from rfl,cond_false,e20,zGh n s h hb]
  cases decide (s.length ≤ 20) <;> cases (s.all zDJ && !(s == [])) <;> rfl
 ·have hl : (a ++ 46 :: b).length = a.length + (b.length + 1) :=(by simp);rw [zWn a b h1]
  have w1 : IntKind.i64.wrap ((a.length : Int) + (([46] : List UInt8).length : Int)) = ((a.length + 1 : Nat) : Int):=zAX (by omega)
  have t1 : ((a ++ 46 :: b).take ((a.length : Int)).toNat).drop (0 : Int).toNat = a :=(by simp);have t2 : ((a ++ 46 :: b).take (((a ++ 46 :: b).length : Int)).toNat).drop (((a.length + 1 : Nat) : Int)).toNat = b:=by
   rw [Int.toNat_natCast,Int.toNat_natCast,List.take_length,List.drop_append]
   simp
  simp only [zDz,zEp,zCJ,hi,h2,Option.bind_some,w1]
  rw [zBg (by omega),cond_true,zCg (by omega),zCg (by omega),t1,t2]
  simp only [Option.bind_some,e20,zGh n a (by omega) (by omega),zGh n b (by omega) (by omega)]
  cases decide ((a ++ 46 :: b).length ≤ 20) <;> cases (a.all zDJ && !(a == [])) <;> cases (b.all zDJ && !(b == [])) <;> rfl
end Go.Proofs.YtjdhkpdjecegnaaGreatDoor
namespace Go.Proofs.YtjdhkpdjecegnaaGreatDoor
open Go.Abs
def Nd.kind : Nd → Int | .mk k _ _ _=>k
def zI7 (k : Int) (t : List UInt8) : Bool :=
 if k = 2 then symB t else if k = 3 then numB t else if k = 4 then (decide (t.length ≤ 200) && t.all zGK) else if k = 10 then acL.any (fun e=>e == t) else if k = 11 then fenB t else t == []
def zFe (k c : Int) (m : Int) : Bool :=
 if k = 12 then decide (1 ≤ c) && (decide (c ≤ 16) && (decide (1 ≤ m) && (decide (m ≤ 256) && (m.tmod c == 0))))
 else (c == 0) && (if k = 1 then decide (m ≤ 200) else if k = 2 then m == 0 else if k = 3 then m == 0 else if k = 4 then m == 0 else if k = 5 then m == 2 else if k = 6 then m == 2 else if k = 7 then m == 2 else if k = 8 then m == 2
  else if k = 9 then m == 3 else if k = 10 then m == 1 else if k = 11 then m == 1 else false)
mutual
def zCm : Nd → Bool
 | .mk k t c ks=>(zI7 k t && zFe k c (ks.length : Int)) && zBi k ks
def zBi : Int → List Nd → Bool
 | _,[]=>true
 | k,v :: vs=>(!((v.kind == 1) == (k == 1)) && zCm v) && zBi k vs
end
mutual
def Nd.dep : Nd → Nat
 | .mk _ _ _ ks=>Nd.deps ks + 1
def Nd.deps : List Nd → Nat
 | []=>0
 | v :: vs=>Nat.max v.dep (Nd.deps vs)
end
theorem zNs {k : Int} {a : List Nd} {i : Nat} (h : i < a.length) : zBi k (a.drop i) = ((!((a[i].kind == 1) == (k == 1)) && zCm a[i]) && zBi k (a.drop (i + 1))):=by
 rw [List.drop_eq_getElem_cons h]; rfl
theorem zPJ {a : List Nd} {i : Nat} (h : i < a.length) : Nd.deps (a.drop i) = Nat.max (a[i]).dep (Nd.deps (a.drop (i + 1))):=by
 rw [List.drop_eq_getElem_cons h]; rfl
theorem Nd.dep_pos : ∀ v : Nd,1 ≤ v.dep
 | .mk _ _ _ ks=>by simp only [Nd.dep]; omega
mutual
theorem Nd.dep_cnt : ∀ v : Nd,v.dep ≤ v.cnt
 | .mk _ _ _ ks=>by have:=Nd.deps_cnts ks; simp only [Nd.dep,Nd.cnt]; omega
theorem Nd.deps_cnts : ∀ vs : List Nd,Nd.deps vs ≤ Nd.cnts vs
 | []=>Nat.le_refl _
 | v :: vs=>by
  have:=Nd.dep_cnt v; have:=Nd.deps_cnts vs
  simp only [Nd.deps,Nd.cnts]
  exact Nat.max_le.2 ⟨by omega,by omega⟩
end
mutual
theorem Nd.cnt_w : ∀ v : Nd,v.cnt ≤ v.w
 | .mk _ t _ ks=>by have:=Nd.cnts_ws ks; simp only [Nd.cnt,Nd.w]; omega
theorem Nd.cnts_ws : ∀ vs : List Nd,Nd.cnts vs ≤ Nd.ws vs
 | []=>Nat.le_refl _
 | v :: vs=>by have:=Nd.cnt_w v; have:=Nd.cnts_ws vs; simp only [Nd.cnts,Nd.ws]; omega
end
theorem zCi {a b : Int} (h : a ≠ b) : (a == b) = false:=by
 cases e : (a == b) with
 | false=>rfl
 | true=>exact absurd (eq_of_beq e) h
theorem zRM (n : Nat) (k : Int) (t : List UInt8) (c : Int) (ks : List Nd) (h : t.length + 40 < n) (hb : t.length ≤ 1073741824) : zGF n (.mk k t c ks) = some (zI7 k t):=by
 have e200:=zFF t.length 200;rw [show ((200 : Nat) : Int) = 200 from rfl] at e200;have ea : zEO n acL t = some (acL.any fun e=>e == t):=zMg n acL t (by simp only [acL,List.length_cons,List.length_nil]; omega) (by simp [acL])
 have a1 : zDC = some acL:=rfl;unfold zGF zI7;dsimp only
 by_cases h2 : k = 2
 ·subst h2; simp only [beq_self_eq_true,cond_true,zOS n t h hb,Option.bind_some,if_true]
 rw [zCi h2,if_neg h2,cond_false]
 by_cases h3 : k = 3
 ·subst h3; simp only [beq_self_eq_true,cond_true,zOR n t (by omega) hb,Option.bind_some,if_true]
 rw [zCi h3,if_neg h3,cond_false]
 by_cases h4 : k = 4
 ·subst h4; simp only [beq_self_eq_true,cond_true,zK2 n t (by omega) hb,Option.bind_some,if_true,e200]
  cases decide (t.length ≤ 200) <;> rfl
 rw [zCi h4,if_neg h4,cond_false]
 by_cases h10 : k = 10
 ·subst h10; simp only [beq_self_eq_true,cond_true,a1,ea,Option.bind_some,if_true]
 rw [zCi h10,if_neg h10,cond_false]
 by_cases h11 : k = 11
 ·subst h11; rw [if_pos rfl,beq_self_eq_true,cond_true,zQH n t (by omega)]; rfl
 rw [zCi h11,if_neg h11,cond_false]
theorem kinds (k : Int) : k = 1 ∨ k = 2 ∨ k = 3 ∨ k = 4 ∨ k = 5 ∨ k = 6 ∨ k = 7 ∨ k = 8 ∨ k = 9 ∨ k = 10 ∨ k = 11 ∨ k = 12 ∨ (k < 1 ∨ 12 < k):=by omega
theorem zRL (k : Int) (t : List UInt8) (c : Int) (ks : List Nd) : zGE (.mk k t c ks) = some (zFe k c (ks.length : Int)):=by
 unfold zGE;dsimp only;generalize (ks.length : Int) = m;rcases kinds k with rfl | rfl | rfl | rfl | rfl | rfl | rfl | rfl | rfl | rfl | rfl | rfl | h
 ·simp only [bne,zFe]; generalize (c == 0) = z; generalize decide (m ≤ 200) = y; cases z <;> rfl
 ·simp only [bne,zFe]; generalize (c == 0) = z; generalize (m == 0) = y; cases z <;> rfl
 ·simp only [bne,zFe]; generalize (c == 0) = z; generalize (m == 0) = y; cases z <;> rfl
 ·simp only [bne,zFe]; generalize (c == 0) = z; generalize (m == 0) = y; cases z <;> rfl
 ·simp only [bne,zFe]; generalize (c == 0) = z; generalize (m == 2) = y; cases z <;> rfl
 ·simp only [bne,zFe]; generalize (c == 0) = z; generalize (m == 2) = y; cases z <;> rfl
 ·simp only [bne,zFe]; generalize (c == 0) = z; generalize (m == 2) = y; cases z <;> rfl
 ·simp only [bne,zFe]; generalize (c == 0) = z; generalize (m == 2) = y; cases z <;> rfl
 ·simp only [bne,zFe]; generalize (c == 0) = z; generalize (m == 3) = y; cases z <;> rfl
 ·simp only [bne,zFe]; generalize (c == 0) = z; generalize (m == 1) = y; cases z <;> rfl
 ·simp only [bne,zFe]; generalize (c == 0) = z; generalize (m == 1) = y; cases z <;> rfl
 ·unfold zFe;rw [if_pos rfl,beq_self_eq_true,cond_true]
  by_cases h1 : 1 ≤ c
  ·rw [zBg h1,zCg (by omega)]
   generalize (m.tmod c == 0) = y;cases decide (c ≤ 16) <;> cases decide (1 ≤ m) <;> cases decide (m ≤ 256) <;> rfl
  ·rw [zBf h1]; rfl
 ·have e : ∀ i : Int,1 ≤ i → i ≤ 12 → (k == i) = false:=fun i h1 h2=>zCi (by omega)
  have f : ∀ i : Int,1 ≤ i → i ≤ 12 → k ≠ i:=fun i h1 h2=>by omega
  unfold zFe;rw [if_neg (f 12 (by decide) (by decide)),if_neg (f 1 (by decide) (by decide)),if_neg (f 2 (by decide) (by decide)),if_neg (f 3 (by decide) (by decide)),if_neg (f 4 (by decide) (by decide)),if_neg (f 5 (by decide) (by decide)),
   if_neg (f 6 (by decide) (by decide)),if_neg (f 7 (by decide) (by decide)),if_neg (f 8 (by decide) (by decide)),if_neg (f 9 (by decide) (by decide)),if_neg (f 10 (by decide) (by decide)),if_neg (f 11 (by decide) (by decide))]
  rw [e 12 (by decide) (by decide),e 1 (by decide) (by decide),e 2 (by decide) (by decide),e 3 (by decide) (by decide),e 4 (by decide) (by decide),e 5 (by decide) (by decide),
   e 6 (by decide) (by decide),e 7 (by decide) (by decide),e 8 (by decide) (by decide),e 9 (by decide) (by decide),e 10 (by decide) (by decide),e 11 (by decide) (by decide)]
  cases (c == 0) <;> cases (c != 0) <;> rfl
theorem zWY (n : Nat) (x : Int) (k : Int) (t : List UInt8) (c : Int) (ks : List Nd) (h : t.length + 40 < n) (hb : t.length ≤ 1073741824) :
  zCo n ((),x) (.mk k t c ks) = some (zI7 k t && zFe k c (ks.length : Int),((),x)):=by
 have e200:=zFF t.length 200;rw [show ((200 : Nat) : Int) = 200 from rfl] at e200;unfold zCo;dsimp only;generalize (ks.length : Int) = m;have em : zB3 t = some (t == []):=rfl;rcases kinds k with rfl | rfl | rfl | rfl | rfl | rfl | rfl | rfl | rfl | rfl | rfl | rfl | h
 ·simp only [em]
  show _ = some ((t == []) && ((c == 0) && decide (m ≤ 200)),((),x))
  cases t == [] <;> cases c == 0 <;> rfl
 ·simp only [zMO n t h hb]
  show _ = some (symB t && ((c == 0) && (m == 0)),((),x))
  cases symB t <;> cases c == 0 <;> rfl
 ·simp only [zMN n t (by omega) hb]
  show _ = some (numB t && ((c == 0) && (m == 0)),((),x))
  cases numB t <;> cases c == 0 <;> rfl
 ·simp only [zOz n t (by omega) hb,e200]
  show _ = some ((decide (t.length ≤ 200) && t.all zGK) && ((c == 0) && (m == 0)),((),x))
  cases decide (t.length ≤ 200) <;> cases t.all zGK <;> cases c == 0 <;> rfl
 ·simp only [em]
  show _ = some ((t == []) && ((c == 0) && (m == 2)),((),x))
  cases t == [] <;> cases c == 0 <;> rfl
 ·simp only [em]
  show _ = some ((t == []) && ((c == 0) && (m == 2)),((),x))
  cases t == [] <;> cases c == 0 <;> rfl
 ·simp only [em]
  show _ = some ((t == []) && ((c == 0) && (m == 2)),((),x))
  cases t == [] <;> cases c == 0 <;> rfl
 ·simp only [em]
  show _ = some ((t == []) && ((c == 0) && (m == 2)),((),x))
  cases t == [] <;> cases c == 0 <;> rfl
 ·simp only [em]
  show _ = some ((t == []) && ((c == 0) && (m == 3)),((),x))
  cases t == [] <;> cases c == 0 <;> rfl
 ·simp only [zIw]
  show _ = some ((acL.any fun e=>e == t) && ((c == 0) && (m == 1)),((),x))
  cases (acL.any fun e=>e == t) <;> cases c == 0 <;> rfl
 ·simp only [zOy]
  show _ = some (fenB t && ((c == 0) && (m == 1)),((),x))
  cases fenB t <;> cases c == 0 <;> rfl
 ·simp only [em]
  show _ = some ((t == []) && (decide (1 ≤ c) && (decide (c ≤ 16) && (decide (1 ≤ m) && (decide (m ≤ 256) && (m.tmod c == 0))))),((),x))
  by_cases h1 : 1 ≤ c
  ·rw [zBg h1,zCg (by omega)]
   generalize (m.tmod c == 0) = y;cases t == [] <;> cases decide (c ≤ 16) <;> cases decide (1 ≤ m) <;> cases decide (m ≤ 256) <;> rfl
  ·rw [zBf h1]
   cases t == [] <;> rfl
 ·have f : ∀ i : Int,1 ≤ i → i ≤ 12 → k ≠ i:=fun i h1 h2=>by omega
  have hk : zFe k c m = false:=by
   unfold zFe;rw [if_neg (f 12 (by decide) (by decide)),if_neg (f 1 (by decide) (by decide)),if_neg (f 2 (by decide) (by decide)),if_neg (f 3 (by decide) (by decide)),if_neg (f 4 (by decide) (by decide)),if_neg (f 5 (by decide) (by decide)),
    if_neg (f 6 (by decide) (by decide)),if_neg (f 7 (by decide) (by decide)),if_neg (f 8 (by decide) (by decide)),if_neg (f 9 (by decide) (by decide)),if_neg (f 10 (by decide) (by decide)),if_neg (f 11 (by decide) (by decide))]
   exact Bool.and_false _
  rw [hk,Bool.and_false]
  by_cases h1 : k < 1
  ·rw [zBg h1]; rfl
  ·rw [zBf h1,zBg (show 12 < k by omega)]; rfl
theorem zJP {F : Nd → Option Bool} {k : Int} {ks : List Nd} (hF : ∀ v ∈ ks,F v = some (zCm v)) (hl : ks.length ≤ 1073741824) :
  ∀ (q i : Nat),ks.length - i < q → i ≤ ks.length → zCY F k ks q (i : Int) = some (if zBi k (ks.drop i) then .go () else .ret false)
 | 0,_,h,_=>by omega
 | q + 1,i,hq,hi=>by
  unfold zCY
  by_cases h : i < ks.length
  ·rw [zBg (Int.ofNat_lt.2 h),cond_true,zBx h]
   have hf:=hF _ (List.getElem_mem h)
   have g1:=zNs (k:=k) h;rcases e : ks[i] with ⟨a,b,c,d⟩
   rw [e] at hf g1;simp only [Nd.kind] at g1;generalize zBi k (ks.drop i) = g at g1 ⊢;subst g1;simp only [Option.bind_some,hf]
   rw [zAX (by omega),zJP hF hl q (i + 1) (by omega) (by omega)]
   cases ((a == 1) == (k == 1)) <;> cases zCm (Nd.mk a b c d) <;> simp
  ·rw [zBf (by omega),cond_false]
   obtain rfl : i = ks.length :=(by omega);simp [zBi]
theorem zMh : ∀ (n : Nat) (t : Nd),t.w + 45 < n → t.w ≤ 1073741824 → zDD n t = some (zCm t)
 | 0,_,h,_=>by omega
 | n + 1,.mk k t c ks,h,hb=>by
  simp only [Nd.w] at h hb;have hl:=Nd.ws_len ks;unfold zDD;rw [zRM n k t c ks (by omega) (by omega),zRL]
  have:=zJP (F:=zDD n) (k:=k) (ks:=ks) (fun v hv=>zMh n v (by have:=Nd.w_mem hv; omega) (by have:=Nd.w_mem hv; omega)) (by omega) n 0 (by omega) (by omega)
  rw [show ((0 : Nat) : Int) = 0 from rfl,List.drop_zero] at this;simp only [Option.bind_some,this,zCm]
  cases zI7 k t <;> cases zFe k c (ks.length : Int) <;> cases zBi k ks <;> rfl
theorem zIB {F : Nd → Option Int} {ks : List Nd} (hF : ∀ v ∈ ks,F v = some (v.dep : Int)) (hl : ks.length ≤ 1073741824) :
  ∀ (q i o : Nat),ks.length - i < q → i ≤ ks.length → zCy F ks q (o : Int) (i : Int) = some ((Nat.max o (Nd.deps (ks.drop i)) : Nat) : Int)
 | 0,_,_,h,_=>by omega
 | q + 1,i,o,hq,hi=>by
  unfold zCy
  by_cases h : i < ks.length
  ·rw [zBg (Int.ofNat_lt.2 h),cond_true,zBx h,zPJ h]
   have hf:=hF _ (List.getElem_mem h)
   rcases e : ks[i] with ⟨a,b,c,d⟩
   rw [e] at hf;simp only [Option.bind_some,hf]
   have hm : (if (o : Int) < ((Nd.mk a b c d).dep : Int) then ((Nd.mk a b c d).dep : Int) else (o : Int)) = ((Nat.max o (Nd.mk a b c d).dep : Nat) : Int):=by
    by_cases g : (o : Int) < ((Nd.mk a b c d).dep : Int)
    ·rw [if_pos g]; congr 1; exact (Nat.max_eq_right (by omega)).symm
    ·rw [if_neg g]; congr 1; exact (Nat.max_eq_left (by omega)).symm
   rw [zAX (by omega),hm,zIB hF hl q (i + 1) _ (by omega) (by omega)]
   congr 2
   exact Nat.max_assoc _ _ _
  ·rw [zBf (by omega),cond_false]
   obtain rfl : i = ks.length :=(by omega);rw [List.drop_length]
   congr 2
   exact (Nat.max_eq_left (Nat.zero_le _)).symm
theorem zKN : ∀ (n : Nat) (t : Nd),t.cnt < n → t.cnt ≤ 67108864 → zCX n t = some (t.dep : Int)
 | 0,_,h,_=>by omega
 | n + 1,.mk k t c ks,h,hb=>by
  simp only [Nd.cnt] at h hb;have hl:=Nd.cnts_len ks;have hd:=Nd.deps_cnts ks;unfold zCX;have:=zIB (F:=zCX n) (ks:=ks) (fun v hv=>zKN n v (by have:=Nd.cnts_mem hv; omega) (by have:=Nd.cnts_mem hv; omega)) (by omega) n 0 0 (by omega) (by omega)
  rw [show ((0 : Nat) : Int) = 0 from rfl,List.drop_zero] at this;rw [this,Option.bind_some,show Nat.max 0 (Nd.deps ks) = Nd.deps ks from Nat.max_eq_right (Nat.zero_le _),zAX (by omega)]
  rfl
def zAL (t : Nd) : Bool:=(t.kind == 1) && (zCm t && (decide (t.cnt ≤ 1000) && decide (t.dep ≤ 24)))
theorem zKO (n : Nat) (t : Nd) (h : t.w + 45 < n) (hb : t.w ≤ 67108864) : zEH n t = some (zAL t):=by
 have hc:=Nd.cnt_w t;have e1:=zMh n t h (by omega)
 have e2:=zKM n t (by omega) (by omega)
 have e3:=zKN n t (by omega) (by omega)
 have e4:=zFF t.cnt 1000;rw [show ((1000 : Nat) : Int) = 1000 from rfl] at e4;have e5:=zFF t.dep 24;rw [show ((24 : Nat) : Int) = 24 from rfl] at e5;obtain ⟨k,s,c,ks⟩:=t;unfold zEH zAL;simp only [e1,e2,e3,Option.bind_some,e4,e5,Nd.kind]
 cases k == 1 <;> cases zCm (.mk k s c ks) <;> cases decide ((Nd.mk k s c ks).cnt ≤ 1000) <;> rfl
abbrev okN (t : Nd) (x d : Nat) : Prop:=zCm t = true ∧ x + t.cnt ≤ 1000 ∧ d + t.dep ≤ 25
abbrev okNs (k : Int) (vs : List Nd) (x d : Nat) : Prop:=zBi k vs = true ∧ x + Nd.cnts vs ≤ 1000 ∧ d + Nd.deps vs ≤ 24
theorem zNl {F : (Unit × Int) → Nd → Int → Option (Bool × (Unit × Int))} {k : Int} {ks : List Nd} {d : Nat} (hd : d ≤ 24)
  (hF : ∀ v ∈ ks,∀ x : Nat,x ≤ 1000 → ∃ y,F ((),(x : Int)) v ((d + 1 : Nat) : Int) = some (decide (okN v x (d + 1)),((),y)) ∧ (okN v x (d + 1) → y = ((x + v.cnt : Nat) : Int))) (hl : ks.length ≤ 1073741824) :
  ∀ (q i x : Nat),ks.length - i < q → i ≤ ks.length → x ≤ 1000 →
   (okNs k (ks.drop i) x d ∧ zA0 F k ks (d : Int) q (x : Int) (i : Int) = some (.go ((x + Nd.cnts (ks.drop i) : Nat) : Int))) ∨
   (¬ okNs k (ks.drop i) x d ∧ ∃ z,zA0 F k ks (d : Int) q (x : Int) (i : Int) = some (.ret (false,((),z))))
 | 0,_,_,h,_,_=>by omega
 | q + 1,i,x,hq,hi,hx=>by
  unfold zA0
  by_cases h : i < ks.length
  ·rw [zBg (Int.ofNat_lt.2 h),cond_true,zBx h]
   obtain ⟨y,hf,hy⟩:=hF _ (List.getElem_mem h) x hx;have g1:=zNs (k:=k) h;have g2:=Nd.cnts_drop h;have g3:=zPJ h;rcases e : ks[i] with ⟨a,b,c,ds⟩
   rw [e] at hf hy g1 g2 g3;simp only [Option.bind_some]
   rw [zAX (by omega),zAX (by omega),hf]
   simp only [Option.bind_some]
   have g4 : Nd.deps (ks.drop i) = Nat.max (Nd.mk a b c ds).dep (Nd.deps (ks.drop (i + 1))):=g3;have g5 : (Nd.mk a b c ds).dep ≤ Nd.deps (ks.drop i) :=(by rw [g4]; exact Nat.le_max_left _ _);have g6 : Nd.deps (ks.drop (i + 1)) ≤ Nd.deps (ks.drop i) :=(by rw [g4]; exact Nat.le_max_right _ _);rw [show ((k == 1) == (a == 1)) = ((a == 1) == (k == 1)) by cases k == 1 <;> cases a == 1 <;> rfl]
   cases hkk : ((a == 1) == (k == 1)) with
   | true =>
    simp only [cond_true,Option.bind_some]
    refine .inr ⟨fun ⟨h1,_⟩=>?_,_,rfl⟩
    rw [g1] at h1;simp [Nd.kind,hkk] at h1
   | false =>
    simp only [cond_false,Option.bind_some]
    by_cases hok : okN (Nd.mk a b c ds) x (d + 1)
    ·rw [zBg hok]
     simp only [Bool.not_true,cond_false]
     rw [hy hok]
     have hp:=(Nd.mk a b c ds).cnt_pos;rcases zNl hd hF hl q (i + 1) (x + (Nd.mk a b c ds).cnt) (by omega) (by omega) hok.2.1 with ⟨hr,hr2⟩ | ⟨hr,z,hr2⟩
     ·refine .inl ⟨⟨?_,?_,?_⟩,?_⟩
      ·rw [g1,hr.1,hok.1]; simp [Nd.kind,hkk]
      ·have:=hr.2.1; omega
      ·have:=hr.2.2;have:=hok.2.2;have : Nd.deps (ks.drop i) ≤ 24 - d:=by rw [g4]; exact Nat.max_le.2 ⟨by omega,by omega⟩
       omega
      ·rw [hr2,g2]; congr 3; omega
     ·refine .inr ⟨fun ⟨h1,h2,h3⟩=>hr ⟨?_,by omega,by omega⟩,z,hr2⟩
      rw [g1] at h1;simp only [Bool.and_eq_true] at h1;exact h1.2
    ·rw [zBf hok]
     simp only [Bool.not_false,cond_true]
     refine .inr ⟨fun ⟨h1,h2,h3⟩=>hok ⟨?_,by omega,by omega⟩,y,rfl⟩
     rw [g1] at h1;simp only [Bool.and_eq_true] at h1;exact h1.1.2
  ·rw [zBf (by omega),cond_false]
   obtain rfl : i = ks.length :=(by omega);rw [List.drop_length]
   exact .inl ⟨⟨rfl,hx,hd⟩,rfl⟩
theorem zR4 : ∀ (n : Nat) (t : Nd) (x d : Nat),t.w + 45 < n → t.w ≤ 67108864 → x ≤ 1000 → d ≤ 25 →
  ∃ y,zBa n ((),(x : Int)) t (d : Int) = some (decide (okN t x d),((),y)) ∧ (okN t x d → y = ((x + t.cnt : Nat) : Int))
 | 0,_,_,_,h,_,_,_=>by omega
 | n + 1,.mk k t c ks,x,d,h,hb,hx,hd=>by
  simp only [Nd.w] at h hb;have hl:=Nd.ws_len ks;unfold zBa;rw [zAX (by omega)]
  by_cases h1 : 1000 < ((x + 1 : Nat) : Int)
  ·rw [zBg h1]
   simp only [cond_true,Option.bind_some]
   have hn : ¬ okN (.mk k t c ks) x d:=fun ⟨_,h2,_⟩=>by simp only [Nd.cnt] at h2; omega
   exact ⟨_,by rw [zBf hn],fun h=>absurd h hn⟩
  ·rw [zBf h1,cond_false]
   by_cases h2 : 24 < (d : Int)
   ·rw [zBg h2]
    simp only [cond_true,Option.bind_some]
    have hn : ¬ okN (.mk k t c ks) x d:=fun ⟨_,_,h2⟩=>by simp only [Nd.dep] at h2; omega
    exact ⟨_,by rw [zBf hn],fun h=>absurd h hn⟩
   ·rw [zBf h2,cond_false,zWY n _ k t c ks (by omega) (by omega)]
    simp only [Option.bind_some]
    cases ho : (zI7 k t && zFe k c (ks.length : Int)) with
    | false =>
     simp only [Bool.not_false,cond_true]
     have hn : ¬ okN (.mk k t c ks) x d:=fun ⟨h1,_⟩=>by rw [zCm,ho] at h1; cases h1
     exact ⟨_,by rw [zBf hn],fun h=>absurd h hn⟩
    | true =>
     simp only [Bool.not_true,cond_false]
     have:=zNl (F:=zBa n) (k:=k) (ks:=ks) (d:=d) (by omega) (fun v hv z hz=>zR4 n v z (d + 1) (by have:=Nd.w_mem hv; omega) (by have:=Nd.w_mem hv; omega) hz (by omega)) (by omega) n 0 (x + 1) (by omega) (by omega) (by omega)
     rw [show ((0 : Nat) : Int) = 0 from rfl,List.drop_zero] at this;rcases this with ⟨hr,hr2⟩ | ⟨hr,z,hr2⟩
     ·have hy : okN (.mk k t c ks) x d:=⟨by rw [zCm,ho,hr.1]; rfl,by have:=hr.2.1; simp only [Nd.cnt]; omega,by have:=hr.2.2; simp only [Nd.dep]; omega⟩
      rw [hr2]
      exact ⟨_,by rw [zBg hy]; rfl,fun _=>by simp only [Nd.cnt]; omega⟩
     ·have hn : ¬ okN (.mk k t c ks) x d:=fun ⟨g1,g2,g3⟩=>hr ⟨by rw [zCm,ho] at g1; exact g1,by simp only [Nd.cnt] at g2; omega,by simp only [Nd.dep] at g3; omega⟩
      rw [hr2]
      exact ⟨_,by rw [zBf hn]; rfl,fun h=>absurd h hn⟩
theorem zCq (n : Nat) (t : Nd) (h : t.w + 45 < n) (hb : t.w ≤ 67108864) : zAZ n t = some (zAL t):=by
 obtain ⟨y,h1,_⟩:=zR4 n t 0 1 h hb (by omega) (by omega)
 rw [show ((0 : Nat) : Int) = 0 from rfl,show ((1 : Nat) : Int) = 1 from rfl] at h1;obtain ⟨k,s,c,ks⟩:=t;unfold zAZ zAL;have hk : zEa = some ():=rfl;simp only [hk,h1,Option.bind_some,Nd.kind]
 cases k == 1 with
 | false=>rfl
 | true =>
  simp only [cond_true,Option.bind_some,Bool.true_and,Option.some.injEq,okN]
  cases zCm (.mk k s c ks) with
  | false=>simp
  | true =>
   by_cases g1 : (Nd.mk k s c ks).cnt ≤ 1000
   ·by_cases g2 : (Nd.mk k s c ks).dep ≤ 24
    ·rw [zBg g1,zBg g2,zBg ⟨rfl,by omega,by omega⟩]; rfl
    ·rw [zBg g1,zBf g2,zBf (fun h=>g2 (by omega))]; rfl
   ·rw [zBf g1,zBf (fun h=>g1 (by omega))]; rfl
end Go.Proofs.YtjdhkpdjecegnaaGreatDoor
namespace Go.Proofs.YtjdhkpdjecegnaaGreatDoor
open Go.Abs
def Nd.text : Nd → List UInt8 | .mk _ t _ _=>t
def Nd.cols : Nd → Int | .mk _ _ c _=>c
theorem Nd.cnt_kids : ∀ x : Nd,x.cnt = Nd.cnts x.kids + 1
 | .mk _ _ _ _=>rfl
def zDe (x y : Nd) : Bool:=(x.kind == y.kind) && (((x.kids.length : Int) == (y.kids.length : Int)) && (x.cols == y.cols))
def rowD (P : Nd → Nd → Nat) (x : Nd) (f : List Nd → Nat) : List Nd → Nat
 | []=>x.cnt + f []
 | y :: ys=>if zDe x y then min (min (x.cnt + f (y :: ys)) (y.cnt + rowD P x f ys)) (P x y + f ys) else min (x.cnt + f (y :: ys)) (y.cnt + rowD P x f ys)
def TD (P : Nd → Nd → Nat) : List Nd → List Nd → Nat
 | []=>Nd.cnts
 | x :: xs=>rowD P x (TD P xs)
def sumD (f : List Nd → List Nd → Nat) : List Nd → List Nd → Nat
 | u :: us,v :: vs=>f u.kids v.kids + sumD f us vs
 | _,_=>0
def txt (x y : Nd) : Nat:=bif x.text == y.text then 0 else 1
def PD : Nat → Nd → Nd → Nat
 | 0,_,_=>0
 | n + 1,x,y=>txt x y + sumD (TD (PD n)) x.kids y.kids
def D (x y : Nd) : Nat:=PD x.cnt x y
def DL (a b : List Nd) : Nat:=TD D a b
theorem zNM {P P' : Nd → Nd → Nat} {x : Nd} {f : List Nd → Nat} (h : ∀ y,P x y = P' x y) : ∀ b,rowD P x f b = rowD P' x f b
 | []=>rfl
 | y :: ys=>by simp only [rowD,zNM h ys,h]
theorem zOb {P P' : Nd → Nd → Nat} : ∀ {a : List Nd},(∀ x ∈ a,∀ y,P x y = P' x y) → TD P a = TD P' a
 | [],_=>rfl
 | x :: xs,h=>by
  rw [TD,TD,zOb fun x hx=>h x (List.mem_cons_of_mem _ hx)]
  exact funext (zNM (h x List.mem_cons_self))
theorem zKn {f g : List Nd → List Nd → Nat} : ∀ {us : List Nd} (vs : List Nd),(∀ u ∈ us,f u.kids = g u.kids) → sumD f us vs = sumD g us vs
 | [],vs,_=>by cases vs <;> rfl
 | u :: us,[],_=>rfl
 | u :: us,v :: vs,h=>by
  rw [sumD,sumD,h u List.mem_cons_self,zKn vs fun u hu=>h u (List.mem_cons_of_mem _ hu)]
theorem zO6 : ∀ (n m : Nat) (x y : Nd),x.cnt ≤ n → x.cnt ≤ m → PD n x y = PD m x y
 | 0,_,x,_,h,_=>by have:=x.cnt_pos; omega
 | _ + 1,0,x,_,_,h=>by have:=x.cnt_pos; omega
 | n + 1,m + 1,x,y,h1,h2=>by
  rw [PD,PD]
  congr 1
  refine zKn _ fun u hu=>zOb fun x' hx' y'=>?_
  have e1:=x.cnt_kids;have e2:=u.cnt_kids;have e3:=Nd.cnts_mem hu;have e4:=Nd.cnts_mem hx';exact zO6 n m x' y' (by omega) (by omega)
theorem D_eq (x y : Nd) : D x y = txt x y + sumD DL x.kids y.kids:=by
 unfold D DL;have e1:=x.cnt_kids;rw [e1,PD]
 congr 1
 refine zKn _ fun u hu=>zOb fun x' hx' y'=>?_
 have e2:=u.cnt_kids;have e3:=Nd.cnts_mem hu;have e4:=Nd.cnts_mem hx';exact zO6 _ _ x' y' (by omega) (Nat.le_refl _)
theorem zUt {P : Nd → Nd → Nat} {x : Nd} {f : List Nd → Nat} {c : Nat} (h : ∀ b,f b ≤ c + Nd.cnts b) : ∀ b,rowD P x f b ≤ x.cnt + c + Nd.cnts b
 | []=>by have:=h []; simp only [rowD]; omega
 | y :: ys=>by
  have h1:=h (y :: ys)
  have : rowD P x f (y :: ys) ≤ x.cnt + f (y :: ys):=by
   simp only [rowD]
   split
   ·exact Nat.le_trans (Nat.min_le_left _ _) (Nat.min_le_left _ _)
   ·exact Nat.min_le_left _ _
  omega
theorem zRf {P : Nd → Nd → Nat} : ∀ a b : List Nd,TD P a b ≤ Nd.cnts a + Nd.cnts b
 | [],b=>by simp [TD,Nd.cnts]
 | x :: xs,b=>by
  have:=zUt (P:=P) (x:=x) (zRf (P:=P) xs) b;simp only [TD,Nd.cnts]; omega
theorem zRY : ∀ us vs : List Nd,sumD DL us vs ≤ Nd.cnts us + Nd.cnts vs
 | [],vs=>by cases vs <;> simp [sumD]
 | u :: us,[]=>by simp [sumD]
 | u :: us,v :: vs=>by
  have h1:=zRY us vs;have h2 : DL u.kids v.kids ≤ _:=zRf u.kids v.kids;have e1:=u.cnt_kids;have e2:=v.cnt_kids;simp only [sumD,Nd.cnts]; omega
theorem zVY (x y : Nd) : txt x y ≤ 1:=by
 unfold txt;cases x.text == y.text
 ·exact Nat.le_refl _
 ·exact Nat.zero_le _
theorem D_le (x y : Nd) : D x y ≤ x.cnt + y.cnt:=by
 have h1:=zRY x.kids y.kids;have h2:=zVY x y;have e1:=x.cnt_kids;have e2:=y.cnt_kids;rw [D_eq]; omega
def sufs (f : List Nd → Nat) : List Nd → List Int
 | []=>[(f [] : Int)]
 | y :: ys=>(f (y :: ys) : Int) :: sufs f ys
theorem zMv (f : List Nd → Nat) : ∀ b,∃ r,sufs f b = (f b : Int) :: r
 | []=>⟨_,rfl⟩
 | y :: ys=>⟨_,rfl⟩
theorem zNT (f : List Nd → Nat) (b : List Nd) : (sufs f b).headD 0 = (f b : Int):=by
 obtain ⟨r,h⟩:=zMv f b; rw [h]; rfl
def tabD (P : Nd → Nd → Nat) : List Nd → List Nd → List (List Int)
 | [],b=>[sufs (TD P []) b]
 | x :: xs,b=>sufs (TD P (x :: xs)) b :: tabD P xs b
theorem zQU (P : Nd → Nd → Nat) : ∀ a b,∃ r,tabD P a b = sufs (TD P a) b :: r
 | [],b=>⟨_,rfl⟩
 | x :: xs,b=>⟨_,rfl⟩
theorem zXd (P : Nd → Nd → Nat) (a b : List Nd) : ∃ r,at? (tabD P a b) 0 = some r ∧ at? r 0 = some (TD P a b : Int):=by
 obtain ⟨r,h⟩:=zQU P a b;obtain ⟨r',h'⟩:=zMv (TD P a) b;exact ⟨sufs (TD P a) b,by rw [h]; rfl,by rw [h']; rfl⟩
theorem zSj (a b : Nat) : (if (a : Int) < (b : Int) then (a : Int) else (b : Int)) = ((min a b : Nat) : Int):=by
 by_cases h : (a : Int) < (b : Int)
 ·rw [if_pos h,Nat.min_eq_left (by omega)]
 ·rw [if_neg h,Nat.min_eq_right (by omega)]
theorem zVE {f : List Nd → List Nd → Nat} {a b : List Nd} {i : Nat} (h : i < a.length) (h' : i < b.length) : sumD f (a.drop i) (b.drop i) = f a[i].kids b[i].kids + sumD f (a.drop (i + 1)) (b.drop (i + 1)):=by
 rw [List.drop_eq_getElem_cons h,List.drop_eq_getElem_cons h']; rfl
theorem zLG {x y : Nd} (h : zDe x y = true) : x.kids.length = y.kids.length:=by
 unfold zDe at h;simp only [Bool.and_eq_true] at h;have:=eq_of_beq h.2.1
 omega
end Go.Proofs.YtjdhkpdjecegnaaGreatDoor
namespace Go.Proofs.YtjdhkpdjecegnaaGreatDoor
open Go.Abs
def zRy : List (List UInt8):=[[114,111,119],[115,121,109],[110,117,109],[116,101,120,116],[102,114,97,99],[114,111,111,116],[115,117,98],[115,117,112],
 [98,111,116,104],[97,99,99,101,110,116],[102,101,110,99,101],[109,97,116,114,105,120]]
def kindName (k : Int) : List UInt8:=if 1 ≤ k ∧ k ≤ 12 then zRy.getD (k.toNat - 1) [] else [110,111,100,101] ++ Lib.itoa k
def escL : List UInt8 → List UInt8
 | []=>[]
 | c :: r=>if c = 34 ∨ c = 92 then 92 :: c :: escL r else c :: escL r
def zQV (t : List UInt8) : List UInt8:=if t = [] then [] else 58 :: 34 :: (escL t ++ [34])
def zUX (c : Int) : List UInt8:=if c = 0 then [] else 42 :: Lib.itoa c
def zOo (k : Int) (t : List UInt8) (c : Int) : List UInt8:=kindName k ++ (zQV t ++ zUX c)
def zTW : List UInt8 → List UInt8
 | []=>[]
 | _ :: r=>40 :: (r ++ [41])
mutual
def zEh : Nd → List UInt8
 | .mk k t c ks=>zOo k t c ++ zTW (zIv ks)
def zIv : List Nd → List UInt8
 | []=>[]
 | v :: vs=>32 :: (zEh v ++ zIv vs)
end
theorem zSV : ∀ i < 12,zRy.getD i [] ≠ []:=by decide
theorem zRu (k : Int) : kindName k ≠ []:=by
 unfold kindName;split
 ·exact zSV _ (by omega)
 ·simp
def hd (l : List UInt8) (s : List UInt8) : Prop:=∀ b r,l = b :: r → b ∈ s
theorem zK9 : ∀ t : List UInt8,(escL t).length ≤ 2 * t.length
 | []=>Nat.le_refl _
 | c :: r=>by
  have:=zK9 r;simp only [escL]
  split <;> simp only [List.length_cons] <;> omega
theorem zKF {k : Int} (h : zPY k) : (kindName k).length ≤ 25:=by
 unfold kindName;split
 ·have : ∀ i < 12,(zRy.getD i []).length ≤ 25 :=(by decide);exact this _ (by omega)
 ·have:=Lib.itoa_length_le k h.1 h.2
  simp; omega
theorem zTT {k : Int} {t : List UInt8} {c : Int} (hk : zPY k) (hc : zPY c) : (zOo k t c).length ≤ 55 + 2 * t.length:=by
 have h1:=zKF hk;have h2:=zK9 t;have h3:=Lib.itoa_length_le c hc.1 hc.2;have h4 : (zQV t).length ≤ 3 + 2 * t.length :=(by unfold zQV; split <;> simp; omega);have h5 : (zUX c).length ≤ 22 :=(by unfold zUX; split <;> simp; omega);simp only [zOo,List.length_append]; omega
theorem zTX (l : List UInt8) : (zTW l).length ≤ l.length + 1:=by cases l <;> simp [zTW]
mutual
theorem zPL : ∀ v : Nd,v.rng → (zEh v).length ≤ 60 * v.w
 | .mk k t c ks,h=>by
  have h1:=zTT (t:=t) h.1 h.2.1
  have h2:=zNn ks h.2.2
  have h3:=zTX (zIv ks)
  simp only [zEh,List.length_append,Nd.w]; omega
theorem zNn : ∀ vs : List Nd,Nd.rngs vs → (zIv vs).length ≤ 60 * Nd.ws vs
 | [],_=>by simp [zIv]
 | v :: vs,h=>by
  have h1:=zPL v h.1
  have h2:=zNn vs h.2
  simp only [zIv,List.length_cons,List.length_append,Nd.ws]; omega
end
theorem zQZ (c : UInt8) (l : List UInt8) (h : l.length < 4294967296) : zAH c l = some ((),l ++ [c]):=by
 unfold zAH zA7;simp only [Option.bind_some]
 rw [zCg (by simp; omega)]
theorem zWB (s l : List UInt8) (h : l.length + s.length ≤ 4294967296) : zAk s l = some ((s.length : Int),(),l ++ s):=by
 unfold zAk zA7;simp only [Option.bind_some]
 rw [zCg h]
theorem zVO {n : Int} (h : zPY n) : zDT n = some (Lib.itoa n):=by
 unfold zDT;exact zCg (show -9223372036854775808 ≤ n ∧ n ≤ 9223372036854775807 from h)
theorem zVM (c : UInt8) : ((c.toNat : Int) == 34) = (c == 34) ∧ ((c.toNat : Int) == 92) = (c == 92) :=
 ⟨of_decide_eq_true (zKS (P:=fun c=>decide (((c.toNat : Int) == 34) = (c == 34))) (by decide +kernel) c),of_decide_eq_true (zKS (P:=fun c=>decide (((c.toNat : Int) == 92) = (c == 92))) (by decide +kernel) c)⟩
theorem zTO {t : List UInt8} {i : Nat} (h : i < t.length) : escL (t.drop i) = if t[i] = 34 ∨ t[i] = 92 then 92 :: t[i] :: escL (t.drop (i + 1)) else t[i] :: escL (t.drop (i + 1)):=by
 rw [List.drop_eq_getElem_cons h]; rfl
theorem zJA (t : List UInt8) (ht : t.length ≤ 1073741824) : ∀ (k i : Nat) (l : List UInt8),t.length - i < k → i ≤ t.length → l.length + 2 * (t.length - i) < 4294967296 →
  zAU t k (i : Int) l = some (l ++ escL (t.drop i))
 | 0,_,_,h,_,_=>by omega
 | k + 1,i,l,hk,hi,hl=>by
  unfold zAU
  by_cases h : i < t.length
  ·rw [zBg (Int.ofNat_lt.2 h),cond_true,zBx h,zTO h]
   simp only [Option.bind_some,(zVM t[i]).1,(zVM t[i]).2]
   rw [zAX (by omega)]
   have e92 : b8of 92 = 92:=rfl
   by_cases h1 : t[i] = 34
   ·rw [if_pos (.inl h1),show (t[i] == 34) = true from beq_iff_eq.2 h1,cond_true]
    simp only [Option.bind_some,cond_true]
    rw [e92,zQZ _ _ (by omega)]
    simp only [Option.bind_some]
    rw [zQZ _ _ (by simp; omega)]
    simp only [Option.bind_some]
    rw [zJA t ht k (i + 1) _ (by omega) (by omega) (by simp; omega)]
    simp
   ·rw [show (t[i] == 34) = false from beq_eq_false_iff_ne.2 h1,cond_false]
    simp only [Option.bind_some]
    by_cases h2 : t[i] = 92
    ·rw [if_pos (.inr h2),show (t[i] == 92) = true from beq_iff_eq.2 h2,cond_true]
     try simp only [Option.bind_some,cond_true]
     rw [e92,zQZ _ _ (by omega)]
     simp only [Option.bind_some]
     rw [zQZ _ _ (by simp; omega)]
     simp only [Option.bind_some]
     rw [zJA t ht k (i + 1) _ (by omega) (by omega) (by simp; omega)]
     simp [h2]
    ·rw [if_neg (by intro h; exact h.elim h1 h2),show (t[i] == 92) = false from beq_eq_false_iff_ne.2 h2,cond_false]
     simp only [Option.bind_some]
     rw [zQZ _ _ (by omega)]
     simp only [Option.bind_some]
     rw [zJA t ht k (i + 1) _ (by omega) (by omega) (by simp; omega)]
     simp
  ·rw [zBf (by omega),cond_false]
   obtain rfl : i = t.length :=(by omega);simp [escL]
theorem zP8 (k : Int) : kindName k = if k = 1 then [114,111,119] else if k = 2 then [115,121,109] else if k = 3 then [110,117,109] else if k = 4 then [116,101,120,116]
 else if k = 5 then [102,114,97,99] else if k = 6 then [114,111,111,116] else if k = 7 then [115,117,98] else if k = 8 then [115,117,112]
 else if k = 9 then [98,111,116,104] else if k = 10 then [97,99,99,101,110,116] else if k = 11 then [102,101,110,99,101]
 else if k = 12 then [109,97,116,114,105,120] else [110,111,100,101] ++ Lib.itoa k:=by
 rcases kinds k with rfl | rfl | rfl | rfl | rfl | rfl | rfl | rfl | rfl | rfl | rfl | rfl | hk
 all_goals first | rfl | skip
 unfold kindName;rw [if_neg (by omega),if_neg (by omega),if_neg (by omega),if_neg (by omega),if_neg (by omega),if_neg (by omega),if_neg (by omega),if_neg (by omega),if_neg (by omega),if_neg (by omega),if_neg (by omega),if_neg (by omega),if_neg (by omega)]
theorem zWj (k : Int) : (bif decide (1 ≤ k) then some (decide (k ≤ 12)) else some false : Option Bool) = some (decide (1 ≤ k ∧ k ≤ 12)):=by
 by_cases h : 1 ≤ k
 ·rw [zBg h,cond_true]; congr 1; by_cases h2 : k ≤ 12 <;> simp [h,h2]
 ·rw [zBf h,cond_false]; congr 1; simp [h]
theorem head_eq (n : Nat) (k : Int) (t : List UInt8) (c : Int) (ks : List Nd) (l : List UInt8) (hn : t.length < n) (ht : t.length ≤ 1073741824) (hk : zPY k) (hc : zPY c) (hl : l.length + 2 * t.length + 60 < 4294967296) :
  zBo n (.mk k t c ks) l = some (l ++ zOo k t c):=by
 unfold zBo;have hki:=Lib.itoa_length_le k hk.1 hk.2;have hci:=Lib.itoa_length_le c hc.1 hc.2;have h1 : ∀ X : Option (List UInt8),X = some (l ++ kindName k) → ∀ K : List UInt8 → Option (List UInt8),X.bind K = K (l ++ kindName k):=fun X h K=>by rw [h]; rfl
 simp only [zWj,Option.bind_some]
 have hlen:=zKF hk;rw [h1 _ ?_]
 ·have h2 : ∀ X : Option (List UInt8),X = some ((l ++ kindName k) ++ zQV t) → ∀ K : List UInt8 → Option (List UInt8),X.bind K = K ((l ++ kindName k) ++ zQV t):=fun X h K=>by rw [h]; rfl
  rw [h2 _ ?_]
  ·unfold zOo zUX;have htx : (zQV t).length ≤ 3 + 2 * t.length:=by have:=zK9 t; unfold zQV; split <;> simp; omega
   by_cases h0 : c = 0
   ·subst h0;rw [if_pos rfl,show ((0 : Int) != 0) = false from rfl,cond_false]
    simp
   ·rw [if_neg h0,show (c != 0) = true from bne_iff_ne.2 h0,cond_true,zVO hc]
    simp only [Option.bind_some]
    rw [zCg (by simp; omega),zWB _ _ (by simp; omega)]
    simp
  ·unfold zQV
   by_cases h0 : t = []
   ·subst h0;simp
   ·rw [if_neg h0,show (!(t == [])) = true from by simp [h0],cond_true,zWB _ _ (by simp; omega)]
    simp only [Option.bind_some]
    have:=zJA t ht n 0 ((l ++ kindName k) ++ [58,34]) (by omega) (by omega) (by simp; omega)
    rw [show ((0 : Nat) : Int) = 0 from rfl] at this;rw [this]
    have he:=zK9 t;simp only [Option.bind_some,List.drop_zero]
    rw [show b8of 34 = 34 from rfl,zQZ _ _ (by simp; omega)]
    simp
 ·rw [zP8]
  have go : ∀ s : List UInt8,s.length ≤ 25 → ((zAk s l).bind fun x=>match x with | (_,_,b)=>some b) = some (l ++ s):=fun s hs=>by
   rw [zWB _ _ (by omega)]; rfl
  rcases kinds k with rfl | rfl | rfl | rfl | rfl | rfl | rfl | rfl | rfl | rfl | rfl | rfl | hk'
  all_goals first | exact go _ (by decide) | skip
  rw [show decide (1 ≤ k ∧ k ≤ 12) = false from decide_eq_false (by omega),cond_false,zVO hk]
  simp only [Option.bind_some]
  rw [zCg (by simp; omega),if_neg (by omega),if_neg (by omega),if_neg (by omega),if_neg (by omega),if_neg (by omega),if_neg (by omega),if_neg (by omega),if_neg (by omega),if_neg (by omega),if_neg (by omega),if_neg (by omega),if_neg (by omega)]
  exact go _ (by simp; omega)
def remK (ks : List Nd) (i : Nat) : List UInt8:=if i = 0 then zTW (zIv ks) else zIv (ks.drop i) ++ [41]
def outS : List (Nd × Nat) → List UInt8
 | []=>[]
 | p :: r=>outS r ++ remK p.1.kids p.2
def itS : List (Nd × Nat) → Nat
 | []=>0
 | p :: r=>itS r + (1 + 2 * Nd.cnts (p.1.kids.drop p.2))
theorem zGI (p : Nd × Nat) : ∀ L,outS (L ++ [p]) = remK p.1.kids p.2 ++ outS L
 | []=>by simp [outS]
 | q :: r=>by simp only [List.cons_append,outS,zGI p r,List.append_assoc]
theorem zH2 (p : Nd × Nat) : ∀ L,itS (L ++ [p]) = itS L + (1 + 2 * Nd.cnts (p.1.kids.drop p.2))
 | []=>by simp [itS]
 | q :: r=>by simp only [List.cons_append,itS,zH2 p r]; omega
theorem zRt : ∀ L,L.length ≤ itS L
 | []=>Nat.le_refl _
 | q :: r=>by have:=zRt r; simp only [itS,List.length_cons]; omega
theorem zUp {ks : List Nd} {i : Nat} (h : i < ks.length) : remK ks i = (if i = 0 then 40 else 32) :: (zEh ks[i] ++ remK ks (i + 1)):=by
 unfold remK;rw [if_neg (by omega : ¬ i + 1 = 0)]
 by_cases h0 : i = 0
 ·subst h0;rw [if_pos rfl,if_pos rfl]
  match ks,h with
  | v :: vs,_=>simp [zIv,zTW]
 ·rw [if_neg h0,if_neg h0,List.drop_eq_getElem_cons h]
  simp [zIv]
theorem zVt (ks : List Nd) : remK ks ks.length = if ks.length = 0 then [] else [41]:=by
 unfold remK
 by_cases h : ks.length = 0
 ·rw [if_pos h,if_pos h,List.length_eq_zero_iff.1 h]; rfl
 ·rw [if_neg h,if_neg h,List.drop_length]; rfl
theorem zJy (k : Int) (t : List UInt8) (c : Int) (ks : List Nd) : zEh (.mk k t c ks) = zOo k t c ++ remK ks 0:=by
 simp [zEh,remK]
theorem zR0 (k : Int) (t : List UInt8) (c : Int) (ks : List Nd) : (Nd.mk k t c ks).w = t.length + Nd.ws ks + 1:=rfl
def entI (p : Nd × Nat) : Nd × Int:=(p.1,(p.2 : Int))
theorem zLm (n : Nat) : ∀ (k : Nat) (L : List (Nd × Nat)) (b : List UInt8),itS L < k → itS L ≤ 1000000000 → (∀ p ∈ L,p.2 ≤ p.1.kids.length ∧ p.1.rng ∧ p.1.w ≤ 16777216 ∧ p.1.w < n) → b.length + (outS L).length ≤ 4000000000 →
  zB1 n k b (L.map entI) = some (b ++ outS L)
 | 0,_,_,h,_,_,_=>by omega
 | k + 1,L,b,hk,hit,hL,hb=>by
  unfold zB1;rcases List.eq_nil_or_concat L with rfl | ⟨L,⟨v,i⟩,rfl⟩
  ·simp [outS]
  ·rw [List.concat_eq_append] at *;obtain ⟨hi,hr,hw,hwn⟩:=hL (v,i) (by simp)
   obtain ⟨k0,t,c,ks⟩:=v;replace hr : (Nd.mk k0 t c ks).rng:=hr;replace hw : (Nd.mk k0 t c ks).w ≤ 16777216:=hw;replace hwn : (Nd.mk k0 t c ks).w < n:=hwn;have hlen : ((List.map entI (L ++ [(Nd.mk k0 t c ks,i)])).length : Int) = (L.length : Int) + 1 :=(by simp);have hll:=zRt (L ++ [(Nd.mk k0 t c ks,i)])
   rw [List.length_append,List.length_singleton] at hll;have hwr : IntKind.i64.wrap (((List.map entI (L ++ [(Nd.mk k0 t c ks,i)])).length : Int) - 1) = (L.length : Int) :=(by rw [hlen,wrap64_in (by omega) (by omega)]; omega);have hat : at? (List.map entI (L ++ [(Nd.mk k0 t c ks,i)])) (L.length : Int) = some (Nd.mk k0 t c ks,(i : Int)):=by
    rw [zBx (by simp)]; simp [entI]
   rw [zBg (by omega),cond_true,hwr,hat]
   simp only [Option.bind_some,Nd.kids] at hi ⊢;rw [zGI] at hb ⊢;rw [zH2] at hk hit;simp only [Nd.kids] at hb hk hit ⊢
   by_cases he : i = ks.length
   ·subst he;rw [show ((ks.length : Int) == (ks.length : Int)) = true from beq_self_eq_true _,cond_true]
    have hre:=zVt ks;have hx : (bif decide (0 < (ks.length : Int)) then (zAH (b8of 41) b).bind (fun x=>match x with | (_,b14)=>some b14) else some b) = some (b ++ remK ks ks.length):=by
     rw [hre]
     by_cases h0 : ks.length = 0
     ·rw [zBf (by omega),cond_false,if_pos h0]; simp
     ·rw [zBg (by omega),cond_true,if_neg h0,zQZ _ _ (by omega)]; rfl
    have hx' : ∀ X : Option (List UInt8),X = some (b ++ remK ks ks.length) → ∀ K : List UInt8 → Option (List UInt8),X.bind K = K (b ++ remK ks ks.length):=fun X h K=>by rw [h]; rfl
    rw [hx' _ hx,zCg (by omega),Int.toNat_natCast]
    have ht : List.take L.length (List.map entI (L ++ [(Nd.mk k0 t c ks,ks.length)])) = L.map entI :=(by simp);rw [ht,zLm n k L _ (by omega) (by omega) (fun p hp=>hL p (by simp [hp])) (by simp only [List.length_append] at hb ⊢; omega)]
    simp
   ·have h : i < ks.length :=(by omega);rw [zCi (by omega : (i : Int) ≠ (ks.length : Int)),cond_false,zBx h]
    have hd:=Nd.cnts_drop h;have hrs:=zUp h;rw [hrs] at hb ⊢;have hkr : (ks[i]).rng:=Nd.rng_mem hr.2.2 (List.getElem_mem h)
    have hkw : (ks[i]).w < Nd.ws ks:=Nd.w_mem (List.getElem_mem h)
    have hwt:=zR0 k0 t c ks;rcases e : ks[i] with ⟨e1,e2,e3,e4⟩
    rw [e] at hd hkr hkw hb;have hwt2:=zR0 e1 e2 e3 e4;have hct:=Nd.cnt_kids (.mk e1 e2 e3 e4)
    simp only [Nd.kids] at hct;rw [zJy] at hb;simp only [Option.bind_some]
    have hsep : at? ([40,32] : List UInt8) (if 1 < (i : Int) then 1 else (i : Int)) = some (if i = 0 then 40 else 32):=by
     by_cases h0 : i = 0
     ·subst h0; rfl
     ·rw [if_neg h0]
      by_cases h1 : i = 1
      ·subst h1; rfl
      ·rw [if_pos (by omega)]; rfl
    rw [hsep]
    simp only [Option.bind_some]
    simp only [List.length_append,List.length_cons] at hb;rw [zQZ _ _ (by omega)]
    simp only [Option.bind_some]
    rw [head_eq n e1 e2 e3 e4 _ (by omega) (by omega) hkr.1 hkr.2.1 (by simp; omega)]
    simp only [Option.bind_some]
    have hset : (List.map entI (L ++ [(Nd.mk k0 t c ks,i)])).set (L.length : Int).toNat (Nd.mk k0 t c ks,IntKind.i64.wrap ((i : Int) + 1)) ++ [(Nd.mk e1 e2 e3 e4,0)] = (L ++ [(Nd.mk k0 t c ks,i + 1)] ++ [(Nd.mk e1 e2 e3 e4,0)]).map entI:=by
     have hlk:=Nd.ws_len ks;rw [wrap64_in (by omega) (by omega)]
     simp [entI]
    have hll2:=zRt L;rw [zCg (by simp; omega),hset]
    rw [zLm n k _ _ (by rw [zH2,zH2]; simp only [Nd.kids,List.drop_zero]; omega) (by rw [zH2,zH2]; simp only [Nd.kids,List.drop_zero]; omega) ?_ ?_]
    ·rw [zGI,zGI,zJy]
     simp [Nd.kids]
    ·intro p hp;rcases List.mem_append.1 hp with hp | hp
     ·rcases List.mem_append.1 hp with hp | hp
      ·exact hL p (by simp [hp])
      ·simp only [List.mem_singleton] at hp; subst hp
       exact ⟨h,hr,hw,hwn⟩
     ·simp only [List.mem_singleton] at hp; subst hp
      exact ⟨Nat.zero_le _,hkr,(show (Nd.mk e1 e2 e3 e4).w ≤ 16777216 by omega),(show (Nd.mk e1 e2 e3 e4).w < n by omega)⟩
    ·rw [zGI,zGI]
     simp only [Nd.kids,List.length_append,List.length_cons,List.length_nil]
     omega
theorem zU2 (t : Nd) : zEh t ≠ []:=by
 obtain ⟨k,t,c,ks⟩:=t;rw [zJy]
 unfold zOo;have:=zRu k;simp [this]
theorem zKH (n : Nat) (t : Nd) (h : 2 * t.w < n) (hw : t.w ≤ 16777216) (hr : t.rng) : zEF n t = some (zEh t):=by
 have hlen:=zPL t hr;have hne:=zU2 t;have hcw:=Nd.cnt_w t;have hck:=Nd.cnt_kids t;obtain ⟨k,tx,c,ks⟩:=t;have hwt:=zR0 k tx c ks;simp only [Nd.kids] at hck;unfold zEF zEa;simp only [Option.bind_some]
 rw [head_eq n k tx c ks [] (by omega) (by omega) hr.1 hr.2.1 (by simp; omega)]
 simp only [Option.bind_some,List.nil_append]
 have hl:=zLm n n [(.mk k tx c ks,0)] (zOo k tx c) (by simp [itS,Nd.kids]; omega) (by simp [itS,Nd.kids]; omega) (fun p hp=>by simp only [List.mem_singleton] at hp; subst hp; exact ⟨Nat.zero_le _,hr,hw,(show (Nd.mk k tx c ks).w < n by omega)⟩) (by
  rw [zJy] at hlen;simp only [outS,Nd.kids,List.length_append,List.nil_append] at hlen ⊢; omega)
 have e : List.map entI [(Nd.mk k tx c ks,0)] = [(Nd.mk k tx c ks,0)]:=rfl;rw [e] at hl;rw [hl,Option.bind_some]
 have e2 : zOo k tx c ++ outS [(Nd.mk k tx c ks,0)] = zEh (.mk k tx c ks) :=(by rw [zJy]; simp [outS,Nd.kids]);rw [e2]
 unfold zCI;rw [zCg ⟨hne,by omega⟩,Option.bind_some]
end Go.Proofs.YtjdhkpdjecegnaaGreatDoor
namespace Go.Proofs.YtjdhkpdjecegnaaGreatDoor
open Go.Abs
def cntI (x : Nd) : Int:=(x.cnt : Int)
theorem zNP (n : Nat) {l : List Nd} (hn : ∀ v ∈ l,v.cnt < n) (hb : Nd.cnts l ≤ 1048576) : ∀ (q i : Nat),l.length - i < q → i ≤ l.length →
  zCb n l q (i : Int) ((l.take i).map cntI ++ List.replicate (l.length - i) 0) = some (l.map cntI)
 | 0,_,h,_=>by omega
 | q + 1,i,hq,hi=>by
  have l1:=Nd.cnts_len l;unfold zCb
  by_cases h : i < l.length
  ·rw [zBg (Int.ofNat_lt.2 h),cond_true,zBx h]
   have hm:=List.getElem_mem h;have hc:=zOx n _ (hn _ hm) (by have:=Nd.cnts_mem hm; omega)
   have ht : l.take (i + 1) = l.take i ++ [l[i]]:=List.take_append_getElem h ▸ rfl;rcases e : l[i] with ⟨a,b,c,d⟩
   rw [e] at hc ht;simp only [Option.bind_some,hc]
   have hlen : ((l.take i).map cntI).length = i :=(by simp; omega);obtain ⟨m,hm⟩ : ∃ m,l.length - i = m + 1:=⟨l.length - i - 1,by omega⟩
   have hg : at? ((l.take i).map cntI ++ List.replicate (l.length - i) (0 : Int)) (i : Int) = some 0:=by
    unfold at?
    rw [if_pos (by omega),Int.toNat_natCast,List.getElem?_append_right (by omega),hlen,hm]
    simp
   rw [hg,Option.bind_some,zAX (by omega),Int.toNat_natCast]
   have hs : ((l.take i).map cntI ++ List.replicate (l.length - i) (0 : Int)).set i ((Nd.mk a b c d).cnt : Int) = (l.take (i + 1)).map cntI ++ List.replicate (l.length - (i + 1)) 0:=by
    rw [List.set_append_right _ _ (by omega),hlen,Nat.sub_self,hm,ht,show l.length - (i + 1) = m by omega,List.replicate_succ,List.set_cons_zero,List.map_append]
    simp [cntI]
   rw [hs]
   exact zNP n hn hb q (i + 1) (by omega) (by omega)
  ·rw [zBf (by omega),cond_false]
   obtain rfl : i = l.length :=(by omega);simp
theorem zSy (n : Nat) (l : List Nd) (hn : Nd.cnts l + 1 < n) (hb : Nd.cnts l ≤ 1048576) : zD8 n l = some (l.map cntI):=by
 have l1:=Nd.cnts_len l;have:=zNP n (l:=l) (fun v hv=>by have:=Nd.cnts_mem hv; omega) hb n 0 (by omega) (by omega)
 rw [show ((0 : Nat) : Int) = 0 from rfl] at this;simp only [List.take_zero,List.map_nil,List.nil_append,Nat.sub_zero] at this;rw [zD8,zCg ⟨by omega,by omega⟩,Int.toNat_natCast,this]; rfl
theorem zSd : ∀ b : List Nd,Nd.cnts b ≤ 1048576 → zA1 (b.map cntI) = sufs (TD D []) b
 | [],_=>rfl
 | y :: ys,hb=>by
  simp only [Nd.cnts] at hb;have hf : TD D [] ys = Nd.cnts ys:=rfl;rw [List.map_cons,zA1,zSd ys (by omega),zNT,hf,cntI,wrap64_in (by omega) (by omega),sufs,show TD D [] (y :: ys) = y.cnt + Nd.cnts ys from rfl]
  congr 1; omega
def prI (x y : Nd) : Int:=bif zDe x y then (D x y : Int) else -1
theorem zTS {F : Nd → Nd → Option Int} {x : Nd} {f : List Nd → Nat} {c : Nat} (hx : x.cnt ≤ 1048576) (hc : c ≤ 1048576) (hf : ∀ b,f b ≤ c + Nd.cnts b) :
  ∀ (b : List Nd),(∀ y ∈ b,F x y = some (prI x y)) → Nd.cnts b ≤ 1048576 → zAE F x (x.cnt : Int) b (b.map cntI) (sufs f b) = some (sufs (rowD D x f) b,b.map (prI x))
 | [],_,_=>by
  have:=hf []
  simp only [Nd.cnts] at this;simp only [sufs,List.map_nil,zAE,rowD]
  rw [wrap64_in (by omega) (by omega),Nat.add_comm]; rfl
 | y :: ys,h1,hb=>by
  simp only [Nd.cnts] at hb;have g1:=hf (y :: ys)
  simp only [Nd.cnts] at g1;have g2:=hf ys;have g3:=zUt (P:=D) (x:=x) hf ys;have g4:=D_le x y;have ih:=zTS (F:=F) hx hc hf ys (fun y hy=>h1 y (List.mem_cons_of_mem _ hy)) (by omega)
  obtain ⟨r,hr⟩:=zMv f ys;rw [sufs,hr,List.map_cons,zAE,← hr,ih,Option.bind_some,h1 y List.mem_cons_self,Option.bind_some]
  dsimp only;rw [zNT,cntI,wrap64_in (n:=(f (y :: ys) : Int) + (x.cnt : Int)) (by omega) (by omega),wrap64_in (n:=(rowD D x f ys : Int) + _) (by omega) (by omega),← Int.natCast_add,← Int.natCast_add,zSj,Nat.add_comm (f (y :: ys)),Nat.add_comm (rowD D x f ys)]
  unfold prI;cases ha : zDe x y with
  | false =>
   simp only [cond_false,sufs,rowD,ha,List.map_cons]
   rw [if_neg (by omega)]
   simp [prI,ha]
  | true =>
   simp only [cond_true]
   rw [if_pos (by omega),wrap64_in (by omega) (by omega),← Int.natCast_add,zSj,Nat.min_comm,Nat.add_comm (f ys)]
   simp [sufs,rowD,ha,prI]
theorem zSe {F : Nd → Nd → Option Int} {b : List Nd} (hb : Nd.cnts b ≤ 1048576) :
  ∀ (a : List Nd),(∀ x ∈ a,∀ y ∈ b,F x y = some (prI x y)) → Nd.cnts a ≤ 1048576 → zAO F b (b.map cntI) a (a.map cntI) = some (tabD D a b,a.map fun x=>b.map (prI x))
 | [],_,_=>by rw [List.map_nil,zAO,zSd b hb]; rfl
 | x :: xs,h1,ha=>by
  simp only [Nd.cnts] at ha;rw [List.map_cons,zAO,zSe hb xs (fun y hy=>h1 y (List.mem_cons_of_mem _ hy)) (by omega),Option.bind_some]
  obtain ⟨r,hr⟩:=zQU D xs b;rw [hr]
  dsimp only;rw [cntI,zTS (c:=Nd.cnts xs) (by omega) (by omega) (zRf xs) b (h1 x List.mem_cons_self) hb,Option.bind_some,← hr]
  rfl
theorem zKK {F : List Nd → List Nd → Option (List (List Int) × List (List Int) × List Int × List Int)} {a b : List Nd} (hF : ∀ u ∈ a,∀ v ∈ b,∃ p,F u.kids v.kids = some (tabD D u.kids v.kids,p)) (hl : a.length = b.length) (ha : Nd.cnts a ≤ 1048576) :
  ∀ (q i o : Nat),a.length - i < q → i ≤ a.length → o + sumD DL (a.drop i) (b.drop i) ≤ 4000000 → zBI F a b q (o : Int) (i : Int) = some ((o + sumD DL (a.drop i) (b.drop i) : Nat) : Int)
 | 0,_,_,h,_,_=>by omega
 | q + 1,i,o,hq,hi,ho=>by
  have l1:=Nd.cnts_len a;unfold zBI
  by_cases h : i < a.length
  ·have h' : i < b.length :=(by omega);rw [zBg (Int.ofNat_lt.2 h),cond_true,zBx h,zBx h']
   obtain ⟨p,hf⟩:=hF _ (List.getElem_mem h) _ (List.getElem_mem h')
   have hs:=zVE (f:=DL) h h';rcases e : a[i] with ⟨x1,x2,x3,x4⟩
   rcases e' : b[i] with ⟨y1,y2,y3,y4⟩
   rw [e,e'] at hf hs;simp only [Nd.kids] at hf hs;obtain ⟨r,r1,r2⟩:=zXd D x4 y4;have hd : TD D x4 y4 = DL x4 y4:=rfl;rw [hd] at r2;obtain ⟨p1,p2,p3⟩:=p;simp only [Option.bind_some,hf,r1,r2]
   rw [zAX (by omega),wrap64_in (by omega) (by omega),← Int.natCast_add,zKK hF hl ha q (i + 1) _ (by omega) (by omega) (by omega)]
   congr 2; omega
  ·rw [zBf (by omega),cond_false]
   obtain rfl : i = a.length :=(by omega);rw [List.drop_length]
   cases List.drop a.length b <;> rfl
theorem zTP : ∀ N : Nat,(∀ x y : Nd,2 * x.cnt + 2 * y.cnt < N → x.cnt ≤ 1048576 → y.cnt ≤ 1048576 → zBL N x y = some (prI x y)) ∧
  (∀ a b : List Nd,2 * Nd.cnts a + 2 * Nd.cnts b + 2 < N → Nd.cnts a ≤ 1048576 → Nd.cnts b ≤ 1048576 → zCa N a b = some (tabD D a b,(a.map fun x=>b.map (prI x)),a.map cntI,b.map cntI))
 | 0=>⟨fun _ _ h _ _=>by omega,fun _ _ h _ _=>by omega⟩
 | n + 1=>by
  obtain ⟨ih1,ih2⟩:=zTP n;refine ⟨fun x y h hx hy=>?_,fun a b h ha hb=>?_⟩
  ·have e1:=x.cnt_kids;have e2:=y.cnt_kids;have hle:=zRY x.kids y.kids;have hD:=D_eq x y;have l1:=Nd.cnts_len x.kids;have hF : ∀ u ∈ x.kids,∀ v ∈ y.kids,∃ p,zCa n u.kids v.kids = some (tabD D u.kids v.kids,p):=fun u hu v hv=>by
    have:=Nd.cnts_mem hu;have:=Nd.cnts_mem hv;have:=u.cnt_kids;have:=v.cnt_kids;exact ⟨_,ih2 _ _ (by omega) (by omega) (by omega)⟩
   have ht:=zVY x y;have hal : zDe x y = true → x.kids.length = y.kids.length:=zLG;have hlp : x.kids.length = y.kids.length → _:=fun hl=>zKK hF hl (by omega) n 0 (txt x y) (by omega) (by omega) (by simp only [List.drop_zero]; omega)
   rw [show ((0 : Nat) : Int) = 0 from rfl,List.drop_zero,List.drop_zero,← hD] at hlp;obtain ⟨a,b,c,d⟩:=x;obtain ⟨a',b',c',d'⟩:=y;unfold zBL;have e : (bif (!(b == b')) then some 1 else some 0 : Option Int) = some (txt (.mk a b c d) (.mk a' b' c' d') : Int):=by
    unfold txt;simp only [Nd.text]
    cases b == b' <;> rfl
   have e3 : (bif (a != a') then some true else bif (c != c') then some true else some ((d.length : Int) != (d'.length : Int)) : Option Bool) = some (!zDe (.mk a b c d) (.mk a' b' c' d')):=by
    unfold zDe bne;simp only [Nd.kind,Nd.kids,Nd.cols]
    cases a == a' <;> cases c == c' <;> cases ((d.length : Int) == (d'.length : Int)) <;> rfl
   rw [e,e3]
   unfold prI;cases hab : zDe (.mk a b c d) (.mk a' b' c' d') with
   | false=>rfl
   | true =>
    simp only [Nd.kids] at hlp hal;simp only [Option.bind_some,Bool.not_true,cond_false,cond_true]
    rw [hlp (hal hab)]; rfl
  ·have l1:=Nd.cnts_len a;have l2:=Nd.cnts_len b;rw [zCa,zSy n a (by omega) ha,zSy n b (by omega) hb,Option.bind_some,Option.bind_some,zCg ⟨by omega,by omega,by simp⟩]
   rw [zSe hb a (fun x hx y hy=>?_) ha]
   ·rfl
   ·have:=Nd.cnts_mem hy;have:=Nd.cnts_mem hx;exact ih1 x y (by omega) (by omega) (by omega)
theorem zOk (n : Nat) (a b : Nd) (ha : a.w + 45 < n) (ha' : a.w ≤ 67108864) (hb : b.w + 45 < n) (hb' : b.w ≤ 67108864) : zD9 n a b = some (zAL a && zAL b):=by
 have e1:=zCq n a ha ha';have e2:=zCq n b hb hb';obtain ⟨a1,a2,a3,a4⟩:=a;obtain ⟨b1,b2,b3,b4⟩:=b;unfold zD9;simp only [e1,e2,Option.bind_some]
 cases zAL (.mk a1 a2 a3 a4) <;> rfl
end Go.Proofs.YtjdhkpdjecegnaaGreatDoor
namespace Go.Proofs.YtjdhkpdjecegnaaGreatDoor
open Go.Abs
theorem zUS (k : Nat) : zG0 (k + 60) = some true:=by
 with_unfolding_all rfl
end Go.Proofs.YtjdhkpdjecegnaaGreatDoor
namespace Go.Proofs.YtjdhkpdjecegnaaGreatDoor
open Go.Abs
theorem zWP (n : Nat) (a b : Nd) (h : 130 < n) : ∃ y,zHE n a b = some y ∧ (y = true → a.cnt ≤ 120 ∧ b.cnt ≤ 120):=by
 obtain ⟨y1,h1,h2⟩:=zVK n a 120 (by omega) (by omega)
 obtain ⟨y2,g1,g2⟩:=zVK n b 120 (by omega) (by omega)
 rw [show ((120 : Nat) : Int) = 120 from rfl] at h1 g1;obtain ⟨a1,a2,a3,a4⟩:=a;obtain ⟨b1,b2,b3,b4⟩:=b;unfold zHE;simp only [h1,g1,Option.bind_some]
 cases y1 with
 | false=>exact ⟨false,rfl,fun h=>by cases h⟩
 | true=>exact ⟨y2,rfl,fun h=>⟨h2 rfl,g2 h⟩⟩
end Go.Proofs.YtjdhkpdjecegnaaGreatDoor
namespace Go.Proofs.YtjdhkpdjecegnaaGreatDoor
open Go.Abs
theorem zPu {x y : Nd} : zDe x y = true ↔ x.kind = y.kind ∧ x.kids.length = y.kids.length ∧ x.cols = y.cols:=by
 unfold zDe;simp only [Bool.and_eq_true,beq_iff_eq]
 omega
theorem zC6 {k : Int} : ∀ {a : List Nd} {v : Nd},zBi k a = true → v ∈ a → zCm v = true ∧ ((v.kind == 1) == (k == 1)) = false
 | u :: a,v,h,hm=>by
  simp only [zBi,Bool.and_eq_true,Bool.not_eq_true'] at h;rcases List.mem_cons.1 hm with rfl | hm
  ·exact ⟨h.1.2,h.1.1⟩
  ·exact zC6 h.2 hm
theorem zGW {u : Nd} (h : zCm u = true) (hk : u.kind = 1) : u = .mk 1 [] 0 u.kids ∧ zBi 1 u.kids = true:=by
 obtain ⟨k,t,c,ks⟩:=u;simp only [Nd.kind] at hk;subst hk;simp only [zCm,Bool.and_eq_true] at h;obtain ⟨⟨h1,h2⟩,h3⟩:=h;have h1' : (t == []) = true:=h1;have h2' : ((c == 0) && decide ((ks.length : Int) ≤ 200)) = true:=h2;simp only [Bool.and_eq_true] at h2';rw [eq_of_beq h1',eq_of_beq h2'.1]
 exact ⟨rfl,h3⟩
theorem zQO {F : Nd → Nd → Option Bool} {a b : List Nd} (hF : ∀ u ∈ a,∀ v ∈ b,∃ y,F u v = some y ∧ (y = true ↔ u = v)) (hl : a.length = b.length) (hb : a.length ≤ 1073741824) :
  ∀ (q i : Nat),a.length - i < q → i ≤ a.length → ∃ y,zBE F a b q (i : Int) = some (if y then .go () else .ret false) ∧ (y = true ↔ a.drop i = b.drop i)
 | 0,_,h,_=>by omega
 | q + 1,i,hq,hi=>by
  unfold zBE
  by_cases h : i < a.length
  ·have h' : i < b.length :=(by omega);rw [zBg (Int.ofNat_lt.2 h),cond_true,zBx h,zBx h']
   obtain ⟨y,f1,f2⟩:=hF _ (List.getElem_mem h) _ (List.getElem_mem h')
   have d1:=List.drop_eq_getElem_cons h;have d2:=List.drop_eq_getElem_cons h';rcases e : a[i] with ⟨x1,x2,x3,x4⟩
   rcases e' : b[i] with ⟨y1,y2,y3,y4⟩
   rw [e,e'] at f1 f2;rw [e] at d1;rw [e'] at d2;simp only [Option.bind_some,f1]
   cases y with
   | false =>
    refine ⟨false,rfl,⟨(fun h=>by cases h),fun h=>?_⟩⟩
    rw [d1,d2] at h;exact f2.2 (List.cons.inj h).1
   | true =>
    simp only [Bool.not_true,cond_false]
    rw [zAX (by omega)]
    obtain ⟨z,g1,g2⟩:=zQO hF hl hb q (i + 1) (by omega) (by omega)
    refine ⟨z,g1,?_⟩
    rw [d1,d2,g2,f2.1 rfl]
    simp
  ·rw [zBf (by omega),cond_false]
   obtain rfl : i = a.length :=(by omega);refine ⟨true,rfl,?_⟩
   rw [List.drop_length,hl,List.drop_length]
   simp
theorem zNX : ∀ N : Nat,(∀ x y : Nd,2 * x.cnt < N → x.cnt ≤ 67108864 → ∃ r,zCd N x y = some r ∧ (r = true ↔ x = y)) ∧
  (∀ a b : List Nd,2 * Nd.cnts a + 1 < N → Nd.cnts a ≤ 67108864 → ∃ r,zCH N a b = some r ∧ (r = true ↔ a = b))
 | 0=>⟨fun _ _ h _=>by omega,fun _ _ h _=>by omega⟩
 | n + 1=>by
  obtain ⟨ih1,ih2⟩:=zNX n;refine ⟨fun x y h hx=>?_,fun a b h ha=>?_⟩
  ·obtain ⟨a,b,c,d⟩:=x;obtain ⟨a',b',c',d'⟩:=y;simp only [Nd.cnt] at h hx;obtain ⟨r,h1,h2⟩:=ih2 d d' (by omega) (by omega)
   unfold zCd;simp only [h1,Option.bind_some]
   cases e1 : a == a' with
   | false=>exact ⟨false,rfl,⟨(fun h=>by cases h),fun h=>by cases h; simp at e1⟩⟩
   | true =>
    cases e2 : b == b' with
    | false=>exact ⟨false,rfl,⟨(fun h=>by cases h),fun h=>by cases h; simp at e2⟩⟩
    | true =>
     cases e3 : c == c' with
     | false=>exact ⟨false,rfl,⟨(fun h=>by cases h),fun h=>by cases h; simp at e3⟩⟩
     | true =>
      refine ⟨r,rfl,h2.trans ⟨fun h=>?_,fun h=>by cases h; rfl⟩⟩
      rw [eq_of_beq e1,eq_of_beq e2,eq_of_beq e3,h]
  ·unfold zCH;have l1:=Nd.cnts_len a
   by_cases hl : a.length = b.length
   ·obtain ⟨y,g1,g2⟩:=zQO (F:=zCd n) (a:=a) (b:=b) (fun u hu v _=>ih1 u v (by have:=Nd.cnts_mem hu; omega) (by have:=Nd.cnts_mem hu; omega)) hl (by omega) n 0 (by omega) (by omega)
    rw [show ((0 : Nat) : Int) = 0 from rfl] at g1;rw [hl,bne_self_eq_false,cond_false,g1]
    refine ⟨y,by cases y <;> rfl,g2⟩
   ·have : ((a.length : Int) != (b.length : Int)) = true:=by
     unfold bne;rw [zCi (by omega)]; rfl
    rw [this]
    exact ⟨false,rfl,⟨(fun h=>by cases h),fun h=>absurd (congrArg List.length h) hl⟩⟩
theorem zFS {x : Nd} (h : zAL x = true) : x = .mk 1 [] 0 x.kids ∧ zBi 1 x.kids = true:=by
 unfold zAL at h;simp only [Bool.and_eq_true] at h;exact zGW h.2.1 (eq_of_beq h.1)
end Go.Proofs.YtjdhkpdjecegnaaGreatDoor
namespace Go.Proofs.YtjdhkpdjecegnaaGreatDoor
open Go.Abs
theorem zNB {F : Nd → Nd → Option Bool} {a b : List Nd} (hF : ∀ u ∈ a,∀ v ∈ b,∃ y,F u v = some y ∧ (y = true ↔ u = v)) (hl : a.length = b.length) (hb : a.length ≤ 1073741824) :
  ∀ (q i : Nat),a.length - i < q → i ≤ a.length → ∃ y,zAW F a b q (i : Int) = some (if y then .go () else .ret false) ∧ (y = true ↔ a.drop i = b.drop i)
 | 0,_,h,_=>by omega
 | q + 1,i,hq,hi=>by
  unfold zAW
  by_cases h : i < a.length
  ·have h' : i < b.length :=(by omega);rw [zBg (Int.ofNat_lt.2 h),cond_true,zBx h,zBx h']
   obtain ⟨y,f1,f2⟩:=hF _ (List.getElem_mem h) _ (List.getElem_mem h')
   have d1:=List.drop_eq_getElem_cons h;have d2:=List.drop_eq_getElem_cons h';rcases e : a[i] with ⟨x1,x2,x3,x4⟩
   rcases e' : b[i] with ⟨y1,y2,y3,y4⟩
   rw [e,e'] at f1 f2;rw [e] at d1;rw [e'] at d2;simp only [Option.bind_some,f1]
   cases y with
   | false =>
    refine ⟨false,rfl,⟨(fun h=>by cases h),fun h=>?_⟩⟩
    rw [d1,d2] at h;exact f2.2 (List.cons.inj h).1
   | true =>
    simp only [Bool.not_true,cond_false]
    rw [zAX (by omega)]
    obtain ⟨z,g1,g2⟩:=zNB hF hl hb q (i + 1) (by omega) (by omega)
    refine ⟨z,g1,?_⟩
    rw [d1,d2,g2,f2.1 rfl]
    simp
  ·rw [zBf (by omega),cond_false]
   obtain rfl : i = a.length :=(by omega);refine ⟨true,rfl,?_⟩
   rw [List.drop_length,hl,List.drop_length]
   simp
theorem zG2 : ∀ N : Nat,(∀ x y : Nd,2 * x.cnt < N → x.cnt ≤ 67108864 → ∃ r,zB2 N x y = some r ∧ (r = true ↔ x = y)) ∧
  (∀ a b : List Nd,2 * Nd.cnts a + 1 < N → Nd.cnts a ≤ 67108864 → ∃ r,zA6 N a b = some r ∧ (r = true ↔ a = b))
 | 0=>⟨fun _ _ h _=>by omega,fun _ _ h _=>by omega⟩
 | n + 1=>by
  obtain ⟨ih1,ih2⟩:=zG2 n;refine ⟨fun x y h hx=>?_,fun a b h ha=>?_⟩
  ·obtain ⟨a,b,c,d⟩:=x;obtain ⟨a',b',c',d'⟩:=y;simp only [Nd.cnt] at h hx;obtain ⟨r,h1,h2⟩:=ih2 d d' (by omega) (by omega)
   unfold zB2;simp only [h1,Option.bind_some]
   cases e1 : a == a' with
   | false=>exact ⟨false,rfl,⟨(fun h=>by cases h),fun h=>by cases h; simp at e1⟩⟩
   | true =>
    cases e2 : b == b' with
    | false=>exact ⟨false,rfl,⟨(fun h=>by cases h),fun h=>by cases h; simp at e2⟩⟩
    | true =>
     cases e3 : c == c' with
     | false=>exact ⟨false,rfl,⟨(fun h=>by cases h),fun h=>by cases h; simp at e3⟩⟩
     | true =>
      refine ⟨r,rfl,h2.trans ⟨fun h=>?_,fun h=>by cases h; rfl⟩⟩
      rw [eq_of_beq e1,eq_of_beq e2,eq_of_beq e3,h]
  ·unfold zA6;have l1:=Nd.cnts_len a
   by_cases hl : a.length = b.length
   ·obtain ⟨y,g1,g2⟩:=zNB (F:=zB2 n) (a:=a) (b:=b) (fun u hu v _=>ih1 u v (by have:=Nd.cnts_mem hu; omega) (by have:=Nd.cnts_mem hu; omega)) hl (by omega) n 0 (by omega) (by omega)
    rw [show ((0 : Nat) : Int) = 0 from rfl] at g1;rw [hl,bne_self_eq_false,cond_false,g1]
    refine ⟨y,by cases y <;> rfl,g2⟩
   ·have : ((a.length : Int) != (b.length : Int)) = true:=by
     unfold bne;rw [zCi (by omega)]; rfl
    rw [this]
    exact ⟨false,rfl,⟨(fun h=>by cases h),fun h=>absurd (congrArg List.length h) hl⟩⟩
theorem zVg (a b : Nat) : Nat.max a b = if a ≤ b then b else a:=rfl
theorem zOj : ∀ {ks : List Nd} {v : Nd},v ∈ ks → v.dep ≤ Nd.deps ks
 | u :: ks,v,h=>by
  simp only [Nd.deps,zVg]
  rcases List.mem_cons.1 h with rfl | h
  ·split <;> omega
  ·have:=zOj h; split <;> omega
end Go.Proofs.YtjdhkpdjecegnaaGreatDoor
namespace Go.Proofs.YtjdhkpdjecegnaaGreatDoor
open Go.Abs
def rowS (t : Nd) (p : List Int) : Nd × Int:=if zAL t = true then (match zCt t p with | some r=>(r,0) | none=>(zDu,8)) else (zDu,1)
theorem zPR : ∀ (N : Nat) (p : List Int) (t r : Nd),p.length < N → zCt t p = some r → r.w ≤ t.w ∧ r.cnt ≤ t.cnt
 | 0,p,_,_,h,_=>by omega
 | N + 1,[],t,r,_,h=>by
  rw [zCt] at h;cases h;exact ⟨Nat.le_refl _,Nat.le_refl _⟩
 | N + 1,[_],t,r,_,h=>by
  rw [zCt] at h;cases h
 | N + 1,i :: s :: p,.mk k tx c ks,r,hN,h=>by
  rw [zCt] at h;split at h
  ·rename_i hi
   replace hi : 0 ≤ i ∧ i < ks.length:=hi;have hi0 : i.toNat < ks.length :=(by omega);have hx : ks[i.toNat]? = some ks[i.toNat]:=List.getElem?_eq_getElem hi0;generalize ks[i.toNat] = x at hx;obtain ⟨k2,tx2,c2,ks2⟩:=x;simp only [Nd.kids,List.getD_eq_getElem?_getD,hx,Option.getD_some] at h;split at h
   ·rename_i hs
    have hs0 : s.toNat < ks2.length :=(by omega);have hz : ks2[s.toNat]? = some ks2[s.toNat]:=List.getElem?_eq_getElem hs0;generalize ks2[s.toNat] = z at hz;rw [hz,Option.getD_some] at h;obtain ⟨q1,q2⟩:=zPR N p z r (by simp only [List.length_cons] at hN; omega) h;have m1:=Nd.w_mem (List.mem_of_getElem? hx)
    have m2:=Nd.w_mem (List.mem_of_getElem? hz)
    have n1:=Nd.cnts_mem (List.mem_of_getElem? hx)
    have n2:=Nd.cnts_mem (List.mem_of_getElem? hz)
    simp only [Nd.w,Nd.cnt] at m1 m2 n1 n2 ⊢
    omega
   ·cases h
  ·cases h
theorem zGS {t : Nd} (h : t.cnt ≤ 1000000000) : zBc t = some t:=zCg h
theorem zRz (n : Nat) (t : Nd) (p : List Int) (hv : zAZ n t = some (zAL t)) (hc : t.cnt ≤ 1000000000) : zGC n t p = some (rowS t p):=by
 unfold zGC rowS;rw [hv]
 simp only [Option.bind_some]
 split
 ·cases hf : zCt t p with
  | none=>rfl
  | some r =>
   have:=(zPR _ p t r (Nat.lt_succ_self _) hf).2;simp only [zGS (Nat.le_trans this hc),Option.bind_some]
 ·rfl
end Go.Proofs.YtjdhkpdjecegnaaGreatDoor
namespace Go.Proofs.YtjdhkpdjecegnaaGreatDoor
open Go.Abs
inductive Fd : Nd → List Int → Nd → Prop
 | nil (t : Nd) : Fd t [] t
 | step {k : Int} {tx : List UInt8} {c : Int} {ks : List Nd} {i : Nat} {k2 : Int} {tx2 : List UInt8} {c2 : Int} {ks2 : List Nd} {s : Nat} {z r : Nd} {p : List Int}
   (hi : ks[i]? = some (.mk k2 tx2 c2 ks2)) (hs : ks2[s]? = some z) (h : Fd z p r) : Fd (.mk k tx c ks) ((i : Int) :: (s : Int) :: p) r
theorem Fd.find {t r : Nd} {p : List Int} (h : Fd t p r) : zCt t p = some r:=by
 induction h with
 | nil t=>rw [zCt]
 | @step k tx c ks i k2 tx2 c2 ks2 s z r p hi hs _ ih =>
  have hl:=(List.getElem?_eq_some_iff.1 hi).1;have hl2:=(List.getElem?_eq_some_iff.1 hs).1;rw [zCt,if_pos ⟨by omega,show (i : Int) < (ks.length : Int) by omega⟩]
  simp only [Nd.kids,List.getD_eq_getElem?_getD,Int.toNat_natCast,hi,hs,Option.getD_some]
  rw [if_pos ⟨by omega,show (s : Int) < (ks2.length : Int) by omega⟩]
  exact ih
theorem Fd.of : ∀ (N : Nat) (p : List Int) (t r : Nd),p.length < N → zCt t p = some r → Fd t p r
 | 0,p,_,_,h,_=>by omega
 | N + 1,[],t,r,_,h=>by
  rw [zCt] at h;cases h;exact .nil t
 | N + 1,[_],t,r,_,h=>by
  rw [zCt] at h;cases h
 | N + 1,i :: s :: p,.mk k tx c ks,r,hN,h=>by
  rw [zCt] at h;split at h
  ·rename_i hi
   replace hi : 0 ≤ i ∧ i < ks.length:=hi;obtain ⟨i,rfl⟩:=Int.eq_ofNat_of_zero_le hi.1;have hx : ks[i]? = some ks[i]:=List.getElem?_eq_getElem (by omega)
   generalize ks[i] = x at hx;obtain ⟨k2,tx2,c2,ks2⟩:=x;simp only [Nd.kids,List.getD_eq_getElem?_getD,Int.toNat_natCast,hx,Option.getD_some] at h;split at h
   ·rename_i hs
    obtain ⟨s,rfl⟩:=Int.eq_ofNat_of_zero_le hs.1;have hz : ks2[s]? = some ks2[s]:=List.getElem?_eq_getElem (by omega)
    generalize ks2[s] = z at hz;rw [Int.toNat_natCast,hz,Option.getD_some] at h;exact .step hx hz (Fd.of N p z r (by simp only [List.length_cons] at hN; omega) h)
   ·cases h
  ·cases h
theorem zWO {p : List Int} {t r : Nd} (h : zCt t p = some r) : Fd t p r:=Fd.of _ p t r (Nat.lt_succ_self _) h
theorem zDt {t r : Nd} : putL t [] r = r:=by cases t; rw [putL]; intros; contradiction
theorem zCk {k : Int} {tx : List UInt8} {c : Int} {ks : List Nd} {i : Nat} {k2 : Int} {tx2 : List UInt8} {c2 : Int} {ks2 : List Nd} {s : Nat} {z r : Nd} {p : List Int} (hi : ks[i]? = some (.mk k2 tx2 c2 ks2)) (hs : ks2[s]? = some z) :
  putL (.mk k tx c ks) ((i : Int) :: (s : Int) :: p) r = .mk k tx c (ks.set i (.mk k2 tx2 c2 (ks2.set s (putL z p r)))):=by
 rw [putL,Int.toNat_natCast,hi]
 dsimp only;rw [Int.toNat_natCast,hs]
theorem zMA : ∀ {ks : List Nd} {i : Nat} {x y : Nd},ks[i]? = some x → Nd.ws (ks.set i y) + x.w = Nd.ws ks + y.w
 | [],i,x,y,h=>by simp at h
 | v :: ks,0,x,y,h=>by
  obtain rfl : v = x :=(by simpa using h);simp only [List.set_cons_zero,Nd.ws]; omega
 | v :: ks,i + 1,x,y,h=>by
  have:=zMA (ks:=ks) (i:=i) (x:=x) (y:=y) (by simpa using h)
  simp only [List.set_cons_succ,Nd.ws]; omega
theorem zLP : ∀ {ks : List Nd} {i : Nat} {x y : Nd},ks[i]? = some x → Nd.cnts (ks.set i y) + x.cnt = Nd.cnts ks + y.cnt
 | [],i,x,y,h=>by simp at h
 | v :: ks,0,x,y,h=>by
  obtain rfl : v = x :=(by simpa using h);simp only [List.set_cons_zero,Nd.cnts]; omega
 | v :: ks,i + 1,x,y,h=>by
  have:=zLP (ks:=ks) (i:=i) (x:=x) (y:=y) (by simpa using h)
  simp only [List.set_cons_succ,Nd.cnts]; omega
theorem Fd.w {t z : Nd} {p : List Int} (h : Fd t p z) (r : Nd) : (putL t p r).w + z.w = t.w + r.w:=by
 induction h with
 | nil t=>rw [zDt]; omega
 | @step k tx c ks i k2 tx2 c2 ks2 s z r' p hi hs _ ih =>
  rw [zCk hi hs]
  have h1:=zMA (y:=.mk k2 tx2 c2 (ks2.set s (putL z p r))) hi;have h2:=zMA (y:=putL z p r) hs;simp only [Nd.w] at *
  omega
theorem Fd.cnt {t z : Nd} {p : List Int} (h : Fd t p z) (r : Nd) : (putL t p r).cnt + z.cnt = t.cnt + r.cnt:=by
 induction h with
 | nil t=>rw [zDt]; omega
 | @step k tx c ks i k2 tx2 c2 ks2 s z r' p hi hs _ ih =>
  rw [zCk hi hs]
  have h1:=zLP (y:=.mk k2 tx2 c2 (ks2.set s (putL z p r))) hi;have h2:=zLP (y:=putL z p r) hs;simp only [Nd.cnt] at *
  omega
theorem zQP {α : Type} {l : List α} {i : Nat} {x y : α} (h : l[i]? = some x) : (l.set i y)[i]? = some y:=by
 rw [List.getElem?_set,if_pos rfl,if_pos (List.getElem?_eq_some_iff.1 h).1]
theorem zLi {α : Type} {l : List α} {i : Nat} {x y : α} (h : l[i]? = some x) : (l.set i y).set i x = l:=by
 refine List.ext_getElem? fun j=>?_
 rw [List.set_set,List.getElem?_set]
 split
 ·rename_i e
  subst e;rw [if_pos (List.getElem?_eq_some_iff.1 h).1,h]
 ·rfl
theorem Fd.put {t z : Nd} {p : List Int} (h : Fd t p z) (r : Nd) : Fd (putL t p r) p r:=by
 induction h with
 | nil t=>rw [zDt]; exact .nil r
 | @step k tx c ks i k2 tx2 c2 ks2 s z r' p hi hs _ ih =>
  rw [zCk hi hs]
  exact .step (zQP hi) (zQP hs) ih
theorem Fd.put_put {t z : Nd} {p : List Int} (h : Fd t p z) (r q : Nd) : putL (putL t p r) p q = putL t p q:=by
 induction h with
 | nil t=>simp only [zDt]
 | @step k tx c ks i k2 tx2 c2 ks2 s z r' p hi hs _ ih =>
  rw [zCk hi hs,zCk hi hs,zCk (zQP hi) (zQP hs),ih]
  simp only [List.set_set]
theorem Fd.put_self {t z : Nd} {p : List Int} (h : Fd t p z) : putL t p z = t:=by
 induction h with
 | nil t=>rw [zDt]
 | @step k tx c ks i k2 tx2 c2 ks2 s z r' p hi hs _ ih =>
  rw [zCk hi hs,ih]
  have e1 : ks2.set s z = ks2:=by
   have:=zLi (y:=z) hs
   rwa [List.set_set] at this
  have e2 : ks.set i (.mk k2 tx2 c2 ks2) = ks:=by
   have:=zLi (y:=.mk k2 tx2 c2 ks2) hi
   rwa [List.set_set] at this
  rw [e1,e2]
theorem Fd.back {t z : Nd} {p : List Int} (h : Fd t p z) (r : Nd) : putL (putL t p r) p z = t:=by rw [h.put_put,h.put_self]
theorem zEg : ∀ {ks : List Nd} {v : Nd},v ∈ ks → v.dep ≤ Nd.deps ks
 | u :: ks,v,h=>by
  simp only [Nd.deps]
  rcases List.mem_cons.1 h with rfl | h
  ·exact Nat.le_max_left _ _
  ·exact Nat.le_trans (zEg h) (Nat.le_max_right _ _)
theorem zFI {k : Int} {tx : List UInt8} {c : Int} {ks : List Nd} (h : zCm (.mk k tx c ks) = true) : zBi k ks = true:=by
 simp only [zCm,Bool.and_eq_true] at h;exact h.2
theorem Fd.form {t z : Nd} {p : List Int} (h : Fd t p z) (hf : zCm t = true) (hk : t.kind = 1) : zCm z = true ∧ z.kind = 1:=by
 induction h with
 | nil t=>exact ⟨hf,hk⟩
 | @step k tx c ks i k2 tx2 c2 ks2 s z r' p hi hs _ ih =>
  obtain ⟨f1,f2⟩:=zC6 (zFI hf) (List.mem_of_getElem? hi)
  obtain ⟨g1,g2⟩:=zC6 (zFI f1) (List.mem_of_getElem? hs)
  have hk : k = 1:=hk;subst hk;have f3 : (k2 == 1) = false :=(by simpa [Nd.kind] using f2);rw [f3] at g2;refine ih g1 ?_;cases e : z.kind == 1 with
  | true=>exact eq_of_beq e
  | false=>rw [e] at g2; cases g2
theorem Fd.small {t z : Nd} {p : List Int} (h : Fd t p z) : z.cnt ≤ t.cnt ∧ z.dep ≤ t.dep ∧ z.w ≤ t.w:=by
 induction h with
 | nil t=>exact ⟨Nat.le_refl _,Nat.le_refl _,Nat.le_refl _⟩
 | @step k tx c ks i k2 tx2 c2 ks2 s z r' p hi hs _ ih =>
  have m1:=Nd.w_mem (List.mem_of_getElem? hi)
  have m2:=Nd.w_mem (List.mem_of_getElem? hs)
  have n1:=Nd.cnts_mem (List.mem_of_getElem? hi)
  have n2:=Nd.cnts_mem (List.mem_of_getElem? hs)
  have d1:=zEg (List.mem_of_getElem? hi)
  have d2:=zEg (List.mem_of_getElem? hs)
  simp only [Nd.w,Nd.cnt,Nd.dep] at *
  omega
theorem Fd.valid {t z : Nd} {p : List Int} (h : Fd t p z) (hv : zAL t = true) : zAL z = true:=by
 unfold zAL at hv ⊢;simp only [Bool.and_eq_true,decide_eq_true_eq] at hv ⊢;obtain ⟨h1,h2,h3,h4⟩:=hv;obtain ⟨f1,f2⟩:=h.form h2 (eq_of_beq h1)
 obtain ⟨s1,s2,_⟩:=h.small;exact ⟨by rw [f2]; rfl,f1,by omega,by omega⟩
end Go.Proofs.YtjdhkpdjecegnaaGreatDoor
namespace Go.Proofs.YtjdhkpdjecegnaaGreatDoor
open Go.Abs
theorem zTn {α : Type} {l : List α} {i : Nat} {x : α} (h : l[i]? = some x) : at? l (i : Int) = some x:=by
 have hl:=(List.getElem?_eq_some_iff.1 h).1;rw [zBx hl,← List.getElem?_eq_getElem hl,h]
def zR1 (t : Nd) (p : List Int) (r : Nd) : Nd × Int:=if zAL t = true then (match zCt t p with
 | some _=>if zAL r = true then (if zAL (putL t p r) = true then (putL t p r,0) else (zDu,6)) else (zDu,4)
 | none=>(zDu,8)) else (zDu,1)
theorem zQj (n : Nat) (t : Nd) (p : List Int) (r : Nd) (hv : zAZ n t = some (zAL t)) (hr : zAZ n r = some (zAL r)) (hp : ∀ z,Fd t p z → zAZ n (putL t p r) = some (zAL (putL t p r))) (hc : t.cnt ≤ 1000000000) (hcr : r.cnt ≤ 1000000000) :
  zEG n t p r = some (zR1 t p r):=by
 unfold zEG zR1;rw [hv,zGS hc,hr,zGS hcr]
 simp only [Option.bind_some]
 split
 ·cases hf : zCt t p with
  | none=>rfl
  | some z =>
   dsimp only;rw [hp z (zWO hf)]
   simp only [Option.bind_some]
   split
   ·split <;> rfl
   ·rfl
 ·rfl
theorem zVI {t z r : Nd} {p : List Int} (hv : zAL t = true) (h : zCt t p = some z) (hr : zAL r = true) (hp : zAL (putL t p r) = true) : zR1 t p r = (putL t p r,0):=by unfold zR1; rw [if_pos hv,h]; dsimp only; rw [if_pos hr,if_pos hp]
end Go.Proofs.YtjdhkpdjecegnaaGreatDoor
namespace Go.Proofs.YtjdhkpdjecegnaaGreatDoor
open Go.Abs
abbrev Op8:=Int × List Int × Int × Int × List Nd × Int × List UInt8 × List UInt8
def Op8.nodes (o : Op8) : List Nd:=o.2.2.2.2.1
end Go.Proofs.YtjdhkpdjecegnaaGreatDoor
namespace Go.Proofs.YtjdhkpdjecegnaaGreatDoor
open Go.Abs
theorem take3 {α : Type} (l : List α) {p q : Nat} (h : p ≤ q) : (l.take p ++ (l.take q).drop p) ++ l.drop q = l:=by
 have : l.take p = (l.take q).take p :=(by rw [List.take_take,Nat.min_eq_left h]);rw [this,List.take_append_drop,List.take_append_drop]
theorem zQ1 (l by' : List Nd) {p q : Nat} (h : p ≤ q) : Nd.ws ((l.take p ++ by') ++ l.drop q) + Nd.ws ((l.take q).drop p) = Nd.ws l + Nd.ws by':=by
 have:=congrArg Nd.ws (take3 l h)
 rw [Nd.ws_append,Nd.ws_append] at this ⊢
 omega
theorem zWK {α : Type} {l : List α} {i : Int} (h0 : 0 ≤ i) (h1 : i < (l.length : Int)) : ∃ p : Nat,i = (p : Int) ∧ ∃ h : p < l.length,at? l i = some l[p]:=by
 obtain ⟨p,rfl⟩:=Int.eq_ofNat_of_zero_le h0;exact ⟨p,rfl,by omega,zBx (by omega)⟩
theorem zIC (t : Nd) : t.w = t.text.length + Nd.ws t.kids + 1:=by cases t; rfl
end Go.Proofs.YtjdhkpdjecegnaaGreatDoor
namespace Go.Proofs.YtjdhkpdjecegnaaGreatDoor
open Go.Abs
theorem zW0 (l : List Nd) {p q : Nat} (h : p ≤ q) : Nd.ws ((l.take q).drop p) ≤ Nd.ws l:=by
 have:=zQ1 l [] h;simp only [Nd.ws] at this; omega
theorem zRV (l : List Nd) {p : Nat} (h : p < l.length) : (l.take (p + 1)).drop p = [l[p]]:=by
 rw [List.take_succ_eq_append_getElem h,List.drop_append_of_le_length (by simp; omega),List.drop_take]
 simp
end Go.Proofs.YtjdhkpdjecegnaaGreatDoor
namespace Go.Proofs.YtjdhkpdjecegnaaGreatDoor
open Go.Abs
def splS (l : List Nd) (p q : Nat) (b : List Nd) : List Nd:=(l.take p ++ b) ++ l.drop q
def segS (l : List Nd) (p q : Nat) : List Nd:=(l.take q).drop p
def rowN (l : List Nd) : Nd:=.mk 1 [] 0 l
def zIQ (v : Nd) (s : Nat) (l : List Nd) : Nd:=.mk v.kind v.text v.cols (v.kids.set s (rowN l))
def zRv (k : Int) : Bool:=(k == 2) || ((k == 3) || ((k == 4) || ((k == 10) || (k == 11))))
def zEq (k m : Int) (nodes : List Nd) : Int:=if k = 1 then 0 else if k = 2 then nodes.length else if k = 3 then m else 1
def zTj (nodes : List Nd) (slot : Int) : Prop:=∃ (v : Nd) (s : Nat) (z : Nd),nodes = [v] ∧ slot = (s : Int) ∧ zAL (rowN [v]) = true ∧ v.kids[s]? = some z ∧ z.kids = []
def FormP : Op8 → Prop
 | (k,_,_,m,nodes,slot,old,text) =>
  ((k = 1 ∨ k = 2) ∧ nodes ≠ [] ∧ zAL (rowN nodes) = true ∧ m = 0 ∧ slot = 0 ∧ old = [] ∧ text = []) ∨
  ((k = 3 ∨ k = 4) ∧ 0 ≤ m ∧ zTj nodes slot ∧ old = [] ∧ text = []) ∨
  (k = 5 ∧ old ≠ text ∧ nodes = [] ∧ m = 0 ∧ slot = 0)
inductive Chg (l : List Nd) : Op8 → List Nd → Int → Prop
 | range {k : Int} {row : List Int} {a m : Int} {nodes : List Nd} {slot : Int} {old text : List UInt8} (h : a < 0 ∨ (l.length : Int) < a ∨ (l.length : Int) - a < zEq k m nodes) : Chg l (k,row,a,m,nodes,slot,old,text) [] 2
 | ins {row : List Int} {p : Nat} {m : Int} {nodes : List Nd} {slot : Int} {old text : List UInt8} (h : p ≤ l.length) : Chg l (1,row,(p : Int),m,nodes,slot,old,text) (splS l p p nodes) 0
 | del {row : List Int} {p : Nat} {m : Int} {nodes : List Nd} {slot : Int} {old text : List UInt8} (h : p + nodes.length ≤ l.length) (he : segS l p (p + nodes.length) = nodes) : Chg l (2,row,(p : Int),m,nodes,slot,old,text) (splS l p (p + nodes.length) []) 0
 | del_no {row : List Int} {p : Nat} {m : Int} {nodes : List Nd} {slot : Int} {old text : List UInt8} (h : p + nodes.length ≤ l.length) (he : segS l p (p + nodes.length) ≠ nodes) : Chg l (2,row,(p : Int),m,nodes,slot,old,text) [] 7
 | wrap {row : List Int} {p m : Nat} {v : Nd} {s : Nat} {old text : List UInt8} (h : p + m ≤ l.length) : Chg l (3,row,(p : Int),(m : Int),[v],(s : Int),old,text) (splS l p (p + m) [zIQ v s (segS l p (p + m))]) 0
 | unwrap {row : List Int} {p : Nat} {m : Int} {v it z : Nd} {s : Nat} {old text : List UInt8} (h : l[p]? = some it) (hz : it.kids[s]? = some z) (hm : (z.kids.length : Int) = m) (he : it = zIQ v s z.kids) : Chg l (4,row,(p : Int),m,[v],(s : Int),old,text) (splS l p (p + 1) z.kids) 0
 | unwrap_no {row : List Int} {p : Nat} {m : Int} {v it : Nd} {s : Nat} {old text : List UInt8} (h : l[p]? = some it) (hz : ∀ z,it.kids[s]? = some z → (z.kids.length : Int) = m → it ≠ zIQ v s z.kids) : Chg l (4,row,(p : Int),m,[v],(s : Int),old,text) [] 7
 | set {row : List Int} {p : Nat} {m : Int} {nodes : List Nd} {it : Nd} {slot : Int} {old text : List UInt8} (h : l[p]? = some it) (hl : zRv it.kind = true) (he : it.text = old) : Chg l (5,row,(p : Int),m,nodes,slot,old,text) (splS l p (p + 1) [.mk it.kind text it.cols it.kids]) 0
 | set_no {row : List Int} {p : Nat} {m : Int} {nodes : List Nd} {it : Nd} {slot : Int} {old text : List UInt8} (h : l[p]? = some it) (hl : ¬ (zRv it.kind = true ∧ it.text = old)) : Chg l (5,row,(p : Int),m,nodes,slot,old,text) [] 7
inductive App (t : Nd) : Op8 → Nd → Int → Prop
 | arg {o : Op8} (h : zAL t = false) : App t o zDu 1
 | form {o : Op8} (h : zAL t = true) (hf : ¬ FormP o) : App t o zDu 4
 | none {o : Op8} (h : zAL t = true) (hf : FormP o) (hn : zCt t o.2.1 = Option.none) : App t o zDu 8
 | chg {o : Op8} {r : Nd} {l : List Nd} {e : Int} (h : zAL t = true) (hf : FormP o) (hr : Fd t o.2.1 r) (hc : Chg r.kids o l e) (he : e ≠ 0) : App t o zDu e
 | limit {o : Op8} {r : Nd} {l : List Nd} (h : zAL t = true) (hf : FormP o) (hr : Fd t o.2.1 r) (hc : Chg r.kids o l 0) (hv : zAL (putL t o.2.1 (rowN l)) = false) : App t o zDu 6
 | ok {o : Op8} {r : Nd} {l : List Nd} (h : zAL t = true) (hf : FormP o) (hr : Fd t o.2.1 r) (hc : Chg r.kids o l 0) (hv : zAL (putL t o.2.1 (rowN l)) = true) : App t o (putL t o.2.1 (rowN l)) 0
theorem Chg.w {l l' : List Nd} {k : Int} {row : List Int} {a m : Int} {nodes : List Nd} {slot : Int} {old text : List UInt8} {e : Int} (h : Chg l (k,row,a,m,nodes,slot,old,text) l' e) : Nd.ws l' ≤ Nd.ws l + Nd.ws nodes + text.length + 3 ∧ l'.length ≤ l.length + Nd.ws nodes + Nd.ws l + 1:=by
 have key : ∀ p q b,p ≤ q → Nd.ws (splS l p q b) + Nd.ws (segS l p q) = Nd.ws l + Nd.ws b:=fun p q b h=>zQ1 l b h
 have hlen : ∀ l' : List Nd,l'.length ≤ Nd.ws l':=Nd.ws_len
 have h1 : Nd.ws l' ≤ Nd.ws l + Nd.ws nodes + text.length + 3:=by
  cases h with
  | range=>simp only [Nd.ws]; omega
  | @ins _ p _ _ _ _ _ h=>have:=key p p nodes (Nat.le_refl _); omega
  | @del _ p _ _ _ _ _ h he=>have:=key p (p + nodes.length) [] (Nat.le_add_right _ _); simp only [Nd.ws] at this; omega
  | del_no=>simp only [Nd.ws]; omega
  | @wrap _ p m v s _ _ h =>
   have:=key p (p + m) [zIQ v s (segS l p (p + m))] (Nat.le_add_right _ _)
   have hf : (zIQ v s (segS l p (p + m))).w ≤ v.w + Nd.ws (segS l p (p + m)) + 1:=by
    rw [zIC v]
    simp only [zIQ,rowN,Nd.w]
    by_cases hs : s < v.kids.length
    ·have:=zMA (ks:=v.kids) (i:=s) (y:=.mk 1 [] 0 (segS l p (p + m))) (List.getElem?_eq_getElem hs)
     simp only [Nd.w,List.length_nil] at this
     omega
    ·rw [List.set_eq_of_length_le (by omega)]; omega
   simp only [Nd.ws] at this ⊢
   omega
  | @unwrap _ p _ v it z s _ _ h hz hm he =>
   have:=key p (p + 1) z.kids (Nat.le_add_right _ _)
   have hsg : segS l p (p + 1) = [it]:=by
    have:=zRV l (List.getElem?_eq_some_iff.1 h).1;rw [segS,this,(List.getElem?_eq_some_iff.1 h).2]
   have w1:=Nd.w_mem (List.mem_of_getElem? hz)
   have w2:=zIC z;have w3:=zIC it;rw [hsg] at this;simp only [Nd.ws] at this
   omega
  | unwrap_no=>simp only [Nd.ws]; omega
  | @set _ p _ _ it _ _ _ h hl he =>
   have:=key p (p + 1) [.mk it.kind text it.cols it.kids] (Nat.le_add_right _ _)
   have hsg : segS l p (p + 1) = [it]:=by
    have:=zRV l (List.getElem?_eq_some_iff.1 h).1;rw [segS,this,(List.getElem?_eq_some_iff.1 h).2]
   have w3:=zIC it;rw [hsg] at this;simp only [Nd.ws,Nd.w] at this
   omega
  | set_no=>simp only [Nd.ws]; omega
 refine ⟨h1,?_⟩
 cases h with
 | range=>simp
 | @ins _ p _ _ _ _ _ h=>have:=hlen nodes; simp only [splS,List.length_append,List.length_take,List.length_drop]; omega
 | @del _ p _ _ _ _ _ h he=>simp only [splS,List.length_append,List.length_take,List.length_drop,List.length_nil]; omega
 | del_no=>simp
 | @wrap _ p m v s _ _ h=>simp only [splS,List.length_append,List.length_take,List.length_drop,List.length_cons,List.length_nil]; omega
 | @unwrap _ p _ v it z s _ _ h hz hm he =>
  have w1:=Nd.w_mem (List.mem_of_getElem? hz)
  have w4:=Nd.w_mem (List.mem_of_getElem? h)
  have w2:=zIC z;have w3:=zIC it;have:=hlen z.kids;simp only [splS,List.length_append,List.length_take,List.length_drop]; omega
 | unwrap_no=>simp
 | @set _ p _ _ it _ _ _ h hl he=>simp only [splS,List.length_append,List.length_take,List.length_drop,List.length_cons,List.length_nil]; omega
 | set_no=>simp
theorem zU9 (k : Int) : (bif (k == 2) then some (k == 2) else bif (k == 3) then some (k == 3) else bif (k == 4) then some (k == 4) else bif (k == 10) then some (k == 10) else some (k == 11) : Option Bool) = some (zRv k):=by
 unfold zRv;cases e1 : k == 2 <;> cases e2 : k == 3 <;> cases e3 : k == 4 <;> cases e4 : k == 10 <;> rfl
theorem zVe (k m : Int) (nodes : List Nd) : (bif (k == 1) then some 0 else bif (k == 2) then some (nodes.length : Int) else bif (k == 3) then some m else some 1 : Option Int) = some (zEq k m nodes):=by
 unfold zEq
 by_cases k1 : k = 1
 ·subst k1; rfl
 by_cases k2 : k = 2
 ·subst k2; rfl
 by_cases k3 : k = 3
 ·subst k3; rfl
 rw [zCi k1,zCi k2,zCi k3,if_neg k1,if_neg k2,if_neg k3]; rfl
theorem zT5 {k : Int} {row : List Int} {a m : Int} {nodes : List Nd} {slot : Int} {old text : List UInt8} (hf : FormP (k,row,a,m,nodes,slot,old,text)) : 0 ≤ zEq k m nodes:=by
 unfold zEq;rcases hf with ⟨rfl | rfl,_⟩ | ⟨rfl | rfl,hm,_⟩ | ⟨rfl,_⟩ <;> simp <;> omega
end Go.Proofs.YtjdhkpdjecegnaaGreatDoor
namespace Go.Proofs.YtjdhkpdjecegnaaGreatDoor
open Go.Abs
theorem Chg.det {l l1 l2 : List Nd} {o : Op8} {e1 e2 : Int} (hf : FormP o) (h1 : Chg l o l1 e1) (h2 : Chg l o l2 e2) : l1 = l2 ∧ e1 = e2:=by
 obtain ⟨k,row,a,m,nodes,slot,old,text⟩:=o;have hnn:=zT5 hf;cases h1 with
 | range h =>
  cases h2 with
  | range=>exact ⟨rfl,rfl⟩
  | ins h'=>simp only [zEq,if_true] at h; omega
  | del h'=>simp only [zEq] at h; simp at h; omega
  | del_no h'=>simp only [zEq] at h; simp at h; omega
  | wrap h'=>simp only [zEq] at h; simp at h; omega
  | unwrap h'=>have:=(List.getElem?_eq_some_iff.1 h').1; simp only [zEq] at h; simp at h; omega
  | unwrap_no h'=>exact ⟨rfl,by have:=(List.getElem?_eq_some_iff.1 h').1; simp only [zEq] at h; simp at h; omega⟩
  | set h'=>have:=(List.getElem?_eq_some_iff.1 h').1; simp only [zEq] at h; simp at h; omega
  | set_no h'=>exact ⟨rfl,by have:=(List.getElem?_eq_some_iff.1 h').1; simp only [zEq] at h; simp at h; omega⟩
 | ins h' =>
  generalize ha : ((_ : Nat) : Int) = a' at h2;cases h2 with
  | range h=>simp only [zEq,if_true] at h; omega
  | ins h=>obtain rfl:=Int.ofNat.inj ha; exact ⟨rfl,rfl⟩
 | del h' he =>
  generalize ha : ((_ : Nat) : Int) = a' at h2;cases h2 with
  | range h=>simp only [zEq] at h; simp at h; omega
  | del h=>obtain rfl:=Int.ofNat.inj ha; exact ⟨rfl,rfl⟩
  | del_no h he'=>obtain rfl:=Int.ofNat.inj ha; exact absurd he he'
 | del_no h' he =>
  generalize ha : ((_ : Nat) : Int) = a' at h2;cases h2 with
  | range h=>simp only [zEq] at h; simp at h; omega
  | del h he'=>obtain rfl:=Int.ofNat.inj ha; exact absurd he' he
  | del_no h he'=>exact ⟨rfl,rfl⟩
 | wrap h' =>
  generalize ha : ((_ : Nat) : Int) = a' at h2;generalize hm : ((_ : Nat) : Int) = m' at h2;generalize hs : ((_ : Nat) : Int) = s' at h2;cases h2 with
  | range h=>simp only [zEq] at h; simp at h; omega
  | wrap h=>obtain rfl:=Int.ofNat.inj ha; obtain rfl:=Int.ofNat.inj hm; obtain rfl:=Int.ofNat.inj hs; exact ⟨rfl,rfl⟩
 | unwrap h' hz hm he =>
  generalize ha : ((_ : Nat) : Int) = a' at h2;generalize hs : ((_ : Nat) : Int) = s' at h2;cases h2 with
  | range h=>have:=(List.getElem?_eq_some_iff.1 h').1; simp only [zEq] at h; simp at h; omega
  | unwrap h hz2 =>
   obtain rfl:=Int.ofNat.inj ha; obtain rfl:=Int.ofNat.inj hs
   rw [h'] at h; cases h
   rw [hz] at hz2; cases hz2
   exact ⟨rfl,rfl⟩
  | unwrap_no h hz2 =>
   obtain rfl:=Int.ofNat.inj ha; obtain rfl:=Int.ofNat.inj hs
   rw [h'] at h; cases h
   exact absurd he (hz2 _ hz hm)
 | unwrap_no h' hz =>
  generalize ha : ((_ : Nat) : Int) = a' at h2;generalize hs : ((_ : Nat) : Int) = s' at h2;cases h2 with
  | range h=>exact ⟨rfl,by have:=(List.getElem?_eq_some_iff.1 h').1; simp only [zEq] at h; simp at h; omega⟩
  | unwrap h hz2 hm he =>
   obtain rfl:=Int.ofNat.inj ha; obtain rfl:=Int.ofNat.inj hs
   rw [h'] at h; cases h
   exact absurd he (hz _ hz2 hm)
  | unwrap_no h hz2=>exact ⟨rfl,rfl⟩
 | set h' hl he =>
  generalize ha : ((_ : Nat) : Int) = a' at h2;cases h2 with
  | range h=>have:=(List.getElem?_eq_some_iff.1 h').1; simp only [zEq] at h; simp at h; omega
  | set h=>obtain rfl:=Int.ofNat.inj ha; rw [h'] at h; cases h; exact ⟨rfl,rfl⟩
  | set_no h hl2=>obtain rfl:=Int.ofNat.inj ha; rw [h'] at h; cases h; exact absurd ⟨hl,he⟩ hl2
 | set_no h' hl =>
  generalize ha : ((_ : Nat) : Int) = a' at h2;cases h2 with
  | range h=>exact ⟨rfl,by have:=(List.getElem?_eq_some_iff.1 h').1; simp only [zEq] at h; simp at h; omega⟩
  | set h hl2 he=>obtain rfl:=Int.ofNat.inj ha; rw [h'] at h; cases h; exact absurd ⟨hl2,he⟩ hl
  | set_no h hl2=>exact ⟨rfl,rfl⟩
theorem Fd.det {t r1 r2 : Nd} {p : List Int} (h1 : Fd t p r1) (h2 : Fd t p r2) : r1 = r2:=Option.some.inj (h1.find.symm.trans h2.find)
theorem App.det {t t1 t2 : Nd} {o : Op8} {e1 e2 : Int} (h1 : App t o t1 e1) (h2 : App t o t2 e2) : t1 = t2 ∧ e1 = e2:=by
 have tf : ∀ {b : Bool},b = true → b = false → False:=fun h h'=>by rw [h] at h'; cases h'
 have fn : ∀ {r : Nd} {p : List Int},Fd t p r → zCt t p = Option.none → False:=fun h h'=>by rw [h.find] at h'; cases h'
 cases h1 with
 | arg h=>cases h2 with
  | arg h'=>exact ⟨rfl,rfl⟩
  | form h'=>exact (tf h' h).elim
  | none h'=>exact (tf h' h).elim
  | chg h'=>exact (tf h' h).elim
  | limit h'=>exact (tf h' h).elim
  | ok h'=>exact (tf h' h).elim
 | form h hf=>cases h2 with
  | arg h'=>exact (tf h h').elim
  | form h'=>exact ⟨rfl,rfl⟩
  | none h' hf'=>exact absurd hf' hf
  | chg h' hf'=>exact absurd hf' hf
  | limit h' hf'=>exact absurd hf' hf
  | ok h' hf'=>exact absurd hf' hf
 | none h hf hn=>cases h2 with
  | arg h'=>exact (tf h h').elim
  | form h' hf'=>exact absurd hf hf'
  | none=>exact ⟨rfl,rfl⟩
  | chg h' hf' hr=>exact (fn hr hn).elim
  | limit h' hf' hr=>exact (fn hr hn).elim
  | ok h' hf' hr=>exact (fn hr hn).elim
 | chg h hf hr hc he=>cases h2 with
  | arg h'=>exact (tf h h').elim
  | form h' hf'=>exact absurd hf hf'
  | none h' hf' hn=>exact (fn hr hn).elim
  | chg h' hf' hr' hc' he'=>obtain rfl:=hr.det hr'; exact ⟨rfl,(hc.det hf hc').2⟩
  | limit h' hf' hr' hc'=>obtain rfl:=hr.det hr'; exact absurd (hc.det hf hc').2 he
  | ok h' hf' hr' hc'=>obtain rfl:=hr.det hr'; exact absurd (hc.det hf hc').2 he
 | limit h hf hr hc hv=>cases h2 with
  | arg h'=>exact (tf h h').elim
  | form h' hf'=>exact absurd hf hf'
  | none h' hf' hn=>exact (fn hr hn).elim
  | chg h' hf' hr' hc' he'=>obtain rfl:=hr.det hr'; exact absurd (hc'.det hf hc).2 he'
  | limit h' hf' hr' hc'=>exact ⟨rfl,rfl⟩
  | ok h' hf' hr' hc' hv'=>obtain rfl:=hr.det hr'; obtain rfl:=(hc.det hf hc').1; exact (tf hv' hv).elim
 | ok h hf hr hc hv=>cases h2 with
  | arg h'=>exact (tf h h').elim
  | form h' hf'=>exact absurd hf hf'
  | none h' hf' hn=>exact (fn hr hn).elim
  | chg h' hf' hr' hc' he'=>obtain rfl:=hr.det hr'; exact absurd (hc'.det hf hc).2 he'
  | limit h' hf' hr' hc' hv'=>obtain rfl:=hr.det hr'; obtain rfl:=(hc.det hf hc').1; exact (tf hv hv').elim
  | ok h' hf' hr' hc' hv'=>obtain rfl:=hr.det hr'; obtain rfl:=(hc.det hf hc').1; exact ⟨rfl,rfl⟩
def lens : List (List Nd) → Nat
 | []=>0
 | a :: L=>a.length + lens L
theorem zQd {L : List (List Nd)} {i : Nat} (h : i < L.length) : lens (L.drop i) = (L[i]).length + lens (L.drop (i + 1)):=by
 rw [List.drop_eq_getElem_cons h]; rfl
theorem zTy {L : List (List Nd)} (hl : L.length ≤ 1073741824) : ∀ (k i s : Nat),L.length - i < k → i ≤ L.length → s + lens (L.drop i) ≤ 1073741824 → zA4 L k (i : Int) (s : Int) = some ((s + lens (L.drop i) : Nat) : Int)
 | 0,i,s,h,_,_=>by omega
 | k + 1,i,s,hk,hi,hs=>by
  unfold zA4
  by_cases h : i < L.length
  ·have hd:=zQd h;rw [zBg (Int.ofNat_lt.2 h),cond_true,zBx h]
   simp only [Option.bind_some]
   rw [wrap64_in (n:=(s : Int) + ((L[i]).length : Int)) (by omega) (by omega),zBf (by omega),cond_false,zAX (by omega),← Int.natCast_add,zTy hl k (i + 1) _ (by omega) (by omega) (by omega),hd]
   congr 2; omega
  ·rw [zBf (by omega),cond_false]
   have : L.drop i = []:=List.drop_eq_nil_iff.2 (by omega)
   rw [this]; rfl
theorem zTz {L : List (List Nd)} (hl : L.length ≤ 1073741824) : ∀ (k i : Nat) (s : List Nd),L.length - i < k → i ≤ L.length → s.length + lens (L.drop i) ≤ 1073741824 → zA5 L k (i : Int) s = some (s ++ (L.drop i).flatten)
 | 0,i,s,h,_,_=>by omega
 | k + 1,i,s,hk,hi,hs=>by
  unfold zA5
  by_cases h : i < L.length
  ·have hd:=zQd h;rw [zBg (Int.ofNat_lt.2 h),cond_true,zBx h]
   simp only [Option.bind_some]
   rw [zCg (by omega),zAX (by omega),zTz hl k (i + 1) _ (by omega) (by omega) (by rw [List.length_append]; omega),List.drop_eq_getElem_cons h,List.flatten_cons,List.append_assoc]
  ·rw [zBf (by omega),cond_false]
   have : L.drop i = []:=List.drop_eq_nil_iff.2 (by omega)
   rw [this]; simp
theorem zTC (n : Nat) (L : List (List Nd)) (hn : L.length < n) (hl : L.length ≤ 1073741824) (hs : lens L ≤ 1073741824) : zBO n L = some L.flatten:=by
 have e1:=zTy hl n 0 0 (by omega) (by omega) (by simpa using hs)
 have e2:=zTz hl n 0 [] (by omega) (by omega) (by simpa using hs)
 rw [show ((0 : Nat) : Int) = 0 from rfl] at e1 e2;unfold zBO zDX;simp only [e1,Option.bind_some,List.drop_zero,Nat.zero_add]
 simp only [List.drop_zero,List.nil_append] at e2;rw [zCg ⟨by omega,by omega⟩]
 simp only [Option.bind_some,e2]
theorem zWh (n : Nat) (k : Int) (row : List Int) (p y : Nat) (m : Int) (nodes : List Nd) (slot : Int) (old text : List UInt8) (l b : List Nd) (hn : 10 < n) (hp : p + y ≤ l.length) (hl : l.length ≤ 500000000) (hb : b.length ≤ 500000000) :
  zA8 n ((k,row,(p : Int),m,nodes,slot,old,text),l) (y : Int) b = some (splS l p (p + y) b):=by
 unfold zA8;dsimp only;rw [zCg ⟨by omega,by omega,by omega⟩,wrap64_in (n:=(p : Int) + (y : Int)) (by omega) (by omega),← Int.natCast_add,zCg ⟨by omega,by omega,by omega⟩]
 have e1 : (l.take (p : Int).toNat).drop (0 : Int).toNat = l.take p :=(by simp);have e2 : (l.take (l.length : Int).toNat).drop ((p + y : Nat) : Int).toNat = l.drop (p + y) :=(by rw [Int.toNat_natCast,Int.toNat_natCast,List.take_length]);rw [e1,e2,zTC n _ (by simp; omega) (by simp) (by simp only [lens,List.length_take,List.length_drop]; omega)]
 simp only [Option.bind_some,splS,List.flatten_cons,List.flatten_nil,List.append_nil,List.append_assoc]
theorem zLk {l : List Nd} {it z : Nd} {s : Nat} (hl : zBi 1 l = true) (hit : it ∈ l) (hz : it.kids[s]? = some z) : it.kind ≠ 1 ∧ z = rowN z.kids:=by
 obtain ⟨f1,f2⟩:=zC6 hl hit;have hk : (it.kind == 1) = false :=(by simpa using f2);obtain ⟨i1,i2,i3,i4⟩:=it;simp only [Nd.kind] at hk;simp only [Nd.kids] at hz;obtain ⟨g1,g2⟩:=zC6 (zFI f1) (List.mem_of_getElem? hz)
 rw [hk] at g2;have hz1 : z.kind = 1:=by
  cases e : z.kind == 1 with
  | true=>exact eq_of_beq e
  | false=>rw [e] at g2; cases g2
 exact ⟨beq_eq_false_iff_ne.1 hk,(zGW g1 hz1).1⟩
theorem zP2 {l : List Nd} {it : Nd} (hl : zBi 1 l = true) (hit : it ∈ l) : it.kind ≠ 1:=by
 obtain ⟨_,f2⟩:=zC6 hl hit;exact beq_eq_false_iff_ne.1 (by simpa using f2)
theorem zI8 {l : List Nd} (h : zAL (rowN l) = true) : zBi 1 l = true:=by
 have:=(zFS h).2;exact this
theorem zR2 (v : Nd) (h : v.kind ≠ 1) : zDp v = some (v.kids.length : Int):=by
 obtain ⟨a,b,c,d⟩:=v;unfold zDp;simp only [Nd.kind] at h;simp only [zCi h,cond_false,Nd.kids]
theorem zF6 (n : Nat) (nodes : List Nd) (h : Nd.ws nodes + 50 < n) (hb : Nd.ws nodes ≤ 67000000) : zB5 n nodes = some (zAL (rowN nodes)):=by
 unfold zB5;dsimp only;rw [zCq n _ (by simp only [Nd.w,List.length_nil]; omega) (by simp only [Nd.w,List.length_nil]; omega)]; rfl
theorem zPC (n : Nat) (l : List Nd) (slot : Int) (h : Nd.ws l + 50 < n) (hb : Nd.ws l ≤ 67000000) : ∃ b,zC7 n l slot = some b ∧ (b = true ↔ zTj l slot):=by
 unfold zC7;dsimp only;cases e1 : ((l.length : Int) != 1) with
 | true=>exact ⟨false,rfl,(fun h=>by cases h),fun ⟨v,s,z,h,_⟩=>by rw [h] at e1; cases e1⟩
 | false =>
  have hl : l.length = 1:=by
   by_cases h : (l.length : Int) = 1
   ·omega
   ·rw [bne_iff_ne.2 h] at e1; cases e1
  obtain ⟨v,rfl⟩:=List.length_eq_one_iff.1 hl;have hv:=zF6 n [v] h hb;have h0 : at? [v] (0 : Int) = some v:=rfl;simp only [cond_false,hv,Option.bind_some]
  cases hvb : zAL (rowN [v]) with
  | false=>exact ⟨false,rfl,(fun h=>by cases h),fun ⟨v',s,z,h,_,h2,_⟩=>by cases h; rw [hvb] at h2; cases h2⟩
  | true =>
   have hsl:=zR2 v (zP2 (zI8 hvb) List.mem_cons_self)
   obtain ⟨a,b,c,d⟩:=v;simp only [Nd.kids] at hsl;simp only [Bool.not_true,cond_false]
   by_cases h1 : slot < 0
   ·rw [zBg h1]
    exact ⟨false,rfl,(fun h=>by cases h),fun ⟨v,s,z,h,hs,_⟩=>by omega⟩
   ·rw [zBf h1]
    simp only [cond_false,h0,Option.bind_some,hsl]
    by_cases h2 : (d.length : Int) ≤ slot
    ·rw [zBg h2]
     refine ⟨false,rfl,(fun h=>by cases h),fun ⟨v,s,z,h,hs,_,hz,_⟩=>?_⟩
     cases h;have:=(List.getElem?_eq_some_iff.1 hz).1;simp only [Nd.kids] at this
     omega
    ·rw [zBf h2]
     obtain ⟨p,rfl,hp,hg⟩:=zWK (l:=d) (i:=slot) (by omega) (by omega)
     have hz : d[p]? = some d[p]:=List.getElem?_eq_getElem hp;rw [hg]
     generalize d[p] = z at hz;obtain ⟨x1,x2,x3,x4⟩:=z;simp only [cond_false,Option.bind_some]
     refine ⟨_,rfl,fun h=>⟨_,p,_,rfl,rfl,hvb,hz,?_⟩,fun ⟨v,s,z,h,hs,_,hz',hk⟩=>?_⟩
     ·have:=eq_of_beq h;exact List.eq_nil_of_length_eq_zero (by simp only [Nd.kids]; omega)
     ·cases h;obtain rfl : p = s :=(by omega);simp only [Nd.kids] at hz';rw [hz] at hz';cases hz';simp only [Nd.kids] at hk;subst hk
      rfl
theorem zML (n : Nat) (k : Int) (row : List Int) (a m : Int) (nodes : List Nd) (slot : Int) (old text : List UInt8) (h : Nd.ws nodes + 50 < n) (hb : Nd.ws nodes ≤ 67000000) :
  ∃ b,zEk n (k,row,a,m,nodes,slot,old,text) = some b ∧ (b = true ↔ FormP (k,row,a,m,nodes,slot,old,text)):=by
 have hv:=zF6 n nodes h hb;obtain ⟨tb,t1,t2⟩:=zPC n nodes slot h hb;have hlen : decide (0 < (nodes.length : Int)) = true ↔ nodes ≠ [] :=(by cases nodes <;> simp);have hlen0 : ((nodes.length : Int) == 0) = true ↔ nodes = [] :=(by cases nodes <;> simp <;> omega);have htx : (bif (!(old == [])) then some true else some (!(text == [])) : Option Bool) = some (!((old == []) && (text == []))) :=(by cases old == [] <;> cases text == [] <;> rfl);unfold zEk;simp only [hv,t1,htx,Option.bind_some,FormP]
 by_cases k12 : k = 1 ∨ k = 2
 ·have e : (bif (k == 1) then some (k == 1) else some (k == 2) : Option Bool) = some true:=by rcases k12 with rfl | rfl <;> rfl
  have hk : ¬ (k = 3 ∨ k = 4) ∧ ¬ k = 5 :=(by omega);rw [e]
  simp only [Option.bind_some,cond_true,k12,hk.1,hk.2,true_and,false_and,or_false]
  rw [← hlen]
  generalize decide (0 < (nodes.length : Int)) = b1;generalize zAL (rowN nodes) = b2;cases e1 : m == 0 <;> simp only [cond_true,cond_false,Option.bind_some]
  ·exact ⟨false,rfl,by simp [beq_eq_false_iff_ne.1 e1]⟩
  cases e2 : slot == 0 <;> simp only [cond_true,cond_false,Option.bind_some]
  ·exact ⟨false,rfl,by simp [beq_eq_false_iff_ne.1 e2]⟩
  cases e3 : old == [] <;> simp only [Bool.false_and,Bool.true_and,Bool.not_false,Bool.not_not,cond_true,cond_false,Option.bind_some]
  ·exact ⟨false,rfl,by simp [beq_eq_false_iff_ne.1 e3]⟩
  cases e4 : text == [] <;> simp only [Bool.not_true,Bool.not_false,cond_true,cond_false,Option.bind_some]
  ·exact ⟨false,rfl,by simp [beq_eq_false_iff_ne.1 e4]⟩
  rw [eq_of_beq e1,eq_of_beq e2,eq_of_beq e3,eq_of_beq e4]
  cases b1 <;> cases b2 <;> exact ⟨_,rfl,by simp⟩
 ·have e : (bif (k == 1) then some (k == 1) else some (k == 2) : Option Bool) = some false:=by
   rw [zCi (fun h=>k12 (.inl h)),zCi (fun h=>k12 (.inr h))]; rfl
  rw [e]
  simp only [Option.bind_some,cond_false,k12,false_and,false_or]
  by_cases k34 : k = 3 ∨ k = 4
  ·have e : (bif (k == 3) then some (k == 3) else some (k == 4) : Option Bool) = some true:=by rcases k34 with rfl | rfl <;> rfl
   have hk : ¬ k = 5 :=(by omega);rw [e]
   simp only [Option.bind_some,cond_true,k34,hk,true_and,false_and,or_false]
   rw [← t2]
   by_cases hm : 0 ≤ m
   ·rw [zBg hm]
    simp only [cond_true]
    cases e3 : old == [] <;> simp only [Bool.false_and,Bool.true_and,Bool.not_false,Bool.not_not,cond_true,cond_false,Option.bind_some]
    ·exact ⟨false,rfl,by simp [beq_eq_false_iff_ne.1 e3]⟩
    cases e4 : text == [] <;> simp only [Bool.not_true,Bool.not_false,cond_true,cond_false,Option.bind_some]
    ·exact ⟨false,rfl,by simp [beq_eq_false_iff_ne.1 e4]⟩
    rw [eq_of_beq e3,eq_of_beq e4]
    exact ⟨_,rfl,by simp [hm]⟩
   ·rw [zBf hm]
    exact ⟨false,rfl,by simp [hm]⟩
  ·have e : (bif (k == 3) then some (k == 3) else some (k == 4) : Option Bool) = some false:=by
    rw [zCi (fun h=>k34 (.inl h)),zCi (fun h=>k34 (.inr h))]; rfl
   rw [e]
   simp only [Option.bind_some,cond_false,k34,false_and,false_or]
   by_cases k5 : k = 5
   ·subst k5;simp only [beq_self_eq_true,cond_true,Option.bind_some,true_and]
    rw [← hlen0]
    generalize ((nodes.length : Int) == 0) = b1;cases e1 : m == 0 <;> simp only [cond_true,cond_false,Option.bind_some]
    ·exact ⟨false,rfl,by simp [beq_eq_false_iff_ne.1 e1]⟩
    cases e2 : slot == 0 <;> simp only [cond_true,cond_false,Option.bind_some]
    ·exact ⟨false,rfl,by simp [beq_eq_false_iff_ne.1 e2]⟩
    rw [eq_of_beq e1,eq_of_beq e2]
    cases b1 <;> simp only [cond_true,cond_false,Option.bind_some]
    ·exact ⟨false,rfl,by simp⟩
    cases e0 : old == text <;> simp only [Bool.not_true,Bool.not_false]
    ·exact ⟨true,rfl,by simp [beq_eq_false_iff_ne.1 e0]⟩
    ·exact ⟨false,rfl,by simp [eq_of_beq e0]⟩
   ·rw [zCi k5]
    exact ⟨false,rfl,by simp [k5]⟩
end Go.Proofs.YtjdhkpdjecegnaaGreatDoor
namespace Go.Proofs.YtjdhkpdjecegnaaGreatDoor
open Go.Abs
theorem zTN (k : Int) (row : List Int) (a m : Int) (nodes : List Nd) (slot : Int) (old text : List UInt8) (l : List Nd) (hl : l.length ≤ 1073741824) :
  zBW ((k,row,a,m,nodes,slot,old,text),l) = some (if a < 0 ∨ (l.length : Int) < a ∨ (l.length : Int) - a < zEq k m nodes then 2 else 0):=by
 unfold zBW;dsimp only;rw [zVe]
 simp only [Option.bind_some]
 by_cases h1 : a < 0
 ·rw [zBg h1,if_pos (.inl h1)]; rfl
 rw [zBf h1]
 by_cases h2 : (l.length : Int) < a
 ·rw [zBg h2,if_pos (.inr (.inl h2))]; rfl
 rw [zBf h2,wrap64_in (n:=(l.length : Int) - a) (by omega) (by omega)]
 by_cases h3 : (l.length : Int) - a < zEq k m nodes
 ·rw [zBg h3,if_pos (.inr (.inr h3))]; rfl
 rw [zBf h3,if_neg (fun h=>h.elim h1 fun h=>h.elim h2 h3)]; rfl
theorem zU3 {v it z : Nd} {s : Nat} {y : Nd} (hv : v.kids[s]? = some y) (hy : y = rowN []) (hz : it.kids[s]? = some z) (hzr : z = rowN z.kids) : Nd.mk it.kind it.text it.cols (it.kids.set s (rowN [])) = v ↔ it = zIQ v s z.kids:=by
 obtain ⟨v1,v2,v3,v4⟩:=v;obtain ⟨i1,i2,i3,i4⟩:=it;obtain ⟨z1,z2,z3,z4⟩:=z;obtain ⟨rfl,rfl,rfl,-⟩:=Nd.mk.inj hzr
 clear hzr
 simp only [Nd.kids] at hv hz;simp only [zIQ,Nd.kind,Nd.text,Nd.cols,Nd.kids]
 subst hy
 constructor
 ·intro h;obtain ⟨rfl,rfl,rfl,rfl⟩:=Nd.mk.inj h;rw [List.set_set]
  congr 1
  have:=zLi (y:=.mk 1 [] 0 z4) hz;rw [List.set_set] at this;exact this.symm
 ·intro h;obtain ⟨rfl,rfl,rfl,rfl⟩:=Nd.mk.inj h;rw [List.set_set]
  congr 1
  have:=zLi (y:=rowN []) hv;rw [List.set_set] at this;exact this
theorem zLO (n : Nat) (l : List Nd) (k : Int) (row : List Int) (a m : Int) (nodes : List Nd) (slot : Int) (old text : List UInt8) (hf : FormP (k,row,a,m,nodes,slot,old,text)) (hv : zBi 1 l = true) (hn : 2 * Nd.ws l + 2 * Nd.ws nodes + 50 < n) (ha : Nd.ws l ≤ 60000000) (hb : Nd.ws nodes ≤ 2000000) :
  ∃ l' e,zCc n ((k,row,a,m,nodes,slot,old,text),l) = some (l',e) ∧ Chg l (k,row,a,m,nodes,slot,old,text) l' e:=by
 have la:=Nd.ws_len l;have lb:=Nd.ws_len nodes;have cl:=Nd.cnts_ws l;have cb:=Nd.cnts_ws nodes;have hnn:=zT5 hf;unfold zCc;simp only [zTN _ _ _ _ _ _ _ _ l (show l.length ≤ 1073741824 by omega),Option.bind_some]
 by_cases hr : a < 0 ∨ (l.length : Int) < a ∨ (l.length : Int) - a < zEq k m nodes
 ·rw [if_pos hr]; exact ⟨[],2,rfl,.range hr⟩
 rw [if_neg hr]
 simp only [show ((0 : Int) != 0) = false from rfl,cond_false]
 have h1 : ¬ a < 0:=fun h=>hr (.inl h)
 have h2 : ¬ (l.length : Int) < a:=fun h=>hr (.inr (.inl h))
 have h3 : ¬ (l.length : Int) - a < zEq k m nodes:=fun h=>hr (.inr (.inr h))
 obtain ⟨p,rfl⟩:=Int.eq_ofNat_of_zero_le (show 0 ≤ a by omega)
 obtain ⟨y,hy⟩:=Int.eq_ofNat_of_zero_le hnn;rw [hy] at h3;have hseg:=zW0 l (Nat.le_add_right p y)
 have lseg:=Nd.ws_len ((l.take (p + y)).drop p)
 have cseg:=Nd.cnts_ws ((l.take (p + y)).drop p)
 have hj : ∀ by' : List Nd,by'.length ≤ 500000000 → zA8 n ((k,row,(p : Int),m,nodes,slot,old,text),l) (y : Int) by' = some (splS l p (p + y) by'):=fun by' hby=>zWh n k row p y m nodes slot old text l by' (by omega) (by omega) (by omega) hby
 rcases hf with ⟨rfl | rfl,h0⟩ | ⟨rfl | rfl,hm,⟨v,s,z,rfl,rfl,hvv,hz,hzk⟩,_⟩ | ⟨rfl,h0⟩
 ·obtain rfl : y = 0 :=(by have : zEq 1 m nodes = 0:=rfl; omega);rw [show ((0 : Nat) : Int) = 0 from rfl] at hj;simp only [beq_self_eq_true,cond_true,zCC,hj nodes (by omega),Option.bind_some]
  exact ⟨_,0,rfl,.ins (by omega)⟩
 ·obtain rfl : y = nodes.length :=(by have : zEq 2 m nodes = (nodes.length : Int):=rfl; omega);obtain ⟨r,g1,g2⟩:=(zG2 n).2 ((l.take (p + nodes.length)).drop p) nodes (by omega) (by omega)
  simp only [show ((2 : Int) == 1) = false from rfl,cond_false,beq_self_eq_true,cond_true,zCD]
  rw [wrap64_in (n:=(p : Int) + (nodes.length : Int)) (by omega) (by omega),← Int.natCast_add,zCg ⟨by omega,by omega,by omega⟩,Int.toNat_natCast,Int.toNat_natCast,g1]
  simp only [Option.bind_some]
  cases r with
  | false=>exact ⟨[],7,rfl,.del_no (by omega) fun e=>by have:=g2.2 e; cases this⟩
  | true =>
   simp only [Bool.not_true,cond_false,hj [] (by simp),Option.bind_some]
   exact ⟨_,0,rfl,.del (by omega) (g2.1 rfl)⟩
 ·obtain rfl : m = (y : Int):=hy;obtain ⟨hvk,hzr⟩:=zLk (zI8 hvv) List.mem_cons_self hz;rw [hzk] at hzr;have hv0 : at? [v] (0 : Int) = some v:=rfl;have hcv:=Nd.cnts_mem (List.mem_cons_self (a:=v) (l:=[]))
  have hd : zCF v = some v:=zCg ⟨by omega,fun e=>by rw [e] at hz; simp at hz⟩
  have hza:=zTn hz;have hcl : zDM ((l.take (p + y)).drop p) = some ((l.take (p + y)).drop p):=zCg (by omega)
  have hj':=hj [zIQ v s ((l.take (p + y)).drop p)] (by simp)
  have hfx : zIQ v s ((l.take (p + y)).drop p) = Nd.mk v.kind v.text v.cols (v.kids.set s (rowN ((l.take (p + y)).drop p))):=rfl;rw [hfx] at hj';have hC:=Chg.wrap (l:=l) (row:=row) (p:=p) (m:=y) (v:=v) (s:=s) (old:=old) (text:=text) (by omega)
  have hfx2 : zIQ v s (segS l p (p + y)) = Nd.mk v.kind v.text v.cols (v.kids.set s (rowN ((l.take (p + y)).drop p))):=rfl;rw [hfx2] at hC;subst hzr;obtain ⟨v1,v2,v3,v4⟩:=v;simp only [Nd.kind,Nd.text,Nd.cols,Nd.kids] at hza hj' hC;unfold rowN at hza;simp only [show ((3 : Int) == 1) = false from rfl,show ((3 : Int) == 2) = false from rfl,cond_false,beq_self_eq_true,cond_true,zDh,hv0,hd,Option.bind_some]
  rw [wrap64_in (n:=(p : Int) + (y : Int)) (by omega) (by omega),← Int.natCast_add,zCg ⟨by omega,by omega,by omega⟩,Int.toNat_natCast,Int.toNat_natCast,hcl]
  simp only [Option.bind_some,hza,Int.toNat_natCast]
  unfold rowN at hj' hC;rw [hj']
  exact ⟨_,0,rfl,hC⟩
 ·obtain rfl : y = 1 :=(by have : zEq 4 m [v] = 1:=rfl; omega);obtain ⟨hvk,hzr⟩:=zLk (zI8 hvv) List.mem_cons_self hz;rw [hzk] at hzr;have hv0 : at? [v] (0 : Int) = some v:=rfl;have hpl : p < l.length :=(by omega);have hit : l[p]? = some l[p]:=List.getElem?_eq_getElem hpl;have hia : at? l (p : Int) = some l[p]:=zBx hpl;have hmem:=List.getElem_mem hpl;generalize l[p] = it at hit hia hmem;have hiw:=Nd.w_mem hmem;have hic:=Nd.cnt_w it;have hik:=zP2 hv hmem;have hslots:=zR2 it hik;have hdn : zBc it = some it:=zGS (by omega)
  have hwi:=zIC it;have hlk4:=Nd.ws_len it.kids;simp only [show ((4 : Int) == 1) = false from rfl,show ((4 : Int) == 2) = false from rfl,show ((4 : Int) == 3) = false from rfl,cond_false,beq_self_eq_true,cond_true]
  have hnone : zBu ((4,row,(p : Int),m,[v],(s : Int),old,text),l) = if (it.kids.length : Int) ≤ (s : Int) then some ([],7) else none:=by
   unfold zBu;simp only [hia]
   by_cases h : (it.kids.length : Int) ≤ (s : Int)
   ·rw [if_pos h]
    obtain ⟨i1,i2,i3,i4⟩:=it;simp only [Nd.kids] at h hslots;simp only [Option.bind_some,hdn,hslots,zBg h]; rfl
   ·rw [if_neg h]
    obtain ⟨i1,i2,i3,i4⟩:=it;simp only [Nd.kids] at h hslots;simp only [Option.bind_some,hdn,hslots,zBf h]; rfl
  by_cases hsl : (it.kids.length : Int) ≤ (s : Int)
  ·have : zBm n ((4,row,(p : Int),m,[v],(s : Int),old,text),l) = some ([],7):=by
    unfold zBm;rw [hnone,if_pos hsl]
   rw [this]
   refine ⟨[],7,rfl,.unwrap_no hit fun z' hz'=>?_⟩
   have:=(List.getElem?_eq_some_iff.1 hz').1
   omega
  have hsi : s < it.kids.length :=(by omega);have hzi : it.kids[s]? = some it.kids[s]:=List.getElem?_eq_getElem hsi;generalize it.kids[s] = z' at hzi;obtain ⟨_,hzr'⟩:=zLk hv hmem hzi;have hzw:=Nd.w_mem (List.mem_of_getElem? hzi)
  have hzw2:=zIC z';have hzl:=Nd.ws_len z'.kids;have hfi:=zU3 hz hzr hzi hzr';have hws:=zMA (y:=rowN []) hzi;have hj':=hj z'.kids (by omega)
  rw [show ((1 : Nat) : Int) = 1 from rfl] at hj';have hcs : (Nd.mk it.kind it.text it.cols (it.kids.set s (rowN []))).cnt ≤ it.w + 1:=by
   have h1:=Nd.cnt_w (Nd.mk it.kind it.text it.cols (it.kids.set s (rowN [])))
   have e : (rowN []).w = 1:=rfl;simp only [Nd.w] at h1
   omega
  obtain ⟨rb,g1,g2⟩:=(zG2 n).1 (Nd.mk it.kind it.text it.cols (it.kids.set s (rowN []))) v (by omega) (by omega)
  have hdo : zCF it = some it:=zCg ⟨by omega,fun e=>by rw [e] at hzi; simp at hzi⟩
  have hza:=zTn hzi;have hkids : ∃ l' e,zBt n ((4,row,(p : Int),m,[v],(s : Int),old,text),l) = some (l',e) ∧ Chg l (4,row,(p : Int),m,[v],(s : Int),old,text) l' e:=by
   unfold zBt;obtain ⟨i1,i2,i3,i4⟩:=it;obtain ⟨v1,v2,v3,v4⟩:=v;obtain ⟨z1,z2,z3,z4⟩:=z';obtain ⟨rfl,rfl,rfl,-⟩:=Nd.mk.inj hzr';simp only [Nd.kind,Nd.text,Nd.cols,Nd.kids] at hza g1 hslots hj' hsl;simp only [hia,Option.bind_some,hdo,hslots,zBf hsl,cond_false,hza,hv0,Int.toNat_natCast]
   by_cases hmz : (z4.length : Int) = m
   ·have : ((z4.length : Int) != m) = false :=(by unfold bne; rw [beq_iff_eq.2 hmz]; rfl);unfold rowN at g1;rw [this]
    simp only [cond_false,g1,Option.bind_some]
    cases rb with
    | false =>
     refine ⟨[],7,rfl,.unwrap_no hit fun z'' hz'' hm'' he=>?_⟩
     rw [hzi] at hz'';cases hz'';have:=g2.2 (hfi.2 he)
     cases this
    | true =>
     simp only [Bool.not_true,cond_false,hj',Option.bind_some]
     exact ⟨_,0,rfl,.unwrap (z:=.mk 1 [] 0 z4) hit hzi hmz (hfi.1 (g2.1 rfl))⟩
   ·have : ((z4.length : Int) != m) = true:=bne_iff_ne.2 hmz;rw [this]
    refine ⟨[],7,rfl,.unwrap_no hit fun z'' hz'' hm'' he=>?_⟩
    rw [hzi] at hz'';cases hz'';exact hmz hm''
  obtain ⟨l',e,h4,h5⟩:=hkids;have : zBm n ((4,row,(p : Int),m,[v],(s : Int),old,text),l) = some (l',e):=by
   unfold zBm;rw [hnone,if_neg hsl]
   exact h4
  rw [this]
  exact ⟨l',e,rfl,h5⟩
 ·obtain rfl : y = 1 :=(by have : zEq 5 m nodes = 1:=rfl; omega);have hpl : p < l.length :=(by omega);have hit : l[p]? = some l[p]:=List.getElem?_eq_getElem hpl;have hia : at? l (p : Int) = some l[p]:=zBx hpl;generalize l[p] = it at hit hia;obtain ⟨i1,i2,i3,i4⟩:=it;rw [show ((1 : Nat) : Int) = 1 from rfl] at hj;simp only [show ((5 : Int) == 1) = false from rfl,show ((5 : Int) == 2) = false from rfl,show ((5 : Int) == 3) = false from rfl,show ((5 : Int) == 4) = false from rfl,cond_false,zDy,hia,Option.bind_some,zU9]
  cases hlf : zRv i1 with
  | false=>exact ⟨[],7,rfl,.set_no hit fun h=>by have:=h.1; simp only [Nd.kind] at this; rw [hlf] at this; cases this⟩
  | true =>
   simp only [cond_true,Option.bind_some]
   cases ht : i2 == old with
   | false=>exact ⟨[],7,rfl,.set_no hit fun h=>beq_eq_false_iff_ne.1 ht h.2⟩
   | true =>
    simp only [Bool.not_true,cond_false,hj [Nd.mk i1 text i3 i4] (by simp),Option.bind_some]
    exact ⟨_,0,rfl,.set (it:=.mk i1 i2 i3 i4) hit hlf (eq_of_beq ht)⟩
theorem zOm (n : Nat) (t : Nd) (o : Op8) (hn : 200000000 < n) (ht : t.w ≤ 50000000) (hb : Nd.ws o.nodes ≤ 2000000) (hx : o.2.2.2.2.2.2.2.length ≤ 2000000) : ∃ t' e,zEW n t o = some (t',e) ∧ App t o t' e:=by
 obtain ⟨k,row,a,m,nodes,slot,old,text⟩:=o;simp only [Op8.nodes] at hb;dsimp only at hx;have v1:=zCq n t (by omega) (by omega)
 have ct:=Nd.cnt_w t;obtain ⟨b,f1,f2⟩:=zML n k row a m nodes slot old text (by omega) (by omega)
 have e1:=zRz n t row v1 (by omega)
 have hwith : ∀ r l,Fd t row r → Nd.ws l ≤ 5000000 + r.w → zEG n t row (rowN l) = some (zR1 t row (rowN l)):=fun r l h hl=>by
  have hs:=h.small;have hc : (rowN l).w = Nd.ws l + 1 :=(by simp [rowN,Nd.w]);refine zQj n t row (rowN l) v1 (zCq n _ (by omega) (by omega)) (fun z hz=>?_) (by omega) (by have:=Nd.cnt_w (rowN l); omega)
  obtain rfl:=h.det hz;have:=h.w (rowN l)
  exact zCq n _ (by omega) (by omega)
 obtain ⟨t1,t2,t3,t4⟩:=t;unfold zEW;simp only [v1,f1,e1,Option.bind_some]
 cases hv : zAL (.mk t1 t2 t3 t4) with
 | false=>exact ⟨_,1,rfl,.arg hv⟩
 | true =>
  simp only [Bool.not_true,cond_false]
  cases b with
  | false=>exact ⟨_,4,rfl,.form hv fun h=>by have:=f2.2 h; cases this⟩
  | true =>
   have hf:=f2.1 rfl;simp only [Bool.not_true,cond_false,rowS,if_pos hv]
   cases hfd : zCt (.mk t1 t2 t3 t4) row with
   | none=>exact ⟨_,8,rfl,.none hv hf hfd⟩
   | some r =>
    have hr':=zWO hfd;have hsm:=hr'.small;have hwr:=zIC r;have hvr:=hr'.valid hv;have hrr:=(zFS hvr).1;have hfr:=(zFS hvr).2;obtain ⟨l',e,c1,c2⟩:=zLO n r.kids k row a m nodes slot old text hf hfr (by omega) (by omega) (by omega)
    obtain ⟨r1,r2,r3,r4⟩:=r;obtain ⟨rfl,rfl,rfl,-⟩:=Nd.mk.inj hrr;simp only [Nd.kids] at c1 c2 hwr;simp only [Option.bind_some,show ((0 : Int) != 0) = false from rfl,cond_false,c1]
    by_cases he : e = 0
    ·subst he;have hcw:=c2.w;have hw:=hwith _ l' hr' (by omega)
     unfold rowN at hw;simp only [show ((0 : Int) != 0) = false from rfl,cond_false,hw,Option.bind_some]
     cases hvo : zAL (putL (.mk t1 t2 t3 t4) row (rowN l')) with
     | false =>
      have hL:=App.limit (t:=.mk t1 t2 t3 t4) (o:=(k,row,a,m,nodes,slot,old,text)) hv hf hr' c2 hvo;have hws : ∃ q,zR1 (.mk t1 t2 t3 t4) row (.mk 1 [] 0 l') = (zDu,q) ∧ q ≠ 0:=by
       unfold zR1;rw [if_pos hv,hfd]
       dsimp only
       by_cases h : zAL (.mk 1 [] 0 l') = true
       ·rw [if_pos h]
        unfold rowN at hvo;rw [hvo,if_neg (by decide)]
        exact ⟨6,rfl,by decide⟩
       ·rw [if_neg h]; exact ⟨4,rfl,by decide⟩
      obtain ⟨q,hq,hq0⟩:=hws;rw [hq]
      have : (q != 0) = true:=bne_iff_ne.2 hq0;simp only [zDu,this,cond_true]
      exact ⟨_,6,rfl,hL⟩
     | true =>
      have hO:=App.ok (t:=.mk t1 t2 t3 t4) (o:=(k,row,a,m,nodes,slot,old,text)) hv hf hr' c2 hvo;have hvl:=(hr'.put (rowN l')).valid hvo;have hws:=zVI (r:=rowN l') hv hfd hvl hvo;unfold rowN at hws;rw [hws]
      dsimp only at hO;unfold rowN at hO;generalize putL (Nd.mk t1 t2 t3 t4) row (Nd.mk 1 [] 0 l') = Z at *;obtain ⟨q1,q2,q3,q4⟩:=Z;exact ⟨_,0,rfl,hO⟩
    ·have : (e != 0) = true:=bne_iff_ne.2 he;simp only [this,cond_true]
     exact ⟨_,e,rfl,.chg (t:=.mk t1 t2 t3 t4) (o:=(k,row,a,m,nodes,slot,old,text)) hv hf hr' c2 he⟩
theorem App.w {t t' : Nd} {o : Op8} {e : Int} (h : App t o t' e) : t'.w ≤ t.w + Nd.ws o.nodes + o.2.2.2.2.2.2.2.length + 4:=by
 have hz : zDu.w = 1:=rfl;obtain ⟨k,row,a,m,nodes,slot,old,text⟩:=o;simp only [Op8.nodes]
 cases h with
 | arg=>omega
 | form=>omega
 | none=>omega
 | chg=>omega
 | limit=>omega
 | @ok r l h hf hr hc hv =>
  have h1:=hr.w (rowN l)
  have h2:=hc.w;have h3:=zIC r;have h4 : (rowN l).w = Nd.ws l + 1 :=(by simp [rowN,Nd.w]);dsimp only at h1 ⊢
  omega
end Go.Proofs.YtjdhkpdjecegnaaGreatDoor
namespace Go.Proofs.YtjdhkpdjecegnaaGreatDoor
open Go.Abs
def Op8.row (o : Op8) : List Int:=o.2.1
def Op8.text (o : Op8) : List UInt8:=o.2.2.2.2.2.2.2
inductive Runs : Nd → List Op8 → Nd → Int → Prop
 | nil (t : Nd) : Runs t [] t 0
 | stop {t t' : Nd} {o : Op8} {ops : List Op8} {e : Int} (h : App t o t' e) (he : e ≠ 0) : Runs t (o :: ops) zDu e
 | next {t t' u : Nd} {o : Op8} {ops : List Op8} {e : Int} (h : App t o t' 0) (hr : Runs t' ops u e) : Runs t (o :: ops) u e
def endOf (f : Fl (Nd × Int × Int) (Int × List UInt8 × Int × List Nd)) : Nd × Int × Int:=match f with
 | .ret r=>r
 | .go (a,b,c,d)=>(.mk a b c d,0,0)
inductive zV2 (t : Nd) (ops : List Op8) : Nd → Int → Prop
 | bad (h : zAL t = false) : zV2 t ops zDu 1
 | go {u : Nd} {e : Int} (h : zAL t = true) (hr : Runs t ops u e) : zV2 t ops u e
end Go.Proofs.YtjdhkpdjecegnaaGreatDoor
