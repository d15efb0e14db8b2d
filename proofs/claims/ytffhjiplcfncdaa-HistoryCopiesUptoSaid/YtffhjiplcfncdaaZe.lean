/-
  Joined out of: LibV, LibK, LwA, HcA, HcB, LwB, HcC, HcD, HcE, HnH, HnK, HcF, HcG, PHAwk, PCnt, PByte, PText, PVal, PDist, PDump, PMet, PRow, PPut, PWith, PWt, PLeast, PLeast2, PEdit1, PEdit3, PEdit4, PHCop.
-/
import Derived.Lib.ItoaLen
import Derived.Test.YtffhjiplcfncdaaZd
set_option linter.unusedVariables false
set_option linter.unusedSimpArgs false
set_option maxHeartbeats 2000000
set_option maxRecDepth 100000
namespace Go.Proofs.Ytffhjiplcfncdaa
open Go.Abs
def zHx (xs:List AV) (r:Ret):Prop:=∃ rows,xs=[.s (.sl 8 rows)]/\r = .val (.clo 61 [.s (.pt [.sl 8 rows])])
set_option maxHeartbeats 600000 in
theorem zKG:PSound Try.prog 40 (zAr zHx):=by
 have gok:∀ f s,look? f []=some s->PSound Try.prog f s:=zAm (by simp)
 refine zAw tokW Try.call40 Try.func40 rfl (fun xs r h=>by obtain⟨_,rfl,_⟩:=h; show 1<=4; decide) 4 rfl ?_;rintro xs r w0 G0 ⟨rows,rfl,rfl⟩ _;refine zSV ?_;refine zSV ?_;refine zAg ?_;unfold zCQ;exact⟨_,Le.refl _ _,rfl,rfl⟩
theorem zL0 (a:Act) (t:Nat):a.eval (.tmp t)=a.tmps.getD t undef:=rfl
theorem zSQ {α:Type}:∀ {l:List α},l.length=8->∃ a b c d e f g h,l=[a,b,c,d,e,f,g,h]
 | [a,b,c,d,e,f,g,h],_=>⟨a,b,c,d,e,f,g,h,rfl⟩
theorem zRQ:zLD Try.prog 61 8:=by
 intro G w0 v rows hlt hgl hv hrl hlen l J W hsz hk hJ hY h0;have hrep:∀ w:World,(∀ b,G b->w.heap[b]? = w0.heap[b]?)->Rep G w (.pt [.sl 8 rows]) v:=fun w hw=>hv.keep ⟨fun _ h=>h,hw⟩
 have hlt':∀ w:World,w0.heap.size<=w.heap.size->∀ b,G b->b<w.heap.size:=fun w hw b hb=>Nat.lt_of_lt_of_le (hlt b hb) hw
 have hgl':∀ w:World,(∀ b,G b->w.heap[b]? = w0.heap[b]?)->GlobOk G w:=fun w hw=>hgl.keep ⟨fun _ h=>h,hw⟩
 have step:∀ {N:Nat} {G':Nat->Prop} {β:Nat->Value} {σ:St} {a:Act} {wa wb:World} (i:Nat),Conc (zDT Try.prog wa G N) G' β σ a wb->wb.heap.size=wa.heap.size->J i wa->w0.heap.size<=wa.heap.size->(∀ b,G b->wa.heap[b]? = w0.heap[b]?) ->
   J i wb/\w0.heap.size<=wb.heap.size/\(∀ b,G b->wb.heap[b]? = w0.heap[b]?):=fun {N G' β σ a wa wb} i hc hs hj h1 h2=>by
  obtain⟨g1,g2⟩:=hc.back hs;exact⟨hJ i wa wb hj ⟨hc.fr.os,hc.fr.tape,hc.fr.output,hc.fr.size,g2⟩,by rw[hs]; exact h1,fun b hb=>(g2 b (hlt' wa h1 b hb)).trans (h2 b hb)⟩
 let St:Nat->Act->World->Prop:=fun i a w=>a.defers=[]/\a.tmps.size=19/\a.tmps.getD 0 undef = .func (.yield l) #[] #[]/\a.tmps.getD 1 undef=v/\a.tmps.getD 3 undef = .int .i64 ((rows.length:Int) - 1 - i)/\J i w/\w0.heap.size<=w.heap.size/\(∀ b,G b->w.heap[b]? = w0.heap[b]?)
 refine callsIn_of_wp Try.func61 rfl trivial ?_;generalize ha:({ tmps:=#[Value.func (.yield l) #[] #[],v]++Array.replicate _ undef,defers:=[] }:Act)=a;have a0:a.tmps.getD 0 undef = .func (.yield l) #[] #[] :=(by rw[← ha]; rfl);have a1:a.tmps.getD 1 undef=v :=(by rw[← ha]; rfl);have az:a.tmps.size=19 :=(by rw[← ha]; rfl);have ad:a.defers=[]:=by rw[← ha]
 clear ha
 refine wpIn_seq ?_;refine wpIn_region_lit ?_;refine zLZ tokW (N:=19) (K:=fun σ=>σ.env 3 = .s (.int .i64 (IntKind.i64.wrap ((rows.length:Int) - 1)))) [0,1] ?_ (zPj (G:=G) [(1,.s (.pt [.sl 8 rows]))] ad az (hlt' W hsz) (hgl' W hk) rfl (fun p hp=>by
  obtain rfl:=List.mem_singleton.1 hp;dsimp only;rw[a1]
  simp only[AVal]
  exact hrep W hk)) rfl ?_
 ·show _=_
  rfl
 intro σ1 G1 β1 b w1 hK hc hs hfr;have b0:=(hfr 0 (by simp)).trans a0;have b1:=(hfr 1 (by simp)).trans a1;have b3:=hc.env 3;rw[hK]at b3;simp only[AVal,Rep]at b3;rw[wrap64_in (n:=(rows.length:Int) - 1) (by omega) (by omega)]at b3;have hst:=step 0 hc hs h0 hsz hk;have hS:St 0 b w1:=⟨hc.defers,hc.size,b0,b1,by rw[b3]; congr 1; omega,hst⟩
 clear hst b0 b1 b3 hK hfr hc hs a0 a1 az ad
 refine wpIn_block ?_;refine wpIn_loop (fun a w=>∃ i,i<=rows.length/\St i a w) (fun a _=>match a.tmps.getD 3 undef with | .int _ z=>(z+1).toNat | _=>0) ⟨0,Nat.zero_le _,hS⟩ ?_;rintro a w ⟨i,hi,ad,az,a0,a1,a3,hj,hw1,hw2⟩
 refine wpIn_seq ?_;refine wpIn_seq ?_;refine wpIn_region_lit ?_;refine zLZ tokW (N:=19) (K:=fun σ=>σ.env 8 = .s (.bool (decide (0<=(rows.length:Int) - 1 - i)))) [0,1,3] ?_ (zPj (G:=G) [(3,.s (.int .i64 ((rows.length:Int) - 1 - i)))] ad az (hlt' w hw1) (hgl' w hw2) rfl (fun p hp=>by
  obtain rfl:=List.mem_singleton.1 hp;dsimp only;rw[a3]
  simp[AVal,Rep])) rfl ?_
 ·show _=_
  rfl
 intro σ1 G1 β1 b w1 hK hc hs hfr;have b0:=(hfr 0 (by simp)).trans a0;have b1:=(hfr 1 (by simp)).trans a1;have b3:=(hfr 3 (by simp)).trans a3;have b8:=hc.env 8;rw[hK]at b8;simp only[AVal,Rep]at b8;obtain⟨hj1,hw3,hw4⟩:=step i hc hs hj hw1 hw2;have bd:b.defers=[]:=hc.defers;have bs:b.tmps.size=19:=hc.size
 clear hc hK hfr hs a0 a1 ad az hj hw1 hw2
 refine wpIn_cond_split (t:=decide (0<=(rows.length:Int) - 1 - i)) b8 (fun hb=>?_) (fun hb=>?_)
 ·have hb:=of_decide_eq_true hb;refine wpIn_skip ?_;obtain⟨j,hij⟩:∃ j,i+j+1=rows.length:=⟨rows.length - 1 - i,by omega⟩
  have hz:(rows.length:Int) - 1 - i=(j:Int) :=(by omega);rw[hz]at b3;have hjl:j<rows.length :=(by omega);have hrow:rows[j]? = some rows[j]:=List.getElem?_eq_getElem hjl;have hr8:=hrl _ (List.getElem_mem hjl)
  have hgd:rows.getD ((j:Int).toNat) []=rows[j] :=(by rw[Int.toNat_natCast,List.getD_eq_getElem?_getD,hrow]; rfl);generalize rows[j]=row at hrow hr8 hgd;refine wpIn_seq ?_;refine wpIn_block ?_;refine wpIn_seq ?_;refine wpIn_region_lit ?_;refine zI0 rfl ?_;refine zRd (ro:=none) (K:=fun a' w'=>a'=b.put (some 11) (.func (.yield l) #[] #[])/\w'=w1) (by intro c e; cases e) ?_ (zAG (v:=.func (.yield l) #[] #[]) (w':=w1) (by simp[execOp,zL0,b0]) ⟨rfl,rfl⟩)
  rintro a' w' ⟨ha',hw'⟩
  rw[ha',hw']
  clear ha' hw' a' w'
  have c0:(b.put (some 11) (.func (.yield l) #[] #[])).tmps.getD 0 undef = .func (.yield l) #[] #[]:=(zKf (by decide)).trans b0;have c1:(b.put (some 11) (.func (.yield l) #[] #[])).tmps.getD 1 undef=v:=(zKf (by decide)).trans b1;have c3:(b.put (some 11) (.func (.yield l) #[] #[])).tmps.getD 3 undef = .int .i64 (j:Int):=(zKf (by decide)).trans b3;have c11:(b.put (some 11) (.func (.yield l) #[] #[])).tmps.getD 11 undef = .func (.yield l) #[] #[]:=by
   simp only[Act.put]
   rw[zJh (by rw[bs]; decide),if_pos rfl]
  have cd:(b.put (some 11) (.func (.yield l) #[] #[])).defers=[]:=(put_defers ..).trans bd;have cs:(b.put (some 11) (.func (.yield l) #[] #[])).tmps.size=19:=(zMt ..).trans bs;generalize b.put (some 11) (.func (.yield l) #[] #[])=c at c0 c1 c3 c11 cd cs
  clear b0 b1 b3 b8 bd bs
  refine zOQ tokW (N:=19) 4 (K:=fun σ=>σ.env 12 = .s (.int .i64 (j:Int))/\σ.env 15 = .s (.pt (rows.getD ((j:Int).toNat) []))) [0,1,3,11] ?_ (zPj (G:=G) [(1,.s (.pt [.sl 8 rows])),(3,.s (.int .i64 (j:Int)))] cd cs (hlt' w1 hw3) (hgl' w1 hw4) rfl (fun p hp=>by
   rcases List.mem_cons.1 hp with rfl | hp
   ·dsimp only;rw[c1]
    simp only[AVal]
    exact hrep w1 hw4
   ·obtain rfl:=List.mem_singleton.1 hp;dsimp only;rw[c3]
    simp[AVal,Rep])) rfl ?_
  ·exact⟨⟨by omega,by omega⟩,rfl,rfl⟩
  intro σ2 G2 β2 d w2 hK hc hs hfr;have d0:=(hfr 0 (by simp)).trans c0;have d1:=(hfr 1 (by simp)).trans c1;have d3:=(hfr 3 (by simp)).trans c3;have d11:=(hfr 11 (by simp)).trans c11;have d12:=hc.env 12;have d15:=hc.env 15;obtain⟨hgb,_⟩:=hc.back hs;rw[hK.1]at d12;rw[hK.2,hgd]at d15;simp only[AVal,Rep]at d12;have d15:=d15.keep (⟨hgb,fun _ _=>rfl⟩:Keep G2 G w2 w2)
  simp only[AVal]at d15;obtain⟨hj2,hw5,hw6⟩:=step i hc hs hj1 hw3 hw4;have dd:d.defers=[]:=hc.defers;have ds:d.tmps.size=19:=hc.size
  clear hc hK hfr hs c0 c1 c3 c11 cd cs hj1 hw3 hw4 hgb
  obtain⟨r1,r2,r3,r4,r5,r6,r7,r8,rfl⟩:=zSQ hr8;refine zOQ tokW (N:=19) 1 (K:=fun σ=>σ.env 16 = .agg ([r1,r2,r3,r4,r5,r6,r7,r8].map .s)) [0,1,3,11,12] ?_ (zPj (G:=G) [(15,.s (.pt [r1,r2,r3,r4,r5,r6,r7,r8]))] dd ds (hlt' w2 hw5) (hgl' w2 hw6) rfl (fun p hp=>by
   obtain rfl:=List.mem_singleton.1 hp;dsimp only;simp only[AVal]
   exact d15)) rfl ?_
  ·show _=_
   rfl
  intro σ3 G3 β3 e w3 hK hc hs hfr;have e0:=(hfr 0 (by simp)).trans d0;have e1:=(hfr 1 (by simp)).trans d1;have e3:=(hfr 3 (by simp)).trans d3;have e11:=(hfr 11 (by simp)).trans d11;have e12:=(hfr 12 (by simp)).trans d12;have e16:=hc.env 16;obtain⟨hgb,_⟩:=hc.back hs;rw[hK]at e16;have e16:=e16.keep (⟨hgb,fun _ _=>rfl⟩:Keep G3 G w3 w3)
  obtain⟨hj3,hw7,hw8⟩:=step i hc hs hj2 hw5 hw6;have ed:e.defers=[]:=hc.defers;have es:e.tmps.size=19:=hc.size
  clear hc hK hfr hs d0 d1 d3 d11 d12 d15 dd ds hj2 hw5 hw6 hgb
  refine zI0 rfl ?_;have hYY:=hY i j _ (e.tmps.getD 16 undef) w3 hij hrow hj3 hw7 hw8 (fun β=>e16.beta (n:=0) (fun k hk=>by cases hk) (zOm _))
  refine zRD (u:=.bool true) (f:=.tmp 11) (x:=.tmp 12) (y:=.tmp 16) (l:=l) rfl e11 (by rw[zL0,zL0,e12]; exact hYY) ?_;rintro ee w4 ⟨rfl,hj4,hw9,hw10⟩
  refine⟨rfl,?_⟩
  have f0:(e.put (some 17) (.bool true)).tmps.getD 0 undef = .func (.yield l) #[] #[]:=(zKf (by decide)).trans e0;have f1:(e.put (some 17) (.bool true)).tmps.getD 1 undef=v:=(zKf (by decide)).trans e1;have f3:(e.put (some 17) (.bool true)).tmps.getD 3 undef = .int .i64 (j:Int):=(zKf (by decide)).trans e3;have f17:(e.put (some 17) (.bool true)).tmps.getD 17 undef = .bool true:=by
   simp only[Act.put]
   rw[zJh (by rw[es]; decide),if_pos rfl]
  have fd:(e.put (some 17) (.bool true)).defers=[]:=(put_defers ..).trans ed;have fs:(e.put (some 17) (.bool true)).tmps.size=19:=(zMt ..).trans es;show wpListIn _ _ _ _ _ _ (e.put (some 17) (.bool true)) _;generalize e.put (some 17) (.bool true)=f at f0 f1 f3 f17 fd fs
  clear e0 e1 e3 e11 e12 e16 ed es hj3 hw7 hw8 hYY
  refine zLZ tokW (N:=19) (K:=fun σ=>σ.env 18 = .s (.bool false)) [0,1,3] ?_ (zPj (G:=G) [(17,.s (.bool true))] fd fs (hlt' w4 hw9) (hgl' w4 hw10) rfl (fun p hp=>by
   obtain rfl:=List.mem_singleton.1 hp;dsimp only;rw[f17]
   simp[AVal,Rep])) rfl ?_
  ·show _=_
   rfl
  intro σ5 G5 β5 g w5 hK hc hs hfr;have g0:=(hfr 0 (by simp)).trans f0;have g1:=(hfr 1 (by simp)).trans f1;have g3:=(hfr 3 (by simp)).trans f3;have g18:=hc.env 18;rw[hK]at g18;simp only[AVal,Rep]at g18;obtain⟨hj5,hw11,hw12⟩:=step (i+1) hc hs hj4 hw9 hw10;have gd:g.defers=[]:=hc.defers;have gs:g.tmps.size=19:=hc.size
  clear hc hK hfr hs f0 f1 f3 f17 fd fs hj4 hw9 hw10
  refine wpIn_cond_false g18 ?_;refine wpIn_skip ?_;refine wpIn_region_lit ?_;refine zLZ tokW (N:=19) (K:=fun σ=>σ.env 3 = .s (.int .i64 (IntKind.i64.wrap ((j:Int) - 1)))) [0,1] ?_ (zPj (G:=G) [(3,.s (.int .i64 (j:Int)))] gd gs (hlt' w5 hw11) (hgl' w5 hw12) rfl (fun p hp=>by
   obtain rfl:=List.mem_singleton.1 hp;dsimp only;rw[g3]
   simp[AVal,Rep])) rfl ?_
  ·show _=_
   rfl
  intro σ6 G6 β6 h w6 hK hc hs hfr;have h0':=(hfr 0 (by simp)).trans g0;have h1':=(hfr 1 (by simp)).trans g1;have h3':=hc.env 3;rw[hK]at h3';simp only[AVal,Rep]at h3';rw[wrap64_in (n:=(j:Int) - 1) (by omega) (by omega)]at h3';have hst:=step (i+1) hc hs hj5 hw11 hw12;refine⟨⟨i+1,by omega,hc.defers,hc.size,h0',h1',by rw[h3']; congr 1; omega,hst⟩,?_⟩
  rw[h3',a3]
  show((j:Int) - 1+1).toNat<((rows.length:Int) - 1 - i+1).toNat
  omega
 ·have hb:=of_decide_eq_false hb;refine wpIn_exit ?_;obtain rfl:i=rows.length :=(by omega);simp only[Exit.then,Exit.inBlock,if_true]
  exact⟨bd,_,results_none rfl _ _ _,⟨_,rfl⟩,hj1⟩
theorem zSh {c:Cx}{σ σ':Go.Abs.St}{x:Code}{Φ:Exit->Act->World->Prop} (hle:Le c σ σ') (h:TriX c x σ' Φ):TriX c x σ Φ:=fun G β a w hc=>by
 unfold Le at hle;obtain⟨G',β',h'⟩:=hle G β a w hc;exact h G' β' a w h'
theorem zGN {n:Nat}{ops:List zO8}:∀ {N:Nat}{y0:List zO8},zAY n ops N=some y0->∀ i,i<N ->
  ∃ acc o y,zAY n ops i=some acc/\ops[ops.length - 1 - i]? = some o/\zC8 n o=some y/\acc.length+1<=4294967296/\zAY n ops (i+1)=some (acc++[y])
 | 0,_,_,i,hi=>by omega
 | N+1,y0,h,i,hi=>by
  have h':=h;unfold zAY at h;obtain⟨acc,h1,h⟩:=zAc h;obtain⟨o,h2,h⟩:=zAc h;obtain⟨y,h3,h⟩:=zAc h;obtain⟨h4,h5⟩:=zAy h
  by_cases e:i=N
  ·subst e;exact⟨acc,o,y,h1,h2,h3,h4,h'.trans h5.symm⟩
  ·exact zGN h1 i (by omega)
def zI2 (n:Nat) (xs:List AV) (r:Ret):Prop:=∃ (a0:List zO8) (y0:List zO8),zDW n a0=some y0/\xs=[.s (.sl 8 ((List.map zAs) a0))]/\r = .val (.s (.sl 8 ((List.map zAs) y0)))
def zFL:zAp:=zAr fun xs r=>∃ n,zI2 n xs r
theorem zIi:PSound Try.prog 32 zFL:=by
 have gok:∀ f s,look? f [(40,zAr zHx),(41,zHD)]=some s->PSound Try.prog f s:=zAm (by
  simp only[List.forall_mem_cons]
  exact⟨zKG,zKH,by simp⟩)
 refine zR6 Try.call32 Try.func32 rfl (fun xs r h=>by obtain⟨n,_,_,_,rfl,_⟩:=h; show 1<=16; decide) 16 rfl ?_;rintro xs r w0 G0 ⟨n,ops,y0,h,rfl,rfl⟩ _;rw[zDW]at h;obtain⟨hl,h⟩:=zAy h;obtain⟨acc,hacc⟩:∃ acc:Nat->List zO8,acc=fun i=>(zAY n ops i).getD []:=⟨_,rfl⟩
 have hfin:acc ops.length=y0 :=(by rw[hacc]; dsimp only; rw[h]; rfl);have h0:acc 0=[] :=(by rw[hacc]; rfl);have hst:∀ i,i<ops.length->∃ o y,ops[ops.length - 1 - i]? = some o/\zC8 n o=some y/\(acc i).length+1<=4294967296/\acc (i+1)=acc i++[y]:=fun i hi=>by
  obtain⟨a,o,y,h1,h2,h3,h4,h5⟩:=zGN h i hi;rw[hacc]
  exact⟨o,y,h2,h3,by dsimp only; rw[h1]; exact h4,by dsimp only; rw[h1,h5]; rfl⟩
 clear hacc
 refine zME rfl ?_;refine zSU ?_;refine⟨rfl,?_⟩
 refine zME rfl ?_;refine zAb [3] [] rfl ?_;refine⟨rfl,?_⟩
 refine zRy ?_;refine zME rfl ?_;refine zSU ?_;refine⟨_,⟨_,rfl,rfl⟩,?_⟩
 refine⟨rfl,?_⟩
 refine zSh (Le.trans (Le.takeNil 0 0 35 rfl rfl (by decide)) (Le.rnm [(0,0),(1,1)] [(3,.op 0 0),(7,.clo 61 [.s (.pt [.sl 8 ((List.map zAs) ops)])])] [(0,.box 36 [.orow 1]),(1,.row 35 8 [])] 2 ⟨rfl,rfl,trivial⟩ ⟨rfl,⟨_,rfl,rfl⟩,rfl,⟨_,rfl,rfl⟩,trivial⟩)) ?_;refine zPI ?_;refine zPJ rfl rfl (sz:=8) (rows:=(List.map zAs) ops) zRQ Try.call61 rfl (fun r hr=>by obtain⟨o,_,rfl⟩:=List.mem_map.1 hr; rfl) (by rw[List.length_map]; omega)
  (fun i=>(ofH [(0,.box 36 [.orow 1]),(1,.row 35 8 ((List.map zAs) (acc i)))],2)) (by dsimp only; rw[h0]; rfl) 1 (zJj rfl) (Nat.zero_le _) (fun _=>by show 1<=2; decide) (by show 8<16; decide) (by show 9<16; decide) ?_ ?_
 ·intro i j row hij hrow l w X G B _;rw[List.length_map]at hij;obtain⟨o,y,h1,h2,h3,h4⟩:=hst i (by omega)
  rw[show ops.length - 1 - i=j by omega]at h1;rw[List.getElem?_map,h1]at hrow;obtain rfl:=Option.some.inj hrow;obtain⟨op_kind,op_row,op_at,op_n,op_nodes,op_slot,op_old,op_text⟩:=o;refine zAb [5] [] rfl ?_;refine⟨rfl,fun w X G B _=>?_⟩
  refine zAi ?_;refine zH4 (by exact tokW) (by exact gok) (by exact mixed) [] [] [0,1,4,5] rfl (by decide +kernel) ?_;refine⟨_,⟨n,_,_,h2,rfl,rfl⟩,?_⟩
  obtain⟨z_kind,z_row,z_at,z_n,z_nodes,z_slot,z_old,z_text⟩:=y;refine And.intro (by simp only[List.length_map,List.length_cons,List.length_nil]; omega) ?_;refine⟨rfl,_,Le.rename [(0,0),(3,1)] [] [(0,.box 36 [.orow 1]),(1,.row 35 8 ((List.map zAs) (acc (i+1))))] 2 trivial ⟨rfl,⟨_,rfl,rfl⟩,rfl,⟨_,rfl,by rw[h4,List.map_append]; rfl⟩,trivial⟩ rfl rfl rfl rfl rfl,rfl,rfl⟩
 ·intro D w2 X G2 G' β' a2 hsw hc;rw[List.length_map,hfin]at hc;show(Code.seq _ _).wpIn _ _ _ _ a2 w2;refine zP8 (c:=zDT Try.prog w0 G0 16) tokW hsw (fun _ h=>h) rfl rfl ?_ G' β' a2 w2 hc;refine zSV ?_;refine zAg ?_;unfold zCQ;exact⟨_,Le.giveRow 1 (e:=35) (sz:=8) (rows:=(List.map zAs) y0) rfl,rfl,rfl⟩
end Go.Proofs.Ytffhjiplcfncdaa
namespace Go.Abs
section
attribute [local semireducible] Tri Le
variable {c:Cx} {σ:St} {Q:End->St->Prop}
def TriL (c:Cx) (x:Code) (σ:St) (Q:End->St->Prop):Prop :=
 ∀ G β a w,Conc c G β σ a w->∀ (b:Frame) (k:List Item) (cs:List Frame),b.roundOf=(rF c.ro).round->(rF c.ro).fn b.fn->(rF c.ro).room (cs.length+1+2) ->
  ∃ e a' w',(∃ e' G' β' σ',e=zG5 e'/\Q e' σ'/\Conc c G' β' σ' a' w')/\ArrivesIn (Machine.fenced c.P (rF c.ro)) c.P (lone (b.atR a (.code x::.inLoop x::k)) cs w) b k cs e a' w'
theorem zDU {x:Code} (h:TriL c x σ Q):Tri c (.loop x) σ Q:=fun G β a w hc b k cs hro hb hr=>by
 obtain⟨e,a',w',hq,harr⟩:=h G β a w hc b k cs hro hb hr;exact⟨e,a',w',hq,.of_steps (.one (fenced_calm hb hr rfl) stepR_loop) harr⟩
def zSK (c:Cx) (x:Code) (Q:End->St->Prop):End->St->Prop
 | .normal,σ=>TriL c x σ Q
 | e,σ=>Q e σ
theorem zAI {x:Code} (h:Tri c x σ (zSK c x Q)):TriL c x σ Q:=fun G β a w hc b k cs hro hb hr=>by
 obtain⟨e,a',w',⟨e',G',β',σ',rfl,hq,hc'⟩,harr⟩:=h G β a w hc b (.inLoop x::k) cs hro hb hr;cases e' with
 | normal =>
  obtain⟨e2,a2,w2,hq2,harr2⟩:=hq G' β' a' w' hc' b k cs hro hb hr;exact⟨e2,a2,w2,hq2,.of_steps (StepsIn.trans harr (.one (fenced_calm hb hr rfl) stepR_inLoop)) harr2⟩
 | exit id=>exact⟨.exit id,a',w',⟨.exit id,G',β',σ',rfl,hq,hc'⟩,.pass (x:=.inLoop x) rfl (fun _ _=>.inl (by simp[zG5])) harr⟩
 | ret=>exact⟨.ret,a',w',⟨.ret,G',β',σ',rfl,hq,hc'⟩,.pass (x:=.inLoop x) rfl (fun _ _=>.inl (by simp[zG5])) harr⟩
end
attribute [irreducible] TriL
end Go.Abs
namespace Go.Proofs.Ytffhjiplcfncdaa
open Go.Abs
theorem capB (a b:Nat) (h1:a<=2000000) (h2:b<=2000000):(a+b) * 56<=140737488355328/\a+b<=9223372036854775807:=⟨by omega,by omega⟩
def oX:Int×List Int×Int×Int×List Nd×Int×List UInt8×List UInt8:=(1,[],0,0,[.mk 3 [49] 0 []],0,[],[])
def zDD:zAp:=zA5 fun xs os x os'=>∃ items:List Nd,(items.length<1000000)/\xs=[.orow 0]/\os=[.arow 22 1 [[.s (.sl 4 [])],[.orow 1],[.s (.sl 4 (Nd.encs items))]],.row 24 4 [[.int .i64 3,.str [49],.int .i64 0,.sl 4 []]]]/\x = .orow 2 /\
 os'=[some (.arow 22 1 [[.s (.sl 4 [])],[.orow 1],[.s (.sl 4 (Nd.encs items))]]),some (.row 24 4 [[.int .i64 3,.str [49],.int .i64 0,.sl 4 []]]),some (.row 24 4 (Nd.encs (.mk 3 [49] 0 []::items)))]
theorem zFG:PSound Try.prog 93 zDD:=by
 have gok:∀ f s,look? f [(97,zCR)]=some s->PSound Try.prog f s:=zAm (by
  simp only[List.forall_mem_cons]
  exact⟨zD8,by simp⟩)
 refine zBm tokW Try.call93 Try.func93 rfl (fun xs os x os' h=>by obtain⟨_,_,rfl,rfl,_,rfl⟩:=h; exact⟨by show 1<=36; decide,by show 2<=3; decide⟩) 36 rfl ?_;rintro xs os x os' w0 G0 B0 ⟨items,hi,rfl,rfl,rfl,rfl⟩ _;have hl:(Nd.encs items).length=items.length:=rlen Nd.encs_eq items;refine zSV ?_;refine zSV ?_;refine zAa ?_;refine zSV ?_;refine zAi ?_;refine zDU ?_;refine zAI ?_;refine zSV ?_;refine zAa ?_
 refine zAl rfl (fun hb=>?_) (fun hb=>by cases hb)
 refine zAe ?_;refine zAa ?_;refine zAi ?_;refine zSV ?_;refine And.intro (show(0:Int)<=0/\(0:Int)<3 by decide) ?_;refine⟨show 0<3 by decide,_,rfl,?_⟩
 refine zSg [] [18] rfl ?_;intro v0 hv0;obtain rfl:v0=(0:Int):=hv0.trans (rfl)
 refine zSV ?_;refine zAl rfl (fun hb=>by cases hb) (fun hb=>?_)
 refine zAe ?_;refine zAb [] [22] rfl ?_;intro u0 hu0;obtain rfl:u0=(1:Int):=hu0.trans rfl;show TriL _ _ _ _;refine zAI ?_;refine zSV ?_;refine zAa ?_;refine zAl rfl (fun hb=>?_) (fun hb=>by cases hb)
 refine zAe ?_;refine zAa ?_;refine zAi ?_;refine zSV ?_;refine And.intro (show(0:Int)<=1/\(1:Int)<3 by decide) ?_;refine⟨show 1<3 by decide,_,rfl,?_⟩
 refine zSg [] [18] rfl ?_;intro v1 hv1;obtain rfl:v1=(1:Int):=hv1.trans (rfl)
 refine zSV ?_;refine zAl rfl (fun hb=>by cases hb) (fun hb=>?_)
 refine zAe ?_;refine zAb [] [22] rfl ?_;intro u1 hu1;obtain rfl:u1=(2:Int):=hu1.trans rfl;show TriL _ _ _ _;refine zAI ?_;refine zSV ?_;refine zAa ?_;refine zAl rfl (fun hb=>?_) (fun hb=>by cases hb)
 refine zAe ?_;refine zAa ?_;refine zAi ?_;refine zSV ?_;refine And.intro (show(0:Int)<=2/\(2:Int)<3 by decide) ?_;refine⟨show 2<3 by decide,_,rfl,?_⟩
 refine zSg [] [18] rfl ?_;intro v2 hv2;obtain rfl:v2=(((1+items.length:Nat):Int):Int):=hv2.trans (by rw[hl]; rw[wrap64_in (by omega) (by omega)]; omega)
 refine zSV ?_;refine zAl rfl (fun hb=>by simp at hb; omega) (fun hb=>?_)
 refine zAe ?_;refine zAb [] [22] rfl ?_;intro u2 hu2;obtain rfl:u2=(3:Int):=hu2.trans rfl;show TriL _ _ _ _;refine zAI ?_;refine zSV ?_;refine zAa ?_;refine zAl rfl (fun hb=>by cases hb) (fun hb=>?_)
 refine zAx ?_;show Tri ..;have hg:zB1 ((1+items.length:Nat):Int)=some [] :=(by unfold zB1; rw[zDh (by omega)]);refine zSg [24] [] rfl ?_;refine⟨_,⟨_,_,hg,rfl,rfl⟩,?_⟩
 refine zAa ?_;refine zSV ?_;refine zAi ?_;refine zDU ?_;refine zAI ?_;refine zSV ?_;refine zAa ?_;refine zAl rfl (fun hb=>?_) (fun hb=>by cases hb)
 refine zAe ?_;refine zAa ?_;refine zAi ?_;refine zSV ?_;refine And.intro (show(0:Int)<=0/\(0:Int)<3 by decide) ?_;refine⟨show 0<3 by decide,_,rfl,?_⟩
 refine zAb [33] [] rfl ?_;refine And.intro (capB _ _ (by simp[hl,Nd.encs]) (by simp[hl,Nd.encs]; try omega)) ?_;refine zAb [] [34] rfl ?_;intro q0 hq0;obtain rfl:q0=(1:Int):=hq0.trans rfl;show TriL _ _ _ _;refine zAI ?_;refine zSV ?_;refine zAa ?_;refine zAl rfl (fun hb=>?_) (fun hb=>by cases hb)
 refine zAe ?_;refine zAa ?_;refine zAi ?_;refine zSV ?_;refine And.intro (show(0:Int)<=1/\(1:Int)<3 by decide) ?_;refine⟨show 1<3 by decide,_,rfl,?_⟩
 refine zAb [33] [] rfl ?_;refine And.intro (capB _ _ (by simp[hl,Nd.encs]) (by simp[hl,Nd.encs]; try omega)) ?_;refine zAb [] [34] rfl ?_;intro q1 hq1;obtain rfl:q1=(2:Int):=hq1.trans rfl;show TriL _ _ _ _;refine zAI ?_;refine zSV ?_;refine zAa ?_;refine zAl rfl (fun hb=>?_) (fun hb=>by cases hb)
 refine zAe ?_;refine zAa ?_;refine zAi ?_;refine zSV ?_;refine And.intro (show(0:Int)<=2/\(2:Int)<3 by decide) ?_;refine⟨show 2<3 by decide,_,rfl,?_⟩
 refine zAb [33] [] rfl ?_;refine And.intro (capB _ _ (by simp[hl,Nd.encs]) (by rw[hl]; omega)) ?_;refine zAb [] [34] rfl ?_;intro q2 hq2;obtain rfl:q2=(3:Int):=hq2.trans rfl;show TriL _ _ _ _;refine zAI ?_;refine zSV ?_;refine zAa ?_;refine zAl rfl (fun hb=>by cases hb) (fun hb=>?_)
 refine zAx ?_;refine zSV ?_;refine zAg ?_;unfold zAM;exact⟨_,Le.rename [(0,0),(1,1),(5,2)] [(2,.orow 2)] [(0,.arow 22 1 [[.s (.sl 4 [])],[.orow 1],[.s (.sl 4 (Nd.encs items))]]),(1,.row 24 4 [[.int .i64 3,.str [49],.int .i64 0,.sl 4 []]]),(2,.row 24 4 (Nd.encs (.mk 3 [49] 0 []::items)))] 3 ⟨rfl,trivial⟩ ⟨rfl,⟨_,rfl,rfl⟩,rfl,⟨_,rfl,rfl⟩,rfl,⟨_,rfl,rfl⟩,trivial⟩ rfl rfl rfl rfl rfl,rfl,rfl,rfl,rfl,rfl,rfl,rfl,rfl,trivial⟩
def zEQ:zAp:=zA5 fun xs os x os'=>∃ items:List Nd,items.length<1000000/\xs=[.agg [.s (.int .i64 1),.s (.sl 1 []),.s (.int .i64 0),.s (.int .i64 0),.orow 0,.s (.int .i64 0),.s (.str []),.s (.str []),.s (.sl 4 (Nd.encs items))],.s (.int .i64 0),.orow 0]/\os=[.row 24 4 [[.int .i64 3,.str [49],.int .i64 0,.sl 4 []]]]/\x = .s (.sl 4 (Nd.encs (.mk 3 [49] 0 []::items)))/\os'=[some (.row 24 4 [[.int .i64 3,.str [49],.int .i64 0,.sl 4 []]])]
theorem zGL:PSound Try.prog 87 zEQ:=by
 have gok:∀ f s,look? f [(93,zDD)]=some s->PSound Try.prog f s:=zAm (by
  simp only[List.forall_mem_cons]
  exact⟨zFG,by simp⟩)
 refine zBm tokW Try.call87 Try.func87 rfl (fun xs os x os' h=>by obtain⟨_,_,rfl,rfl,_,rfl⟩:=h; exact⟨by show 3<=24; decide,by show 1<=1; decide⟩) 24 rfl ?_;rintro xs os x os' w0 G0 B0 ⟨items,hi,rfl,rfl,rfl,rfl⟩ _;refine zSg [3] [] rfl ?_;refine zAa ?_;refine zGy [22] [12,21] [1,4,8,11,15,16] [1,4,8,11] rfl (by decide +kernel) ?_;refine And.intro ⟨Int.le_refl _,Int.le_refl _,Int.natCast_nonneg _⟩ ?_;intro r4 hr4;obtain rfl:r4=[]:=hr4.trans rfl;refine And.intro ⟨Int.le_refl _,Int.natCast_nonneg _,Int.le_refl _⟩ ?_;intro r5 hr5
 obtain rfl:r5=Nd.encs items:=hr5.trans (by rw[Int.toNat_natCast,List.take_length]; rfl)
 refine⟨_,_,⟨items,hi,rfl,rfl,rfl,rfl⟩,?_⟩
 refine zAk (Le.giveRow 3 rfl) ?_;refine zAg ?_;unfold zAM;exact⟨_,Le.rename [(0,0)] [(6,.s (.sl 4 (Nd.encs (.mk 3 [49] 0 []::items))))] [(0,.row 24 4 [[.int .i64 3,.str [49],.int .i64 0,.sl 4 []]])] 1 ⟨rfl,trivial⟩ ⟨rfl,⟨_,rfl,rfl⟩,trivial⟩ rfl rfl rfl rfl rfl,rfl,rfl,rfl,rfl,trivial⟩
def zD0:zAp:=zA5 fun xs os x os'=>∃ items:List Nd,items.length<1000000/\xs=[.agg [.s (.int .i64 1),.s (.sl 1 []),.s (.int .i64 0),.s (.int .i64 0),.orow 0,.s (.int .i64 0),.s (.str []),.s (.str []),.s (.sl 4 (Nd.encs items))]]/\os=[.row 24 4 [[.int .i64 3,.str [49],.int .i64 0,.sl 4 []]]]/\x = .tup [.s (.sl 4 (Nd.encs (.mk 3 [49] 0 []::items))),.s (.int .i64 0)]/\os'=[some (.row 24 4 [[.int .i64 3,.str [49],.int .i64 0,.sl 4 []]])]
theorem zFR:PSound Try.prog 77 zD0:=by
 have gok:∀ f s,look? f [(87,zEQ)]=some s->PSound Try.prog f s:=zAm (by
  simp only[List.forall_mem_cons]
  exact⟨zGL,by simp⟩)
 refine zBm tokW Try.call77 Try.func77 rfl (fun xs os x os' h=>by obtain⟨_,_,rfl,rfl,_,rfl⟩:=h; exact⟨by show 1<=9; decide,by show 1<=1; decide⟩) 9 rfl ?_;rintro xs os x os' w0 G0 B0 ⟨items,hi,rfl,rfl,rfl,rfl⟩ _;refine zSg [1] [] rfl ?_;refine zSV ?_;refine⟨_,_,⟨items,hi,rfl,rfl,rfl,rfl⟩,?_⟩
 refine zAg ?_;unfold zAM;exact⟨_,Le.rename [(0,0)] [(2,.s (.sl 4 (Nd.encs (.mk 3 [49] 0 []::items)))),(3,.s (.int .i64 0))] [(0,.row 24 4 [[.int .i64 3,.str [49],.int .i64 0,.sl 4 []]])] 1 ⟨rfl,rfl,trivial⟩ ⟨rfl,⟨_,rfl,rfl⟩,trivial⟩ rfl rfl rfl rfl rfl,rfl,rfl,rfl,rfl,trivial⟩
def zEl:zAp:=zA5 fun xs os x os'=>∃ items:List Nd,items.length<1000000/\xs=[.agg [.s (.int .i64 1),.s (.sl 1 []),.s (.int .i64 0),.s (.int .i64 0),.orow 0,.s (.int .i64 0),.s (.str []),.s (.str []),.s (.sl 4 (Nd.encs items))]]/\os=[.row 24 4 [[.int .i64 3,.str [49],.int .i64 0,.sl 4 []]]]/\x = .tup [.s (.sl 4 (Nd.encs (.mk 3 [49] 0 []::items))),.s (.int .i64 0)]/\os'=[some (.row 24 4 [[.int .i64 3,.str [49],.int .i64 0,.sl 4 []]])]
theorem zGi:PSound Try.prog 58 zEl:=by
 have gok:∀ f s,look? f [(76,zCF),(77,zD0)]=some s->PSound Try.prog f s:=zAm (by
  simp only[List.forall_mem_cons]
  exact⟨zDR,zFR,by simp⟩)
 refine zBm tokW Try.call58 Try.func58 rfl (fun xs os x os' h=>by obtain⟨_,_,rfl,rfl,_,rfl⟩:=h; exact⟨by show 1<=41; decide,by show 1<=1; decide⟩) 41 rfl ?_;rintro xs os x os' w0 G0 B0 ⟨items,hi,rfl,rfl,rfl,rfl⟩ _;have he:zBg (oX,items)=some 0:=by
  unfold zBg oX;have h1:decide ((items.length:Int)<0)=false:=decide_eq_false (by omega)
  have h2:decide (IntKind.i64.wrap (items.length:Int)<0)=false:=decide_eq_false (by rw[wrap64_in (by omega) (by omega)]; omega)
  simp[h1,h2]
 refine zSg [1] [] rfl ?_;refine zAa ?_;refine zSV ?_;refine⟨_,⟨_,_,he,rfl,rfl⟩,?_⟩
 refine zSV ?_;refine zAl rfl (fun hb=>by cases hb) (fun hb=>?_)
 refine zAe ?_;refine zAa ?_;refine zSV ?_;refine zAi ?_;refine zSV ?_;refine zAl rfl (fun hb=>?_) (fun hb=>by cases hb)
 refine zSV ?_;refine⟨_,_,⟨items,hi,rfl,rfl,rfl,rfl⟩,?_⟩
 refine zAg ?_;unfold zAM;exact⟨_,Le.rename [(0,0)] [(2,.s (.sl 4 (Nd.encs (.mk 3 [49] 0 []::items)))),(3,.s (.int .i64 0))] [(0,.row 24 4 [[.int .i64 3,.str [49],.int .i64 0,.sl 4 []]])] 1 ⟨rfl,rfl,trivial⟩ ⟨rfl,⟨_,rfl,rfl⟩,trivial⟩ rfl rfl rfl rfl rfl,rfl,rfl,rfl,rfl,trivial⟩
def zIy:zAp:=zA5 fun xs os x os'=>∃ (f:Nat) (k c rk rc yk yc:Int) (t rt yt:List UInt8) (ks items ys:List Nd),items.length<1000000/\zAv f (.mk k t c ks)=some true/\zBD f oX=some true/\zCs f (.mk k t c ks) []=some (.mk rk rt rc items,0)/\zBW f (.mk k t c ks) [] (.mk rk rt rc (.mk 3 [49] 0 []::items))=some (.mk yk yt yc ys,0)/\xs=[.agg [.s (.int .i64 k),.s (.str t),.s (.int .i64 c),.s (.sl 4 (Nd.encs ks))],.agg [.s (.int .i64 1),.s (.sl 1 []),.s (.int .i64 0),.s (.int .i64 0),.orow 0,.s (.int .i64 0),.s (.str []),.s (.str [])]]/\os=[.row 24 4 [[.int .i64 3,.str [49],.int .i64 0,.sl 4 []]]]/\x = .tup [.agg [.s (.int .i64 yk),.s (.str yt),.s (.int .i64 yc),.s (.sl 4 (Nd.encs ys))],.s (.int .i64 0)]/\os'=[some (.row 24 4 [[.int .i64 3,.str [49],.int .i64 0,.sl 4 []]])]
theorem zKP:PSound Try.prog 38 zIy:=by
 have gok:∀ f s,look? f [(24,zBj),(56,zFw),(57,zIb),(58,zEl),(59,zHc)]=some s->PSound Try.prog f s:=zAm (by
  simp only[List.forall_mem_cons]
  exact⟨zBi,zG0,zJ4,zGi,zIU,by simp⟩)
 refine zBm tokW Try.call38 Try.func38 rfl (fun xs os x os' h=>by obtain⟨_,_,_,_,_,_,_,_,_,_,_,_,_,_,_,_,_,_,rfl,rfl,_,rfl⟩:=h; exact⟨by show 2<=53; decide,by show 1<=1; decide⟩) 53 rfl ?_;rintro xs os x os' w0 G0 B0 ⟨f,k,c,rk,rc,yk,yc,t,rt,yt,ks,items,ys,hi,hv,hf,hr,hw,rfl,rfl,rfl,rfl⟩ _;refine zSg [3,4] [] rfl ?_;refine zAa ?_;refine zSV ?_;refine⟨_,⟨f,_,_,hv,rfl,rfl⟩,?_⟩
 refine zAl rfl (fun hb=>by cases hb) (fun hb=>?_)
 refine zAe ?_;refine zAa ?_;refine zSV ?_;refine⟨_,⟨f,_,_,hf,rfl,rfl⟩,?_⟩
 refine zAl rfl (fun hb=>by cases hb) (fun hb=>?_)
 refine zAe ?_;refine zSg [6] [] rfl ?_;refine⟨_,⟨f,_,_,_,_,hr,rfl,rfl⟩,?_⟩
 refine zAa ?_;refine zSV ?_;refine zAl rfl (fun hb=>by cases hb) (fun hb=>?_)
 refine zAe ?_;refine zSV ?_;refine⟨_,_,⟨items,hi,rfl,rfl,rfl,rfl⟩,?_⟩
 refine zAa ?_;refine zSV ?_;refine zAl rfl (fun hb=>by cases hb) (fun hb=>?_)
 refine zAe ?_;refine zSg [8] [] rfl ?_;refine⟨_,⟨f,_,_,_,_,_,hw,rfl,rfl⟩,?_⟩
 refine zAa ?_;refine zSV ?_;refine zAl rfl (fun hb=>by cases hb) (fun hb=>?_)
 refine zAe ?_;refine zSV ?_;refine zAg ?_;unfold zAM;exact⟨_,Le.rename [(0,0),(2,1)] [(4,.op 1 0),(5,.s (.int .i64 0))] [(0,.row 24 4 [[.int .i64 3,.str [49],.int .i64 0,.sl 4 []]]),(1,.box 24 [.s (.int .i64 yk),.s (.str yt),.s (.int .i64 yc),.s (.sl 4 (Nd.encs ys))])] 2 ⟨rfl,rfl,trivial⟩ ⟨rfl,⟨_,rfl,rfl⟩,rfl,⟨_,rfl,rfl⟩,trivial⟩ rfl rfl rfl rfl rfl,rfl,rfl,rfl,rfl,trivial⟩
def zFT:zAp:=zA5 fun xs os x os'=>∃ (f:Nat) (k c rk rc yk yc:Int) (t rt yt:List UInt8) (ks items ys:List Nd),items.length<1000000/\zAv f (.mk k t c ks)=some true/\zBD f oX=some true/\zCs f (.mk k t c ks) []=some (.mk rk rt rc items,0)/\zBW f (.mk k t c ks) [] (.mk rk rt rc (.mk 3 [49] 0 []::items))=some (.mk yk yt yc ys,0)/\zAE (.mk k t c ks)=some (.mk k t c ks)/\xs=[.agg [.s (.int .i64 k),.s (.str t),.s (.int .i64 c),.s (.sl 4 (Nd.encs ks))],.orow 0]/\os=[.arow 35 8 [[.s (.int .i64 1),.s (.sl 1 []),.s (.int .i64 0),.s (.int .i64 0),.orow 1,.s (.int .i64 0),.s (.str []),.s (.str [])]],.row 24 4 [[.int .i64 3,.str [49],.int .i64 0,.sl 4 []]]]/\x = .tup [.agg [.s (.int .i64 yk),.s (.str yt),.s (.int .i64 yc),.s (.sl 4 (Nd.encs ys))],.s (.int .i64 0),.s (.int .i64 0)]/\os'=[some (.arow 35 8 [[.s (.int .i64 1),.s (.sl 1 []),.s (.int .i64 0),.s (.int .i64 0),.orow 1,.s (.int .i64 0),.s (.str []),.s (.str [])]]),some (.row 24 4 [[.int .i64 3,.str [49],.int .i64 0,.sl 4 []]])]
theorem zIk:PSound Try.prog 26 zFT:=by
 have gok:∀ f s,look? f [(24,zBj),(25,zBq),(38,zIy)]=some s->PSound Try.prog f s:=zAm (by
  simp only[List.forall_mem_cons]
  exact⟨zBi,zBl,zKP,by simp⟩)
 refine zBm tokW Try.call26 Try.func26 rfl (fun xs os x os' h=>by obtain⟨_,_,_,_,_,_,_,_,_,_,_,_,_,_,_,_,_,_,_,rfl,rfl,_,rfl⟩:=h; exact⟨by show 2<=39; decide,by show 2<=2; decide⟩) 39 rfl ?_;rintro xs os x os' w0 G0 B0 ⟨f,k,c,rk,rc,yk,yc,t,rt,yt,ks,items,ys,hi,hv,hf,hr,hw,hd,rfl,rfl,rfl,rfl⟩ _;refine zSg [4] [] rfl ?_;refine zAa ?_;refine zSV ?_;refine⟨_,⟨f,_,_,hv,rfl,rfl⟩,?_⟩
 refine zAl rfl (fun hb=>by cases hb) (fun hb=>?_)
 refine zAe ?_;refine zSg [7] [] rfl ?_;refine⟨_,⟨_,_,hd,rfl,rfl⟩,?_⟩
 refine zAa ?_;refine zSV ?_;refine zAi ?_;refine zDU ?_;refine zAI ?_;refine zSV ?_;refine zAa ?_;refine zAl rfl (fun hb=>?_) (fun hb=>by cases hb)
 refine zAe ?_;refine zAa ?_;refine zAi ?_;refine zSg [9] [] rfl ?_;refine And.intro (show(0:Int)<=0/\(0:Int)<1 by decide) ?_;refine⟨show 0<1 by decide,_,rfl,?_⟩
 refine zSg [10] [] rfl ?_;refine⟨_,_,⟨f,k,c,rk,rc,yk,yc,t,rt,yt,ks,items,ys,hi,hv,hf,hr,hw,rfl,rfl,rfl,rfl⟩,?_⟩
 refine zAa ?_;refine zSV ?_;refine zAl rfl (fun hb=>by cases hb) (fun hb=>?_)
 refine zAe ?_;refine zSU ?_;refine zAb [] [37] rfl ?_;intro u hu;obtain rfl:u=(1:Int):=hu.trans rfl;show TriL _ _ _ _;refine zAI ?_;refine zSV ?_;refine zAa ?_;refine zAl rfl (fun hb=>by cases hb) (fun hb=>?_)
 refine zAx ?_;refine zSV ?_;refine zAg ?_;unfold zAM;exact⟨_,Le.rename [(0,0),(1,1),(2,2)] [(4,.op 2 0),(5,.s (.int .i64 0)),(6,.s (.int .i64 0))] [(0,.arow 35 8 [[.s (.int .i64 1),.s (.sl 1 []),.s (.int .i64 0),.s (.int .i64 0),.orow 1,.s (.int .i64 0),.s (.str []),.s (.str [])]]),(1,.row 24 4 [[.int .i64 3,.str [49],.int .i64 0,.sl 4 []]]),(2,.box 24 [.s (.int .i64 yk),.s (.str yt),.s (.int .i64 yc),.s (.sl 4 (Nd.encs ys))])] 3 ⟨rfl,rfl,rfl,trivial⟩ ⟨rfl,⟨_,rfl,rfl⟩,rfl,⟨_,rfl,rfl⟩,rfl,⟨_,rfl,rfl⟩,trivial⟩ rfl rfl rfl rfl rfl,rfl,rfl,rfl,rfl,rfl,rfl,trivial⟩
end Go.Proofs.Ytffhjiplcfncdaa
namespace Go.Abs
def AV.free:AV->Bool
 | .s (.sl _ (_::_))=>false
 | .s (.pt _)=>false
 | .agg _ | .tup _ | .clo _ _=>false
 | _=>true
def Ob.free:Ob->Bool
 | .box _ cells=>cells.all AV.free
 | .row ..=>false
 | .arow _ _ rows=>rows.flatten.all AV.free
theorem AVal.free {G G':Nat->Prop}{w w':World}{β:Nat->Value}{x:AV}{v:Value} (hx:x.free=true) (h:AVal G w β x v):AVal G' w' β x v:=by
 cases x with
 | s x =>
  cases x with
  | sl sz rows =>
   cases rows with
   | nil =>
    simp only[AVal,Rep]at h ⊢;rcases h with h | ⟨b,off,cap,h1,h2,_⟩
    ·exact .inl h
    ·exact .inr ⟨b,off,cap,h1,h2,trivial⟩
   | cons r rs=>cases hx
  | pt row=>cases hx
  | _=>simp only[AVal,Rep]at h ⊢; exact h
 | agg=>cases hx
 | tup=>cases hx
 | clo=>cases hx
 | junk=>simp only[AVal]
 | _=>simp only[AVal]at h ⊢; exact h
theorem ObAt.free {c:Cx}{G G':Nat->Prop}{w:World}{β:Nat->Value}{v:Value}{ob:Ob} (hf:ob.free=true) (hg:∀ b,¬ G b->¬ G' b) (h:ObAt c G w β v ob):ObAt c G' w β v ob:=by
 cases ob with
 | box t xs =>
  obtain⟨b,e,cur,q1,q2,q3,q4,q5,q6⟩:=h;refine⟨b,e,cur,q1,q2,hg b q3,q4,AVals.mk q5.length fun i x v hx hv=>?_,q6⟩
  obtain⟨v',hv',hr⟩:=q5.get hx;rw[hv]at hv'; cases hv'
  exact hr.free (List.all_eq_true.1 hf x (List.mem_of_getElem? hx))
 | row=>cases hf
 | arow e sz rows =>
  obtain⟨q1,q2,q3⟩:=h;refine⟨q1,q2,q3.imp id ?_⟩
  rintro⟨b,cap,cur,g1,g2,g3,g4,g5,g6,g7⟩
  exact⟨b,cap,cur,g1,g2,g3,g4,hg b g5,g6,fun i x hi=>let ⟨u,hu,hr',h1⟩:=g7 i x hi; ⟨u,hu,hr'.free (List.all_eq_true.1 hf x (List.mem_of_getElem? hi)),h1⟩⟩
theorem AVals.free {G G':Nat->Prop}{w w':World}{β:Nat->Value}{xs:List AV}{vs:List Value} (hx:xs.all AV.free=true) (h:AVals G w β xs vs):AVals G' w' β xs vs :=
 AVals.mk h.length fun i x v hx' hv=>by
  obtain⟨v',hv',hr⟩:=h.get hx';rw[hv]at hv'; cases hv'
  exact hr.free (List.all_eq_true.1 hx x (List.mem_of_getElem? hx'))
theorem zRI {k:Nat}{r:List AV}:∀ {cs:List S},k∈AV.keysAll (cs.map AV.s++r)->k∈AV.keysAll r
 | [],h=>h
 | c::cs,h=>zRI (cs:=cs) (by simpa [AV.keysAll,AV.keys] using h)
theorem zRJ {hp:Nat->Option Ob}{r:List AV}:∀ (cs:List S),AV.lendAll hp (cs.map AV.s++r)=cs.map AV.s++AV.lendAll hp r
 | []=>rfl
 | c::cs=>by simp only[List.map_cons,List.cons_append,AV.lendAll,AV.lend,zRJ cs]
theorem zRL {r:List AV} (h:AV.persAll r=true):∀ (cs:List S),AV.persAll (cs.map AV.s++r)=true
 | []=>h
 | c::cs=>by simp only[List.map_cons,List.cons_append,AV.persAll,AV.pers,Bool.true_and]; exact zRL h cs
theorem PSound.lendTop {P:Program}{f e sz:Nat}{R:List AV->(Nat->Option Ob)->Nat->(AV->(Nat->Option Ob)->Nat->Prop)->Prop}{S:List S->List (List S)->AV->Prop} (h:PSound P f (zL2 R))
  (hS:∀ cs rs y,S cs rs y->y.pers=true/\R [.agg (cs.map .s++[.s (.sl sz rs)])] (fun _=>none) 0 fun x hp n=>∃ xs hpD,x = .agg xs/\xs.all AV.free=true/\RdV hpD x y/\∀ k ob,hpD k=some ob->hp k=some ob/\ob.free=true) :
  PSound P f (zA5 fun xs os x os'=>∃ cs rs,S cs rs x/\xs=[.agg (cs.map .s++[.orow 0])]/\os=[.row e sz rs]/\os'=[some (.row e sz rs)]):=by
 refine PSound.ofOwn h.1 fun G w β xs vs os x os' hlt hgl hv hxl hob ⟨cs,rs,hs,hx,ho,ho'⟩=>?_
 subst hx; subst ho; subst ho'
 obtain⟨hy,hR⟩:=hS cs rs x hs;have hob0:=(hob.1 0 (.row e sz rs) rfl).1
 let σ0:St:=⟨fun _=>.junk,fun k=>if k=0 then some (.row e sz rs) else none,1⟩
 have hc0:Conc (zEP P w β 1 G 0) G β σ0 { tmps:=#[],defers:=[] } w:={
  defers:=rfl
  size:=rfl
  env:=fun t=>by simp only[σ0,AVal]
  envlt:=fun t=>rfl
  hp:=fun k ob hk=>by
   simp only[σ0]at hk;split at hk
   ·rename_i e; subst e; cases hk; exact hob0
   ·cases hk
  hplt:=fun k ob hk=>by
   simp only[σ0]at hk;split at hk
   ·rename_i e; subst e; cases hk; exact⟨Nat.lt_succ_self 0,rfl⟩
   ·cases hk
  inj:=fun k k' ob ob' hk hk' hne=>by
   simp only[σ0]at hk hk';split at hk
   ·rename_i e1; split at hk'
    ·rename_i e2; exact absurd (e1.trans e2.symm) hne
    ·cases hk'
   ·cases hk
  lt:=hlt
  sub:=fun b hb=>hb
  new:=fun b hb=>.inl hb
  fr:=.refl _ _
  stay:=⟨Nat.le_refl _,fun k _=>rfl⟩
  glob:=hgl }
 have hv1:=AVals.lend hc0 (ks:=[0]) (fun k hk=>by
  have h1:k∈AV.keysAll (cs.map AV.s++[.orow 0]):=by simpa [AV.keysAll,AV.keys] using hk
  simpa [AV.keysAll,AV.keys] using zRI h1) hv
 have hlend:AV.lendAll σ0.hp [.agg (cs.map .s++[.orow 0])]=[.agg (cs.map .s++[.s (.sl sz rs)])]:=by
  simp only[AV.lendAll,AV.lend,zRJ]
  rfl
 rw[hlend]at hv1;have hG1:∀ b,zI6 G β σ0 [0] b->G b∨blk (β 0)=some b:=fun b hb=>hb.imp id fun⟨k,ob,hk,_,h⟩=>by rw[← List.mem_singleton.1 hk]; exact h
 have hlt1:∀ b,zI6 G β σ0 [0] b->b<w.heap.size:=fun b hb=>(hG1 b hb).elim (hlt b) fun h=>hc0.blk_lt (k:=0) (ob:=.row e sz rs) rfl h
 have hk1:Keep G (zI6 G β σ0 [0]) w w:=⟨fun _ h=>.inl h,fun _ _=>rfl⟩
 have hpl:AV.persAll [.agg (cs.map .s++[.s (.sl sz rs)])]=true:=by
  have:AV.persAll (cs.map .s++[.s (.sl sz rs)])=true:=zRL rfl cs;simp only[AV.persAll,AV.pers,this,Bool.and_true]
 refine(h.2.2.2 R rfl (zI6 G β σ0 [0]) w β _ vs (fun _=>none) 0 _ hlt1 (hgl.keep hk1) hv1 (AV.persAll_lt hpl) ⟨fun k ob hk=>(by cases hk),fun k ob hk=>(by cases hk),fun k k' ob ob' hk=>(by cases hk)⟩ hR).mono ?_;rintro e' w' ⟨v,G',β',x',hp',n',rfl,⟨xs,hpD,rfl,hxf,hrd,hD⟩,hn,hfr,hsub,hnew,hlt',hx,hxl',hobs,hst⟩
 have hold:∀ b,b<w.heap.size->w'.heap[b]? = w.heap[b]?:=fun b hb=>hfr.old b hb (by rintro⟨k,ob,h,_⟩; cases h)
 have hmine:∀ b,(zC4 P w β (fun _=>none) 0 (zI6 G β σ0 [0]) 0).mine b->w.heap.size<=b:=fun b hb=>by
  rcases hb with ⟨k,ob,h,_⟩ | h
  ·cases h
  ·exact h
 let G3:Nat->Prop:=fun b=>G' b/\blk (β 0) ≠ some b
 have hGG3:∀ b,G b->G3 b:=fun b hb=>⟨hsub b (.inl hb),fun e=>(row_block hob0 b e).1 hb⟩
 have hk3:Keep G G3 w w':=⟨hGG3,fun b hb=>hold b (hlt b hb)⟩
 let c:Cx:={ zC4 P w β (fun _=>none) 0 G 0 with G0:=G }
 have hnew3:∀ b,G3 b->G b∨w.heap.size<=b:=fun b hb=>by
  rcases hnew b hb.1 with h | h
  ·exact(hG1 b h).imp id fun h=>absurd h hb.2
  ·exact .inr (hmine b h)
 have hc:Conc c G3 β' ⟨fun _=>.junk,hpD,n'⟩ { tmps:=#[],defers:=[] } w':={
  defers:=rfl
  size:=rfl
  env:=fun t=>by simp only[AVal]
  envlt:=fun t=>rfl
  hp:=fun k ob hk=>((hobs.obs k ob (hD k ob hk).1).mv (c2:=c) fun b _ h=>.inr (hmine b h)).free (hD k ob hk).2 fun b hb hb'=>hb hb'.1
  hplt:=fun k ob hk=>hobs.lts k ob (hD k ob hk).1
  inj:=fun k k' ob ob' hk hk'=>hobs.inj k k' ob ob' (hD k ob hk).1 (hD k' ob' hk').1
  lt:=fun b hb=>hlt' b hb.1
  sub:=hGG3
  new:=fun b hb=>(hnew3 b hb).imp id .inr
  fr:=⟨hfr.os,hfr.tape,hfr.output,hfr.size,fun b hb _=>hold b hb⟩
  stay:=⟨hn,hst⟩
  glob:=hgl.keep hk3 }
 have hb0:∀ b,blk (β 0)=some b->b<w.heap.size:=fun b hb=>hc0.blk_lt (k:=0) (ob:=.row e sz rs) rfl hb
 have hD0:∀ b,(∃ k ob,hpD k=some ob/\blk (β' k)=some b)->w.heap.size<=b:=fun b ⟨k,ob,h1,h2⟩=>hmine b (row_block (hobs.obs k ob (hD k ob h1).1) b h2).2
 have hxa:AVal G3 w' β' (.agg xs) v:=by
  simp only[AVal]at hx ⊢;obtain⟨us,h1,h2⟩:=hx;exact⟨us,h1,h2.free hxf⟩
 have hk4:Keep G (allG G3 β' hpD) w w':=⟨fun b hb=>.inl (hGG3 b hb),hk3.same⟩
 refine⟨v,allG G3 β' hpD,β,rfl,⟨hfr.os,hfr.tape,hfr.output,hfr.size,fun b hb _=>hold b hb⟩,fun b hb=>.inl (hGG3 b hb),fun b hb=>?_,fun b hb=>?_,(hrd.aval hc hxa).pers hy,?_,Nat.le_refl _,⟨fun i ob hi=>?_,fun i j ob ob' hi hj hne=>?_⟩,fun i ob hi _=>rfl⟩
 ·rcases hb with hb | hb
  ·exact(hnew3 b hb).imp id .inr
  ·exact .inr (.inr (hD0 b hb))
 ·rcases hb with hb | ⟨k,ob,h1,h2⟩
  ·exact hlt' b hb.1
  ·exact hc.blk_lt h1 h2
 ·exact hrd.lt _
 ·match i,hi with
  | 0,hi =>
   cases hi;refine⟨?_,rfl⟩
   obtain⟨hl,hz,ho⟩:=hob0;refine⟨hl,hz,?_⟩
   rcases ho with h1 | ⟨b,cap,cur,h1,h2,h3,h4,h5,h6,h7⟩
   ·exact .inl h1
   ·have hbl:b<w.heap.size:=h4.lt;refine .inr ⟨b,cap,cur,h1,h2,h3,h4.to fun x hx=>by rw[hold b hbl]; exact hx,?_,h6,fun i s hi=>let ⟨u,hu,hr⟩:=h7 i s hi; ⟨u,hu,hr.keep hk4⟩⟩
    rintro(hb | hb)
    ·exact hb.2 (by rw[h1]; rfl)
    ·exact Nat.lt_irrefl _ (Nat.lt_of_lt_of_le hbl (hD0 b hb))
  | i+1,hi=>simp at hi
 ·match i,j,hi,hj with
  | 0,0,_,_=>exact absurd rfl hne
  | 0,j+1,_,hj=>simp at hj
  | i+1,_,hi,_=>simp at hi
theorem Le.nrmA {c:Cx}{σ:St} (k:Nat){e sz:Nat}{rows:List (List AV)} (hk:σ.hp k=some (.arow e sz rows)):Le c σ (zDi σ k (.arow e sz (rows.map (·.map AV.nrm)))):=by
 unfold Le;intro G β a w hc;have hn:∀ x:AV,x.nrm=x∨∃ sz,x = .nl sz:=fun x=>by cases x <;> first | exact .inl rfl | exact .inr ⟨_,rfl⟩
 have hl:∀ {n:Nat} {x:AV},x.lt n=true->x.nrm.lt n=true:=fun {n x} h=>by
  rcases hn x with e | ⟨_,rfl⟩
  ·rw[e]; exact h
  ·rfl
 have hfl:(rows.map (·.map AV.nrm)).flatten=rows.flatten.map AV.nrm :=(by rw[List.map_flatten]);have hget:∀ {k' ob},(zDi σ k (.arow e sz (rows.map (·.map AV.nrm)))).hp k'=some ob->(k'=k/\ob = .arow e sz (rows.map (·.map AV.nrm)))∨(k' ≠ k/\σ.hp k'=some ob):=fun {k' ob} h=>by
  simp only[zDi]at h;cases e1:Nat.beq k' k with
  | true=>rw[e1,cond_true]at h; cases h; exact .inl ⟨Nat.eq_of_beq_eq_true e1,rfl⟩
  | false=>rw[e1,cond_false]at h; exact .inr ⟨Nat.ne_of_beq_eq_false e1,h⟩
 have hold:∀ {k' ob},(zDi σ k (.arow e sz (rows.map (·.map AV.nrm)))).hp k'=some ob->∃ ob0,σ.hp k'=some ob0:=fun h=>by
  rcases hget h with ⟨rfl,_⟩ | ⟨_,h⟩
  ·exact⟨_,hk⟩
  ·exact⟨_,h⟩
 refine⟨G,β,{ hc with hp:=fun k' ob h=>?_,hplt:=fun k' ob h=>?_,inj:=fun k1 k2 o1 o2 h1 h2=>?_ }⟩
 ·rcases hget h with ⟨rfl,rfl⟩ | ⟨_,h⟩
  ·obtain⟨h0,h1,h2⟩:=hc.hp k' _ hk;refine⟨fun r hr=>?_,h1,h2.imp (fun h=>⟨h.1,by rw[h.2]; rfl⟩) ?_⟩
   ·obtain⟨r0,hr0,rfl⟩:=List.mem_map.1 hr;rw[List.length_map]; exact h0 r0 hr0
   ·rintro⟨b,cap,cur,g1,g2,g3,g4,g5,g6,g7⟩
    refine⟨b,cap,cur,by rw[List.length_map]; exact g1,by rw[List.length_map]; exact g2,g3,g4,g5,g6,fun i x hi=>?_⟩
    rw[hfl,List.getElem?_map]at hi;obtain⟨y,hy,rfl⟩:=Option.map_eq_some_iff.1 hi;obtain⟨u,hu,hr,h1⟩:=g7 i y hy;exact⟨u,hu,hr.nrm,h1⟩
  ·exact hc.hp k' ob h
 ·rcases hget h with ⟨rfl,rfl⟩ | ⟨_,h⟩
  ·obtain⟨h1,h2⟩:=hc.hplt k' _ hk;refine⟨h1,?_⟩
   simp only[Ob.lt,hfl]at h2 ⊢;refine zHP fun q y hq=>?_
   rw[List.getElem?_map]at hq;obtain⟨z,hz,rfl⟩:=Option.map_eq_some_iff.1 hq;exact hl (zGu h2 hz)
  ·exact hc.hplt k' ob h
 ·obtain⟨_,g1⟩:=hold h1;obtain⟨_,g2⟩:=hold h2;exact hc.inj k1 k2 _ _ g1 g2
end Go.Abs
namespace Go.Proofs.Ytffhjiplcfncdaa
open Go.Abs
theorem zHl {k c:Int}{t:List UInt8}{v:AV} (h:v.free=true):(zAK k t c v).all AV.free=true:=by
 show(true&&(true&&(true&&(v.free&&true))))=true;rw[h]; rfl
mutual
theorem At.freeV {hp:Nat->Option Ob}{e:Nat}{p:AV}:∀ {t:Nd}{keys:List Nat}{w:Nat},At hp e p t keys [] w->(∀ cs,zAA hp p=some cs->cs.all AV.free=true)/\∀ k∈keys,∃ ob,hp k=some ob/\ob.free=true
 | .mk k t c ks,keys,w,h=>by
  simp only[At]at h
  obtain⟨v,hc,⟨_,_,h,_⟩ | ⟨rfl,rfl,rfl,_,_⟩ | ⟨q,rows,keys',rfl,hq,hlen,rfl,h⟩⟩:=h
  ·cases h
  ·refine⟨fun cs hcs=>?_,fun k hk=>by cases hk⟩
   rw[hc]at hcs; cases hcs
   exact zHl rfl
  ·refine⟨fun cs hcs=>?_,fun k hk=>?_⟩
   ·rw[hc]at hcs; cases hcs
    exact zHl rfl
   obtain⟨h1,h2⟩:=LAt.freeV hq h
   rcases List.mem_cons.1 hk with rfl | hk
   ·refine⟨_,hq,?_⟩
    simp only[Ob.free,List.all_eq_true]
    intro x hx
    obtain⟨r,hr,hx⟩:=List.mem_flatten.1 hx
    obtain⟨j,hj,rfl⟩:=List.mem_iff_getElem.1 hr
    exact List.all_eq_true.1 (h1 j (by omega) (by rw[← hlen]; omega) _ (List.getElem?_eq_getElem hj)) x hx
   ·exact h2 k hk
theorem LAt.freeV {hp:Nat->Option Ob}{e q i:Nat}{rows:List (List AV)} (hq:hp q=some (.arow e 4 rows)):∀ {ts:List Nd}{keys:List Nat}{w:Nat},LAt hp e q i ts keys [] w->(∀ j,i<=j->j<i+ts.length->∀ r,rows[j]? = some r->r.all AV.free=true)/\∀ k∈keys,∃ ob,hp k=some ob/\ob.free=true
 | [],keys,w,h=>by
  simp only[LAt]at h
  obtain⟨rfl,_,_⟩:=h
  exact⟨fun j h1 h2=>by simp at h2; omega,fun k hk=>by cases hk⟩
 | t::ts,keys,w,h=>by
  simp only[LAt]at h
  obtain⟨k1,k2,p1,p2,w1,w2,rfl,hp,rfl,h1,h2⟩:=h
  obtain⟨rfl,rfl⟩:=List.append_eq_nil_iff.1 hp.symm
  obtain⟨a1,a2⟩:=At.freeV h1
  obtain⟨b1,b2⟩:=LAt.freeV hq h2
  refine⟨fun j hj hj2 r hr=>?_,fun k hk=>(List.mem_append.1 hk).elim (a2 k) (b2 k)⟩
  by_cases e:j=i
  ·subst e
   exact a1 r ((zDp hq).trans hr)
  ·exact b1 j (by omega) (by simp only[List.length_cons]at hj2; omega) r hr
end
theorem VAt.freeV {hp:Nat->Option Ob}{e:Nat}{v:AV}{ks:List Nd}{keys:List Nat} (h:VAt hp e v ks keys):v.free=true/\∀ k∈keys,∃ ob,hp k=some ob/\ob.free=true:=by
 rcases h with ⟨rfl,rfl,rfl⟩ | ⟨q,rows,keys',w,rfl,hq,hlen,rfl,h⟩
 ·exact⟨rfl,fun k hk=>by cases hk⟩
 ·refine⟨rfl,fun k hk=>?_⟩
  obtain⟨h1,h2⟩:=LAt.freeV hq h;rcases List.mem_cons.1 hk with rfl | hk
  ·refine⟨_,hq,?_⟩
   simp only[Ob.free,List.all_eq_true]
   intro x hx;obtain⟨r,hr,hx⟩:=List.mem_flatten.1 hx;obtain⟨j,hj,rfl⟩:=List.mem_iff_getElem.1 hr;exact List.all_eq_true.1 (h1 j (by omega) (by rw[← hlen]; omega) _ (List.getElem?_eq_getElem hj)) x hx
  ·exact h2 k hk
def zFJ:zAp:=zA5 fun xs os x os'=>∃ (k c:Int) (t:List UInt8) (ks:List Nd),zAE (.mk k t c ks)=some (.mk k t c ks)/\xs=[.agg [.s (.int .i64 k),.s (.str t),.s (.int .i64 c),.orow 0]]/\os=[.row 24 4 (Nd.encs ks)] /\
 x = .agg [.s (.int .i64 k),.s (.str t),.s (.int .i64 c),.s (.sl 4 (Nd.encs ks))]/\os'=[some (.row 24 4 (Nd.encs ks))]
def zSp (cs:List S) (rs:List (List S)) (y:AV):Prop:=∃ (k c:Int) (t:List UInt8) (ks:List Nd),zAE (.mk k t c ks)=some (.mk k t c ks)/\cs=[.int .i64 k,.str t,.int .i64 c]/\rs=Nd.encs ks/\y = .agg [.s (.int .i64 k),.s (.str t),.s (.int .i64 c),.s (.sl 4 (Nd.encs ks))]
theorem zIT:PSound Try.prog 25 (zA5 fun xs os x os'=>∃ cs rs,zSp cs rs x/\xs=[.agg (cs.map .s++[.orow 0])]/\os=[.row 24 4 rs]/\os'=[some (.row 24 4 rs)]):=by
 refine PSound.lendTop zEb fun cs rs y ⟨k,c,t,ks,hm,hcs,hrs,hy⟩=>?_
 subst hcs; subst hrs; subst hy
 obtain⟨hq,_⟩:=zAy hm;refine⟨rfl,k,c,t,ks,hq,rfl,fun v hp' n' keys _ _ hv hnd _=>?_⟩
 obtain⟨h1,h2⟩:=hv.freeV;refine⟨zAK k t c v,fun j=>if j∈keys then hp' j else none,rfl,zHl h1,?_,fun j ob hj=>?_⟩
 ·refine zO2 (t:=.mk k t c ks) (RdC.node ?_)
  exact(hv.frame fun j hj=>by
   show(if j∈keys then hp' j else none)=hp' j;rw[if_pos hj]).rd
 ·dsimp only at hj;split at hj
  ·rename_i hm
   obtain⟨ob',e1,e2⟩:=h2 j hm;rw[hj]at e1; cases e1
   exact⟨hj,e2⟩
  ·cases hj
theorem zHV:PSound Try.prog 25 zFJ :=
 PSound.ofOwn zIT.1 fun G w β xs vs os x os' h1 h2 h3 h4 h5 ⟨k,c,t,ks,hm,hx,ho,hr,ho'⟩ =>
  zIT.2.2.1 _ rfl G w β xs vs os x os' h1 h2 h3 h4 h5 ⟨[.int .i64 k,.str t,.int .i64 c],Nd.encs ks,⟨k,c,t,ks,hm,rfl,rfl,hr⟩,hx,ho,ho'⟩
def zGO:zAp:=zA5 fun xs os x os'=>xs=[.orow 0]/\os=[.row 3 1 [[.int .i64 1]]]/\x = .s (.sl 1 [[.int .i64 1]])/\os'=[some (.row 3 1 [[.int .i64 1]])]
theorem zI9:PSound Try.prog 62 zGO:=by
 have gok:=@gok0 Try.prog;refine zBm tokW Try.call62 Try.func62 rfl (fun xs os x os' h=>by obtain⟨rfl,rfl,_,rfl⟩:=h; exact⟨by show 1<=8; decide,by show 1<=1; decide⟩) 8 rfl ?_;rintro xs os x os' w0 G0 B0 ⟨rfl,rfl,rfl,rfl⟩ _;refine zSV ?_;refine zAa ?_;refine zSV ?_;intro b hb;show Tri ..;cases b with
 | true=>exact absurd (hb rfl) (by simp)
 | false =>
 refine zAl rfl (fun hb=>by cases hb) (fun hb=>?_)
 refine zAe ?_;refine zSg [5,7] [] rfl ?_;refine And.intro (show(([]:List (List S)).length+([[.int .i64 1]]:List (List S)).length) * 8<=140737488355328/\_ by decide) ?_;refine zAk (Le.giveRow 2 rfl) ?_;refine zAg ?_;unfold zAM;exact⟨_,Le.rename [(0,0)] [(2,.s (.sl 1 [[.int .i64 1]]))] [(0,.row 3 1 [[.int .i64 1]])] 1 ⟨rfl,trivial⟩ ⟨rfl,⟨_,rfl,rfl⟩,trivial⟩ rfl rfl rfl rfl rfl,rfl,rfl,rfl,rfl,trivial⟩
def zJq:zAp:=zA5 fun xs os x os'=>xs=[.orow 0]/\os=[.row 3 1 [[.int .i64 1]]]/\x = .s (.sl 1 [[.int .i64 1]])/\os'=[some (.row 3 1 [[.int .i64 1]])]
theorem zMm:PSound Try.prog 42 zJq:=by
 have gok:∀ f s,look? f [(62,zGO)]=some s->PSound Try.prog f s:=zAm (by
  simp only[List.forall_mem_cons]
  exact⟨zI9,by simp⟩)
 refine zBm tokW Try.call42 Try.func42 rfl (fun xs os x os' h=>by obtain⟨rfl,rfl,_,rfl⟩:=h; exact⟨by show 1<=5; decide,by show 1<=1; decide⟩) 5 rfl ?_;rintro xs os x os' w0 G0 B0 ⟨rfl,rfl,rfl,rfl⟩ _;refine zSV ?_;refine zSV ?_;refine⟨_,_,⟨rfl,rfl,rfl,rfl⟩,?_⟩
 refine zAg ?_;unfold zAM;exact⟨_,Le.rename [(0,0)] [(2,.s (.sl 1 [[.int .i64 1]]))] [(0,.row 3 1 [[.int .i64 1]])] 1 ⟨rfl,trivial⟩ ⟨rfl,⟨_,rfl,rfl⟩,trivial⟩ rfl rfl rfl rfl rfl,rfl,rfl,rfl,rfl,trivial⟩
theorem zP3:zAE (.mk 3 [49] 0 [])=some (.mk 3 [49] 0 []):=rfl
def zIx:zAp:=zA5 fun xs os x os'=>xs=[.orow 0]/\os=[.row 24 4 [[.int .i64 3,.str [49],.int .i64 0,.sl 4 []]]]/\x = .s (.sl 4 [[.int .i64 3,.str [49],.int .i64 0,.sl 4 []]])/\os'=[some (.row 24 4 [[.int .i64 3,.str [49],.int .i64 0,.sl 4 []]])]
theorem zKO:PSound Try.prog 82 zIx:=by
 have gok:∀ f s,look? f [(25,zBq)]=some s->PSound Try.prog f s:=zAm (by
  simp only[List.forall_mem_cons]
  exact⟨zBl,by simp⟩)
 refine zBm tokW Try.call82 Try.func82 rfl (fun xs os x os' h=>by obtain⟨rfl,rfl,_,rfl⟩:=h; exact⟨by show 1<=20; decide,by show 1<=1; decide⟩) 20 rfl ?_;rintro xs os x os' w0 G0 B0 ⟨rfl,rfl,rfl,rfl⟩ _;refine zSV ?_;refine zSg [3] [] rfl ?_;refine zAa ?_;refine zSV ?_;refine zAi ?_;refine zDU ?_;refine zAI ?_;refine zSV ?_;refine zAa ?_;refine zAl rfl (fun hb=>?_) (fun hb=>by cases hb)
 refine zAe ?_;refine zAa ?_;refine zAi ?_;refine zSV ?_;refine zAb [16,17] [] rfl ?_;refine And.intro (show(0:Int)<=0/\(0:Int)<1 by decide) ?_;refine⟨show 0<1 by decide,_,rfl,?_⟩
 refine⟨_,⟨_,_,zP3,rfl,rfl⟩,?_⟩
 refine And.intro (show(([]:List (List S)).length+([[.int .i64 3,.str [49],.int .i64 0,.sl 4 []]]:List (List S)).length) * 56<=140737488355328/\_ by decide) ?_;refine zAb [] [18] rfl ?_;intro u hu;obtain rfl:u=(1:Int):=hu.trans rfl;show TriL _ _ _ _;refine zAI ?_;refine zSV ?_;refine zAa ?_;refine zAl rfl (fun hb=>by cases hb) (fun hb=>?_)
 refine zAx ?_;refine zSV ?_;refine zAk (Le.giveRow 3 rfl) ?_;refine zAg ?_;unfold zAM;exact⟨_,Le.rename [(0,0)] [(2,.s (.sl 4 [[.int .i64 3,.str [49],.int .i64 0,.sl 4 []]]))] [(0,.row 24 4 [[.int .i64 3,.str [49],.int .i64 0,.sl 4 []]])] 1 ⟨rfl,trivial⟩ ⟨rfl,⟨_,rfl,rfl⟩,trivial⟩ rfl rfl rfl rfl rfl,rfl,rfl,rfl,rfl,trivial⟩
def zIw:zAp:=zA5 fun xs os x os'=>xs=[.s (.sl 4 [[.int .i64 3,.str [49],.int .i64 0,.sl 4 []]])]/\os=[]/\x = .orow 0/\os'=[some (.row 24 4 [[.int .i64 3,.str [49],.int .i64 0,.sl 4 []]])]
theorem zKN:PSound Try.prog 82 zIw:=by
 have gok:∀ f s,look? f [(25,zBq)]=some s->PSound Try.prog f s:=zAm (by
  simp only[List.forall_mem_cons]
  exact⟨zBl,by simp⟩)
 refine zBm tokW Try.call82 Try.func82 rfl (fun xs os x os' h=>by obtain⟨rfl,rfl,_,rfl⟩:=h; exact⟨by show 1<=20; decide,by show 0<=1; decide⟩) 20 rfl ?_;rintro xs os x os' w0 G0 B0 ⟨rfl,rfl,rfl,rfl⟩ _;refine zSV ?_;refine zSg [3] [] rfl ?_;refine zAa ?_;refine zSV ?_;refine zAi ?_;refine zDU ?_;refine zAI ?_;refine zSV ?_;refine zAa ?_;refine zAl rfl (fun hb=>?_) (fun hb=>by cases hb)
 refine zAe ?_;refine zAa ?_;refine zAi ?_;refine zSV ?_;refine zAb [16,17] [] rfl ?_;refine And.intro (show(0:Int)<=0/\(0:Int)<1 by decide) ?_;refine⟨_,⟨_,_,zP3,rfl,rfl⟩,?_⟩
 refine And.intro (show(([]:List (List S)).length+([[.int .i64 3,.str [49],.int .i64 0,.sl 4 []]]:List (List S)).length) * 56<=140737488355328/\_ by decide) ?_;refine zAb [] [18] rfl ?_;intro u hu;obtain rfl:u=(1:Int):=hu.trans rfl;show TriL _ _ _ _;refine zAI ?_;refine zSV ?_;refine zAa ?_;refine zAl rfl (fun hb=>by cases hb) (fun hb=>?_)
 refine zAx ?_;refine zSV ?_;refine zAg ?_;unfold zAM;exact⟨_,Le.rename [(2,0)] [(2,.orow 0)] [(0,.row 24 4 [[.int .i64 3,.str [49],.int .i64 0,.sl 4 []]])] 1 ⟨rfl,trivial⟩ ⟨rfl,⟨_,rfl,rfl⟩,trivial⟩ rfl rfl rfl rfl rfl,rfl,rfl,rfl,rfl,trivial⟩
theorem zP1:zDt []=some []:=rfl
def zMI:zAp:=zA5 fun xs os x os'=>xs=[.agg [.s (.int .i64 1),.s (.sl 1 []),.s (.int .i64 0),.s (.int .i64 0),.orow 0,.s (.int .i64 0),.s (.str []),.s (.str [])]]/\os=[.row 24 4 [[.int .i64 3,.str [49],.int .i64 0,.sl 4 []]]]/\x = .agg [.s (.int .i64 1),.s (.sl 1 []),.s (.int .i64 0),.s (.int .i64 0),.s (.sl 4 [[.int .i64 3,.str [49],.int .i64 0,.sl 4 []]]),.s (.int .i64 0),.s (.str []),.s (.str [])]/\os'=[some (.row 24 4 [[.int .i64 3,.str [49],.int .i64 0,.sl 4 []]])]
theorem zOw:PSound Try.prog 60 zMI:=by
 have gok:∀ f s,look? f [(42,zDn),(82,zIx)]=some s->PSound Try.prog f s:=zAm (by
  simp only[List.forall_mem_cons]
  exact⟨zDQ,zKO,by simp⟩)
 refine zBm tokW Try.call60 Try.func60 rfl (fun xs os x os' h=>by obtain⟨rfl,rfl,_,rfl⟩:=h; exact⟨by show 1<=12; decide,by show 1<=1; decide⟩) 12 rfl ?_;rintro xs os x os' w0 G0 B0 ⟨rfl,rfl,rfl,rfl⟩ _;refine zSg [1,2] [] rfl ?_;refine zSV ?_;refine⟨_,⟨[],[],zP1,rfl,rfl⟩,?_⟩
 refine zSV ?_;refine⟨_,_,⟨rfl,rfl,rfl,rfl⟩,?_⟩
 refine zSV ?_;refine zAg ?_;unfold zAM;exact⟨_,Le.rename [(0,0),(2,1)] [(2,.op 1 0)] [(0,.row 24 4 [[.int .i64 3,.str [49],.int .i64 0,.sl 4 []]]),(1,.box 35 [.s (.int .i64 1),.s (.sl 1 []),.s (.int .i64 0),.s (.int .i64 0),.s (.sl 4 [[.int .i64 3,.str [49],.int .i64 0,.sl 4 []]]),.s (.int .i64 0),.s (.str []),.s (.str [])])] 2 ⟨rfl,trivial⟩ ⟨rfl,⟨_,rfl,rfl⟩,rfl,⟨_,rfl,rfl⟩,trivial⟩ rfl rfl rfl rfl rfl,rfl,rfl,rfl,rfl,trivial⟩
def zMH:zAp:=zA5 fun xs os x os'=>xs=[.agg [.s (.int .i64 1),.s (.sl 1 []),.s (.int .i64 0),.s (.int .i64 0),.s (.sl 4 [[.int .i64 3,.str [49],.int .i64 0,.sl 4 []]]),.s (.int .i64 0),.s (.str []),.s (.str [])]]/\os=[]/\x = .agg [.s (.int .i64 1),.s (.sl 1 []),.s (.int .i64 0),.s (.int .i64 0),.orow 0,.s (.int .i64 0),.s (.str []),.s (.str [])]/\os'=[some (.row 24 4 [[.int .i64 3,.str [49],.int .i64 0,.sl 4 []]])]
theorem zOv:PSound Try.prog 60 zMH:=by
 have gok:∀ f s,look? f [(42,zDn),(82,zIw)]=some s->PSound Try.prog f s:=zAm (by
  simp only[List.forall_mem_cons]
  exact⟨zDQ,zKN,by simp⟩)
 refine zBm tokW Try.call60 Try.func60 rfl (fun xs os x os' h=>by obtain⟨rfl,rfl,_,rfl⟩:=h; exact⟨by show 1<=12; decide,by show 0<=1; decide⟩) 12 rfl ?_;rintro xs os x os' w0 G0 B0 ⟨rfl,rfl,rfl,rfl⟩ _;refine zSg [1,2] [] rfl ?_;refine zSV ?_;refine⟨_,⟨[],[],zP1,rfl,rfl⟩,?_⟩
 refine zSV ?_;refine⟨_,_,⟨rfl,rfl,rfl,rfl⟩,?_⟩
 refine zSV ?_;refine zAg ?_;unfold zAM;exact⟨_,Le.rename [(2,0),(1,1)] [(2,.op 1 0)] [(0,.row 24 4 [[.int .i64 3,.str [49],.int .i64 0,.sl 4 []]]),(1,.box 35 [.s (.int .i64 1),.s (.sl 1 []),.s (.int .i64 0),.s (.int .i64 0),.orow 0,.s (.int .i64 0),.s (.str []),.s (.str [])])] 2 ⟨rfl,trivial⟩ ⟨rfl,⟨_,rfl,rfl⟩,rfl,⟨_,rfl,rfl⟩,trivial⟩ rfl rfl rfl rfl rfl,rfl,rfl,rfl,rfl,trivial⟩
def zK0:zAp:=zA5 fun xs os x os'=>xs=[.orow 0]/\os=[.arow 35 8 [[.s (.int .i64 1),.s (.sl 1 []),.s (.int .i64 0),.s (.int .i64 0),.orow 1,.s (.int .i64 0),.s (.str []),.s (.str [])]],.row 24 4 [[.int .i64 3,.str [49],.int .i64 0,.sl 4 []]]]/\x = .s (.sl 8 [[.int .i64 1,.sl 1 [],.int .i64 0,.int .i64 0,.sl 4 [[.int .i64 3,.str [49],.int .i64 0,.sl 4 []]],.int .i64 0,.str [],.str []]])/\os'=[some (.arow 35 8 [[.s (.int .i64 1),.s (.sl 1 []),.s (.int .i64 0),.s (.int .i64 0),.orow 1,.s (.int .i64 0),.s (.str []),.s (.str [])]]),some (.row 24 4 [[.int .i64 3,.str [49],.int .i64 0,.sl 4 []]])]
theorem zNJ:PSound Try.prog 39 zK0:=by
 have gok:∀ f s,look? f [(60,zMI)]=some s->PSound Try.prog f s:=zAm (by
  simp only[List.forall_mem_cons]
  exact⟨zOw,by simp⟩)
 refine zBm tokW Try.call39 Try.func39 rfl (fun xs os x os' h=>by obtain⟨rfl,rfl,_,rfl⟩:=h; exact⟨by show 1<=19; decide,by show 2<=2; decide⟩) 19 rfl ?_;rintro xs os x os' w0 G0 B0 ⟨rfl,rfl,rfl,rfl⟩ _;refine zSV ?_;refine zSg [3] [] rfl ?_;refine zAa ?_;refine zSV ?_;refine zAi ?_;refine zDU ?_;refine zAI ?_;refine zSV ?_;refine zAa ?_;refine zAl rfl (fun hb=>?_) (fun hb=>by cases hb)
 refine zAe ?_;refine zAa ?_;refine zAi ?_;refine zSg [5] [] rfl ?_;refine And.intro (show(0:Int)<=0/\(0:Int)<1 by decide) ?_;refine⟨show 0<1 by decide,_,rfl,?_⟩
 refine zAb [15,16] [] rfl ?_;refine⟨_,_,⟨rfl,rfl,rfl,rfl⟩,?_⟩
 refine And.intro (show(([]:List (List S)).length+([[.int .i64 1,.sl 1 [],.int .i64 0,.int .i64 0,.sl 4 [[.int .i64 3,.str [49],.int .i64 0,.sl 4 []]],.int .i64 0,.str [],.str []]]:List (List S)).length) * 112<=140737488355328/\_ by decide) ?_;refine zAb [] [17] rfl ?_;intro u hu;obtain rfl:u=(1:Int):=hu.trans rfl;show TriL _ _ _ _;refine zAI ?_;refine zSV ?_;refine zAa ?_;refine zAl rfl (fun hb=>by cases hb) (fun hb=>?_)
 refine zAx ?_;refine zSV ?_;refine zAk (Le.giveRow 5 rfl) ?_;refine zAg ?_;unfold zAM
 exact⟨_,Le.rename [(0,0),(1,1)] [(2,.s (.sl 8 [[.int .i64 1,.sl 1 [],.int .i64 0,.int .i64 0,.sl 4 [[.int .i64 3,.str [49],.int .i64 0,.sl 4 []]],.int .i64 0,.str [],.str []]]))] [(0,.arow 35 8 [[.s (.int .i64 1),.s (.sl 1 []),.s (.int .i64 0),.s (.int .i64 0),.orow 1,.s (.int .i64 0),.s (.str []),.s (.str [])]]),(1,.row 24 4 [[.int .i64 3,.str [49],.int .i64 0,.sl 4 []]])] 2 ⟨rfl,trivial⟩ ⟨rfl,⟨_,rfl,rfl⟩,rfl,⟨_,rfl,rfl⟩,trivial⟩ rfl rfl rfl rfl rfl,rfl,rfl,rfl,rfl,rfl,rfl,trivial⟩
def zKZ:zAp:=zA5 fun xs os x os'=>xs=[.s (.sl 8 [[.int .i64 1,.sl 1 [],.int .i64 0,.int .i64 0,.sl 4 [[.int .i64 3,.str [49],.int .i64 0,.sl 4 []]],.int .i64 0,.str [],.str []]])]/\os=[]/\x = .orow 0/\os'=[some (.arow 35 8 [[.s (.int .i64 1),.s (.sl 1 []),.s (.int .i64 0),.s (.int .i64 0),.orow 1,.s (.int .i64 0),.s (.str []),.s (.str [])]]),some (.row 24 4 [[.int .i64 3,.str [49],.int .i64 0,.sl 4 []]])]
theorem zNI:PSound Try.prog 39 zKZ:=by
 have gok:∀ f s,look? f [(60,zMH)]=some s->PSound Try.prog f s:=zAm (by
  simp only[List.forall_mem_cons]
  exact⟨zOv,by simp⟩)
 refine zBm tokW Try.call39 Try.func39 rfl (fun xs os x os' h=>by obtain⟨rfl,rfl,_,rfl⟩:=h; exact⟨by show 1<=19; decide,by show 0<=2; decide⟩) 19 rfl ?_;rintro xs os x os' w0 G0 B0 ⟨rfl,rfl,rfl,rfl⟩ _;refine zSV ?_;refine zSg [3] [] rfl ?_;refine zAk (Le.toA 0 rfl) ?_;refine zAa ?_;refine zSV ?_;refine zAi ?_;refine zDU ?_;refine zAI ?_;refine zSV ?_;refine zAa ?_;refine zAl rfl (fun hb=>?_) (fun hb=>by cases hb)
 refine zAe ?_;refine zAa ?_;refine zAi ?_;refine zSg [5] [] rfl ?_;refine And.intro (show(0:Int)<=0/\(0:Int)<1 by decide) ?_;refine zAb [15,16] [] rfl ?_;refine⟨_,_,⟨rfl,rfl,rfl,rfl⟩,?_⟩
 refine And.intro (show(([]:List (List AV)).length+([[.s (.int .i64 1),.s (.sl 1 []),.s (.int .i64 0),.s (.int .i64 0),.orow 2,.s (.int .i64 0),.s (.str []),.s (.str [])]]:List (List AV)).length) * 112<=140737488355328/\_ by decide) ?_;refine zAb [] [17] rfl ?_;intro u hu;obtain rfl:u=(1:Int):=hu.trans rfl;show TriL _ _ _ _;refine zAI ?_;refine zSV ?_;refine zAa ?_;refine zAl rfl (fun hb=>by cases hb) (fun hb=>?_)
 refine zAx ?_;refine zSV ?_;refine zAg ?_;unfold zAM;exact⟨_,Le.rename [(4,0),(2,1)] [(2,.orow 0)] [(0,.arow 35 8 [[.s (.int .i64 1),.s (.sl 1 []),.s (.int .i64 0),.s (.int .i64 0),.orow 1,.s (.int .i64 0),.s (.str []),.s (.str [])]]),(1,.row 24 4 [[.int .i64 3,.str [49],.int .i64 0,.sl 4 []]])] 2 ⟨rfl,trivial⟩ ⟨rfl,⟨_,rfl,rfl⟩,rfl,⟨_,rfl,rfl⟩,trivial⟩ rfl rfl rfl rfl rfl,rfl,rfl,rfl,rfl,rfl,rfl,trivial⟩
def zDz (p:zCu):List S:=[.sl 1 ((List.map (irow .i64)) p.1),.sl 1 ((List.map (irow .i64)) p.2)]
def zLE (xs:List AV) (r:Ret):Prop:=∃ (a0:zCu) (y0:zCu),zBV a0=some y0/\xs=[.agg ((zDz a0).map .s)]/\r = .val (.agg ((zDz y0).map .s))
def zC1:zAp:=zAr fun xs r=>zLE xs r
theorem zDC:PSound Try.prog 33 zC1:=by
 have gok:∀ f s,look? f [(42,zDn)]=some s->PSound Try.prog f s:=zAm (by
  simp only[List.forall_mem_cons]
  exact⟨zDQ,by simp⟩)
 refine zAw tokW Try.call33 Try.func33 rfl (fun xs r h=>by obtain⟨_,_,_,rfl,_⟩:=h; show 1<=10; decide) 10 rfl ?_;rintro xs r w0 G0 ⟨⟨c1Am,c1An⟩,y0,h,rfl,rfl⟩ _;rw[zBV]at h;refine zSg [2] [] rfl ?_;refine zAa ?_;refine zBx [] [] [7] rfl (by decide +kernel) ?_;obtain⟨y2,hy2,h⟩:=zAc h;refine⟨_,⟨_,_,hy2,rfl,rfl⟩,?_⟩
 obtain⟨y3,hy3,h⟩:=zAc h;refine⟨_,⟨_,_,hy3,rfl,rfl⟩,?_⟩
 refine zAg ?_;have hy:=osi h;subst hy;exact fin0 rfl rfl
def zAh (p:zRc):List S:=[.sl 8 ((List.map zAs) p.1),.sl 1 ((List.map (irow .i64)) p.2.1.1),.sl 1 ((List.map (irow .i64)) p.2.1.2),.sl 1 ((List.map (irow .i64)) p.2.2.1),.sl 1 ((List.map (irow .i64)) p.2.2.2)]
def zFP (n:Nat) (xs:List AV) (os:List Ob) (x:AV) (os':List (Option Ob)):Prop:=∃ (a0H:Int) (a0I:List UInt8) (a0J:Int) (a0K:List Nd) (a0L:Int) (a0M:List UInt8) (a0N:Int) (a0O:List Nd) (a0F:List zRc) (a0E:Int) (y0:zCu) (y1:Int) (z0H:Int) (z0I:List UInt8) (z0J:Int) (z0K:List Nd) (z0L:Int) (z0M:List UInt8) (z0N:Int) (z0O:List Nd) (z0F:List zRc) (z0E:Int),zCc n (Nd.mk a0H a0I a0J a0K,Nd.mk a0L a0M a0N a0O,a0F,a0E)=some (y0,y1,(Nd.mk z0H z0I z0J z0K,Nd.mk z0L z0M z0N z0O,z0F,z0E))/\xs=[.op 0 0]/\os=[.box 57 [.s (.int .i64 a0H),.s (.str a0I),.s (.int .i64 a0J),.s (.sl 4 (Nd.encs a0K)),.s (.int .i64 a0L),.s (.str a0M),.s (.int .i64 a0N),.s (.sl 4 (Nd.encs a0O)),.orow 1,.s (.int .i64 a0E)],.row 40 5 ((List.map zAh) a0F)]/\x = .tup [.agg ((zDz y0).map .s),.s (.int .i64 y1)]/\os'=[some (.box 57 [.s (.int .i64 z0H),.s (.str z0I),.s (.int .i64 z0J),.s (.sl 4 (Nd.encs z0K)),.s (.int .i64 z0L),.s (.str z0M),.s (.int .i64 z0N),.s (.sl 4 (Nd.encs z0O)),.orow 2,.s (.int .i64 z0E)]),none,some (.row 40 5 ((List.map zAh) z0F))]
def zDk:zAp:=zA5 (fun xs os x os'=>∃ n,zFP n xs os x os')
theorem zFE:PSound Try.prog 16 zDk:=by
 have gok:∀ f s,look? f [(32,zFL),(26,zEo),(33,zC1)]=some s->PSound Try.prog f s:=zAm (by
  simp only[List.forall_mem_cons]
  exact⟨zIi,zFN,zDC,by simp⟩)
 refine PSound.withNil (zBm tokW Try.call16 Try.func16 rfl (fun xs os x os' h=>by obtain⟨n,_,_,_,_,_,_,_,_,_,_,_,_,_,_,_,_,_,_,_,_,_,_,_,rfl,rfl,_,rfl⟩:=h; exact⟨by show 1<=59; decide,by show 2<=3; decide⟩) 59 rfl ?_) _;rintro xs os x os' w0 G0 B0 ⟨n,o1H,o1I,o1J,o1K,o1L,o1M,o1N,o1O,o1F,o1E,y0,y1,z0H,z0I,z0J,z0K,z0L,z0M,z0N,z0O,z0F,z0E,h,rfl,rfl,rfl,rfl⟩ _;rw[zCc]at h;refine zSg [2] [] rfl ?_
 refine zAa ?_;refine zSV ?_;refine zAl rfl (fun h=>by cases h) (fun _=>?_)
 refine zAe ?_;refine zAa ?_;refine zSV ?_;refine zAj rfl h (fun hb h=>?_) (fun hb h=>?_)
 ·refine zSV ?_;refine zAg ?_;have hj0:=osi h;obtain⟨hv0,hw0⟩:=Prod.mk.inj hj0;subst hv0;obtain⟨hv1,hw1⟩:=Prod.mk.inj hw0;subst hv1;obtain⟨he1R,hr1R⟩:=Prod.mk.inj hw1;obtain⟨he1S,hr1S⟩:=Prod.mk.inj hr1R;obtain⟨he1V,he1W⟩:=Prod.mk.inj hr1S;obtain⟨he2R,he2S,he2V,he2W⟩:=Nd.mk.inj he1R;subst he2R;subst he2S;subst he2V;subst he2W;obtain⟨he3R,he3S,he3V,he3W⟩:=Nd.mk.inj he1S;subst he3R;subst he3S;subst he3V;subst he3W;subst he1V;subst he1W;unfold zAM
  exact⟨_,(Le.rnm [(0,0),(1,2),(2,3)] [(2,.op 3 0),(3,.s (.int .i64 8))] [(0,.box 57 [.s (.int .i64 o1H),.s (.str o1I),.s (.int .i64 o1J),.s (.sl 4 (Nd.encs o1K)),.s (.int .i64 o1L),.s (.str o1M),.s (.int .i64 o1N),.s (.sl 4 (Nd.encs o1O)),.orow 2,.s (.int .i64 o1E)]),(2,.row 40 5 ((List.map zAh) o1F)),(3,.box 38 [.nl 1,.nl 1])] 4 ⟨rfl,rfl,trivial⟩ ⟨rfl,⟨_,rfl,rfl⟩,rfl,⟨_,rfl,rfl⟩,rfl,⟨_,rfl,rfl⟩,trivial⟩),rfl,rfl,rfl,rfl,rfl,rfl,trivial⟩
 ·refine zAe ?_;refine zAa ?_;refine zGy [4] [] [3,7,9,10,11,12] [3,7,9,10] rfl (by decide +kernel) ?_;obtain⟨⟨e2Ah,⟨e2Ai,e2Aj⟩,⟨e2Ak,e2Al⟩⟩,he2,h⟩:=zAc h;refine And.intro (zAO (fun _=>rfl) he2).1 ?_;refine And.intro (zAO (fun _=>rfl) he2).2.2 ?_;refine⟨_,(zAO (fun _=>rfl) he2).2.1,?_⟩
  refine zAk (Le.giveBox 3 [.sl 8 ((List.map zAs) e2Ah),.sl 1 ((List.map (irow .i64)) e2Ai),.sl 1 ((List.map (irow .i64)) e2Aj),.sl 1 ((List.map (irow .i64)) e2Ak),.sl 1 ((List.map (irow .i64)) e2Al)] rfl rfl) ?_;refine zAa ?_;refine zGy [5] [] [3,12,13] [3] rfl (by decide +kernel) ?_;obtain⟨y3,hy3,h⟩:=zAc h;refine⟨_,⟨_,_,_,hy3,rfl,rfl⟩,?_⟩
  obtain⟨⟨⟨y4A,y4C,y4D,y4B⟩,y5,y6⟩,hy4,h⟩:=zAc h;refine⟨_,⟨_,_,_,_,_,_,hy4,rfl,rfl⟩,?_⟩
  refine zAk (Le.giveBox 4 [.int .i64 y4A,.str y4C,.int .i64 y4D,.sl 4 (Nd.encs y4B)] rfl rfl) ?_;refine zAa ?_;refine zSV ?_;refine zAj rfl h (fun hb h=>?_) (fun hb h=>?_)
  ·refine zSV ?_;refine zAg ?_;have hj0:=osi h;obtain⟨hv0,hw0⟩:=Prod.mk.inj hj0;subst hv0;obtain⟨hv1,hw1⟩:=Prod.mk.inj hw0;subst hv1;obtain⟨he1R,hr1R⟩:=Prod.mk.inj hw1;obtain⟨he1S,hr1S⟩:=Prod.mk.inj hr1R;obtain⟨he1V,he1W⟩:=Prod.mk.inj hr1S;obtain⟨he2R,he2S,he2V,he2W⟩:=Nd.mk.inj he1R;subst he2R;subst he2S;subst he2V;subst he2W;obtain⟨he3R,he3S,he3V,he3W⟩:=Nd.mk.inj he1S;subst he3R;subst he3S;subst he3V;subst he3W;subst he1V;subst he1W;unfold zAM
   exact⟨_,(Le.rnm [(0,0),(1,2),(2,3)] [(2,.op 3 0),(3,.s (.int .i64 y6))] [(0,.box 57 [.s (.int .i64 o1H),.s (.str o1I),.s (.int .i64 o1J),.s (.sl 4 (Nd.encs o1K)),.s (.int .i64 o1L),.s (.str o1M),.s (.int .i64 o1N),.s (.sl 4 (Nd.encs o1O)),.orow 2,.s (.int .i64 o1E)]),(2,.row 40 5 ((List.map zAh) o1F)),(3,.box 38 [.nl 1,.nl 1])] 4 ⟨rfl,rfl,trivial⟩ ⟨rfl,⟨_,rfl,rfl⟩,rfl,⟨_,rfl,rfl⟩,rfl,⟨_,rfl,rfl⟩,trivial⟩),rfl,rfl,rfl,rfl,rfl,rfl,trivial⟩
  ·refine zAe ?_;refine zAa ?_;refine zBx [] [] [6,10,13] rfl (by decide +kernel) ?_;refine zSV ?_;obtain⟨⟨y7Am,y7An⟩,hy7,h⟩:=zAc h;refine⟨_,⟨_,_,hy7,rfl,rfl⟩,?_⟩
   refine zAg ?_;have hj0:=osi h;obtain⟨hv0,hw0⟩:=Prod.mk.inj hj0;subst hv0;obtain⟨hv1,hw1⟩:=Prod.mk.inj hw0;subst hv1;obtain⟨he1R,hr1R⟩:=Prod.mk.inj hw1;obtain⟨he1S,hr1S⟩:=Prod.mk.inj hr1R;obtain⟨he1V,he1W⟩:=Prod.mk.inj hr1S;obtain⟨he2R,he2S,he2V,he2W⟩:=Nd.mk.inj he1R;subst he2R;subst he2S;subst he2V;subst he2W;obtain⟨he3R,he3S,he3V,he3W⟩:=Nd.mk.inj he1S;subst he3R;subst he3S;subst he3V;subst he3W;subst he1V;subst he1W;unfold zAM
   exact⟨_,(Le.rnm [(0,0),(1,2),(2,3)] [(2,.op 3 0),(3,.s (.int .i64 0))] [(0,.box 57 [.s (.int .i64 o1H),.s (.str o1I),.s (.int .i64 o1J),.s (.sl 4 (Nd.encs o1K)),.s (.int .i64 y4A),.s (.str y4C),.s (.int .i64 y4D),.s (.sl 4 (Nd.encs y4B)),.orow 2,.s (.int .i64 (IntKind.i64.wrap (o1E - 1)))]),(2,.row 40 5 ((List.map zAh) o1F)),(3,.box 38 [.s (.sl 1 ((List.map (irow .i64)) y7Am)),.s (.sl 1 ((List.map (irow .i64)) y7An))])] 4 ⟨rfl,rfl,trivial⟩ ⟨rfl,⟨_,rfl,rfl⟩,rfl,⟨_,rfl,rfl⟩,rfl,⟨_,rfl,rfl⟩,trivial⟩),rfl,rfl,rfl,rfl,rfl,rfl,trivial⟩
def zHg:(Nd×Nd×List zRc×Int)->List S
| ⟨⟨p_origin_kind,p_origin_text,p_origin_cols,p_origin_kids⟩,⟨p_tree_kind,p_tree_text,p_tree_cols,p_tree_kids⟩,p_records,p_done⟩=>[.int .i64 p_origin_kind,.str p_origin_text,.int .i64 p_origin_cols,.sl 4 (Nd.encs p_origin_kids),.int .i64 p_tree_kind,.str p_tree_text,.int .i64 p_tree_cols,.sl 4 (Nd.encs p_tree_kids),.sl 5 ((List.map zAh) p_records),.int .i64 p_done]
def zLI (n:Nat) (xs:List AV) (os:List Ob) (x:AV) (os':List (Option Ob)):Prop:=∃ (a0:Nd) (y0:Option (Nd×Nd×List zRc×Int)) (y1:Int),zFB n a0=some (y0,y1)/\xs=[.agg ((Nd.enc a0).map .s)]/\os=[]/\x = .tup [(match y0 with | none=>.s .np | some _=>.op 0 0),.s (.int .i64 y1)]/\os'=(match y0 with | none=>[] | some ⟨⟨o_origin_kind,o_origin_text,o_origin_cols,o_origin_kids⟩,⟨o_tree_kind,o_tree_text,o_tree_cols,o_tree_kids⟩,o_records,o_done⟩=>[some (.box 57 [.s (.int .i64 o_origin_kind),.s (.str o_origin_text),.s (.int .i64 o_origin_cols),.s (.sl 4 (Nd.encs o_origin_kids)),.s (.int .i64 o_tree_kind),.s (.str o_tree_text),.s (.int .i64 o_tree_cols),.s (.sl 4 (Nd.encs o_tree_kids)),.orow 1,.s (.int .i64 o_done)]),some (.row 40 5 ((List.map zAh) o_records))])
def zHE:zAp:=zA5 (fun xs os x os'=>∃ n,zLI n xs os x os')
theorem zKI:PSound Try.prog 9 zHE:=by
 have gok:∀ f s,look? f [(24,zBj),(25,zBq)]=some s->PSound Try.prog f s:=zAm (by
  simp only[List.forall_mem_cons]
  exact⟨zBi,zBl,by simp⟩)
 refine PSound.withNil (zBm tokW Try.call9 Try.func9 rfl (fun xs os x os' h=>by obtain⟨n,_,_,_,_,rfl,rfl,_,rfl⟩:=h; exact⟨by show 1<=13; decide,Nat.zero_le _⟩) 13 rfl ?_) _;rintro xs os x os' w0 G0 B0 ⟨n,⟨n1A,n1C,n1D,n1B⟩,y0,y1,h,rfl,rfl,rfl,rfl⟩ _;rw[zFB]at h;refine zSV ?_;refine zAa ?_;refine zSV ?_;obtain⟨y2,hy2,h⟩:=zAc h;refine⟨_,⟨_,_,_,hy2,rfl,rfl⟩,?_⟩
 refine zAj rfl h (fun hb h=>?_) (fun hb h=>?_)
 ·refine zSV ?_;refine zAg ?_;obtain⟨hj1,hk1⟩:=pij h;subst hj1 hk1;unfold zAM;exact⟨_,(Le.rnm [] [(2,.s (.np)),(3,.s (.int .i64 1))] [] 0 ⟨rfl,rfl,trivial⟩ trivial),rfl,rfl,trivial⟩
 ·refine zAe ?_;refine zAa ?_;refine zGy [12] [] [5] [] rfl (by decide +kernel) ?_;obtain⟨⟨y3A,y3C,y3D,y3B⟩,hy3,h⟩:=zAc h;refine⟨_,⟨_,_,hy3,rfl,rfl⟩,?_⟩
  obtain⟨⟨y4A,y4C,y4D,y4B⟩,hy4,h⟩:=zAc h;refine⟨_,⟨_,_,hy4,rfl,rfl⟩,?_⟩
  refine zAk (Le.trans (Le.rnm [(0,0)] [(2,.op 0 0),(3,.s (.int .i64 0))] [(0,.box 57 [.s (.int .i64 y3A),.s (.str y3C),.s (.int .i64 y3D),.s (.sl 4 (Nd.encs y3B)),.s (.int .i64 y4A),.s (.str y4C),.s (.int .i64 y4D),.s (.sl 4 (Nd.encs y4B)),.nl 5,.s (.int .i64 0)])] 1 ⟨rfl,rfl,trivial⟩ ⟨rfl,⟨_,rfl,rfl⟩,trivial⟩) (Le.takeNil 0 8 40 rfl rfl (by decide))) ?_;refine zAg ?_;obtain⟨hj1,hk1⟩:=pij h;subst hj1 hk1;unfold zAM
  exact⟨_,(Le.rnm [(0,0),(1,1)] [(2,.op 0 0),(3,.s (.int .i64 0))] [(0,.box 57 [.s (.int .i64 y3A),.s (.str y3C),.s (.int .i64 y3D),.s (.sl 4 (Nd.encs y3B)),.s (.int .i64 y4A),.s (.str y4C),.s (.int .i64 y4D),.s (.sl 4 (Nd.encs y4B)),.orow 1,.s (.int .i64 0)]),(1,.row 40 5 ((List.map zAh) []))] 2 ⟨rfl,rfl,trivial⟩ ⟨rfl,⟨_,rfl,rfl⟩,rfl,⟨_,rfl,rfl⟩,trivial⟩),rfl,rfl,rfl,rfl,rfl,rfl,trivial⟩
def zO6 (n:Nat) (xs:List AV) (r:Ret):Prop:=∃ (a0:List zO8) (y0:List zO8),zIh n a0=some y0/\xs=[.s (.sl 8 ((List.map zAs) a0))]/\r = .row 35 8 ((List.map zAs) y0)
def zK1:zAp:=zAr fun xs r=>∃ n,zO6 n xs r
theorem zFt {α:Type}{a b:α} (h:a=b:=by simp[List.map_append,List.map_take,List.map_drop,irow,brow,zGq,List.map_cons,List.map_nil,zF2,Nd.encs_eq,Nd.enc,zBA,zAQ,zBM,zAL,zAC,zAs,zDz,zAh,zHg]):a=b :=
 h
theorem zOp:PSound Try.prog 39 zK1:=by
 have gok:∀ f s,look? f [(60,zJw)]=some s->PSound Try.prog f s:=zAm (by
  simp only[List.forall_mem_cons]
  exact⟨zLm,by simp⟩)
 refine zAw tokW Try.call39 Try.func39 rfl (fun xs r h=>by obtain⟨n,_,_,_,rfl,_⟩:=h; show 1<=19; decide) 19 rfl ?_;rintro xs r w0 G0 ⟨n,l1,y0,h,rfl,rfl⟩ _;rw[zIh]at h;refine zSg [2] [] rfl ?_;refine zAk (Le.rnm [] [(0,.s (.sl 8 ((List.map zAs) l1)))] [] 0 ⟨rfl,trivial⟩ trivial) ?_;refine zSg [3] [] rfl ?_;show Tri ..
 refine zAk (Le.rnm [(0,0)] [(0,.s (.sl 8 ((List.map zAs) l1))),(3,.orow 0)] [(0,.row 35 8 ((List.map zAs) []))] 1 ⟨rfl,rfl,trivial⟩ ⟨rfl,⟨_,rfl,congrArg (Ob.row 35 8) zFt⟩,trivial⟩) ?_;refine zAa ?_;refine zSg [] [7] rfl ?_;intro n2 hn2;obtain rfl:(l1.length:Int)=n2:=(hn2.trans (congrArg (fun m:Nat=>(m:Int)) (rlen (fun _=>rfl) l1))).symm
 show Tri ..;obtain⟨l6,hl,h⟩:=zAc h;refine zAo ⟨ofL [(3,.orow 0)],ofH [(0,.row 35 8 ((List.map zAs) l6))],1⟩ ?_ (fun σ' hle=>?_)
 ·refine zAi (zAz (X:=Nat×Int×(List zO8)) (fun y=>match y with | (k,x4,l5)=>⟨ofL [(3,.orow 0),(6,.s (.sl 8 ((List.map zAs) l1))),(7,.s (.int .i64 (l1.length:Int))),(8,.s (.int .i64 x4))],ofH [(0,.row 35 8 ((List.map zAs) l5))],1⟩) (fun y=>zC5 n l1 y.1 y.2.1 y.2.2=some l6) (fun y=>y.1) (n,0,[]) hl ?_ ?_)
  ·exact(Le.rnm [(0,0)] _ _ _ ⟨rfl,rfl,rfl,rfl,trivial⟩ ⟨rfl,⟨_,rfl,rfl⟩,trivial⟩)
  ·rintro⟨k,x4,l5⟩ h;cases k with
   | zero=>cases h
   | succ k =>
    replace h:zC5 n l1 (k+1) x4 l5=some l6:=h;rw[zC5]at h;refine zSV ?_;refine zAa ?_;refine zAj rfl h (fun hb h=>?_) (fun hb h=>?_)
    ·refine zAe ?_;refine zAa ?_;refine zAi ?_;refine zSg [5] [10] rfl ?_;obtain⟨⟨e7A,e7Ac,e7Ae,e7Aa,e7G,e7Ab,e7X,e7C⟩,he7,h⟩:=zAc h;refine And.intro (zAO (fun _=>rfl) he7).1 ?_;intro r8 hr8;obtain rfl:[.int .i64 e7A,.sl 1 ((List.map (irow .i64)) e7Ac),.int .i64 e7Ae,.int .i64 e7Aa,.sl 4 (Nd.encs e7G),.int .i64 e7Ab,.str e7X,.str e7C]=r8:=(hr8.trans (zAO (fun _=>rfl) he7).2.1).symm;show Tri ..
     refine zAk (Le.giveBox 1 [.int .i64 e7A,.sl 1 ((List.map (irow .i64)) e7Ac),.int .i64 e7Ae,.int .i64 e7Aa,.sl 4 (Nd.encs e7G),.int .i64 e7Ab,.str e7X,.str e7C] rfl rfl) ?_;refine zAb [16] [15] rfl ?_;obtain⟨⟨y9A,y9Ac,y9Ae,y9Aa,y9G,y9Ab,y9X,y9C⟩,hy9,h⟩:=zAc h;refine⟨_,⟨_,_,_,hy9,rfl,rfl⟩,?_⟩
     intro r10 hr10;obtain rfl:(List.map zAs) [(y9A,y9Ac,y9Ae,y9Aa,y9G,y9Ab,y9X,y9C)]=r10:=(hr10.trans zFt).symm;obtain⟨hq,h⟩:=zAy h
     refine And.intro (show(((List.map zAs) l5).length+((List.map zAs) [(y9A,y9Ac,y9Ae,y9Aa,y9G,y9Ab,y9X,y9C)]).length) * 112<=140737488355328/\((List.map zAs) l5).length+((List.map zAs) [(y9A,y9Ac,y9Ae,y9Aa,y9G,y9Ab,y9X,y9C)]).length<=9223372036854775807 from by simp only[List.length_append,List.length_cons,List.length_nil,List.length_map,rlen (fun _=>rfl)]at hq ⊢; omega) ?_;show Tri ..
     refine zAk (Le.rnm [(2,0)] [(3,.orow 0),(6,.s (.sl 8 ((List.map zAs) l1))),(7,.s (.int .i64 (l1.length:Int))),(8,.s (.int .i64 x4))] [(0,.row 35 8 ((List.map zAs) (l5++[(y9A,y9Ac,y9Ae,y9Aa,y9G,y9Ab,y9X,y9C)])))] 1 ⟨rfl,rfl,rfl,rfl,trivial⟩ ⟨rfl,⟨_,rfl,congrArg (Ob.row 35 8) zFt⟩,trivial⟩) ?_;refine zSU ?_
     refine⟨(k,IntKind.i64.wrap (x4+1),l5++[(y9A,y9Ac,y9Ae,y9Aa,y9G,y9Ab,y9X,y9C)]),h,(Le.rnm [(0,0)] _ _ _ ⟨rfl,rfl,rfl,rfl,trivial⟩ ⟨rfl,⟨_,rfl,rfl⟩,trivial⟩),Nat.lt_succ_self k⟩
    ·refine zAx ?_;cases h;exact(Le.rnm [(0,0)] _ _ _ ⟨rfl,trivial⟩ ⟨rfl,⟨_,rfl,rfl⟩,trivial⟩)
 ·refine zAk hle ?_;refine zSV ?_;refine zAg ?_;have hy:=osi h;subst hy;unfold zCQ;exact⟨_,Le.refl _ _,0,rfl,rfl⟩
def zLF (n:Nat) (xs:List AV) (r:Ret):Prop:=∃ (a0:zRc) (y0:zRc),zEd n a0=some y0/\xs=[.agg ((zAh a0).map .s)]/\r = .val (.agg ((zAh y0).map .s))
def zFv:zAp:=zAr fun xs r=>∃ n,zLF n xs r
theorem zGZ:PSound Try.prog 27 zFv:=by
 have gok:∀ f s,look? f [(39,zK1),(33,zC1)]=some s->PSound Try.prog f s:=zAm (by
  simp only[List.forall_mem_cons]
  exact⟨zOp,zDC,by simp⟩)
 refine zAw tokW Try.call27 Try.func27 rfl (fun xs r h=>by obtain⟨n,_,_,_,rfl,_⟩:=h; show 1<=13; decide) 13 rfl ?_;rintro xs r w0 G0 ⟨n,⟨r1Ah,⟨r1Ai,r1Aj⟩,⟨r1Ak,r1Al⟩⟩,y0,h,rfl,rfl⟩ _;rw[zEd]at h;refine zSg [2] [] rfl ?_;refine zAa ?_;refine zBx [] [] [10] rfl (by decide +kernel) ?_;obtain⟨y2,hy2,h⟩:=zAc h;refine⟨_,⟨_,_,_,hy2,rfl,rfl⟩,?_⟩
 obtain⟨⟨y3Am,y3An⟩,hy3,h⟩:=zAc h;refine⟨_,⟨_,_,hy3,rfl,rfl⟩,?_⟩
 obtain⟨⟨y4Am,y4An⟩,hy4,h⟩:=zAc h;refine⟨_,⟨_,_,hy4,rfl,rfl⟩,?_⟩
 refine zAg ?_;have hy:=osi h;subst hy;exact fin0 rfl rfl
def zGD (n:Nat) (xs:List AV) (os:List Ob) (x:AV) (os':List (Option Ob)):Prop:=∃ (a0H:Int) (a0I:List UInt8) (a0J:Int) (a0K:List Nd) (a0L:Int) (a0M:List UInt8) (a0N:Int) (a0O:List Nd) (a0F:List zRc) (a0E:Int) (a1:zRc) (y0:Int) (z0H:Int) (z0I:List UInt8) (z0J:Int) (z0K:List Nd) (z0L:Int) (z0M:List UInt8) (z0N:Int) (z0O:List Nd) (z0F:List zRc) (z0E:Int),zCJ n (Nd.mk a0H a0I a0J a0K,Nd.mk a0L a0M a0N a0O,a0F,a0E) a1=some (y0,(Nd.mk z0H z0I z0J z0K,Nd.mk z0L z0M z0N z0O,z0F,z0E))/\xs=[.op 0 0,.agg ((zAh a1).map .s)]/\os=[.box 57 [.s (.int .i64 a0H),.s (.str a0I),.s (.int .i64 a0J),.s (.sl 4 (Nd.encs a0K)),.s (.int .i64 a0L),.s (.str a0M),.s (.int .i64 a0N),.s (.sl 4 (Nd.encs a0O)),.orow 1,.s (.int .i64 a0E)],.row 40 5 ((List.map zAh) a0F)]/\x = .s (.int .i64 y0)/\os'=[some (.box 57 [.s (.int .i64 z0H),.s (.str z0I),.s (.int .i64 z0J),.s (.sl 4 (Nd.encs z0K)),.s (.int .i64 z0L),.s (.str z0M),.s (.int .i64 z0N),.s (.sl 4 (Nd.encs z0O)),.orow 2,.s (.int .i64 z0E)]),none,some (.row 40 5 ((List.map zAh) z0F))]
def zD4:zAp:=zA5 (fun xs os x os'=>∃ n,zGD n xs os x os')
theorem zGg:PSound Try.prog 10 zD4:=by
 have gok:∀ f s,look? f [(26,zEo),(27,zFv)]=some s->PSound Try.prog f s:=zAm (by
  simp only[List.forall_mem_cons]
  exact⟨zFN,zGZ,by simp⟩)
 refine PSound.withNil (zBm tokW Try.call10 Try.func10 rfl (fun xs os x os' h=>by obtain⟨n,_,_,_,_,_,_,_,_,_,_,_,_,_,_,_,_,_,_,_,_,_,_,_,rfl,rfl,_,rfl⟩:=h; exact⟨by show 2<=57; decide,by show 2<=3; decide⟩) 57 rfl ?_) _;rintro xs os x os' w0 G0 B0 ⟨n,o1H,o1I,o1J,o1K,o1L,o1M,o1N,o1O,o1F,o1E,⟨r2Ah,⟨r2Ai,r2Aj⟩,⟨r2Ak,r2Al⟩⟩,y0,z0H,z0I,z0J,z0K,z0L,z0M,z0N,z0O,z0F,z0E,h,rfl,rfl,rfl,rfl⟩ _
 rw[zCJ]at h;refine zSV ?_;refine zAa ?_;refine zSV ?_;refine zAl rfl (fun h=>by cases h) (fun _=>?_)
 refine zAe ?_;refine zAa ?_;refine zGy [5] [] [3,11,12] [3] rfl (by decide +kernel) ?_;obtain⟨⟨⟨y3A,y3C,y3D,y3B⟩,y4,y5⟩,hy3,h⟩:=zAc h;refine⟨_,⟨_,_,_,_,_,_,hy3,rfl,rfl⟩,?_⟩
 refine zAk (Le.giveBox 2 [.int .i64 y3A,.str y3C,.int .i64 y3D,.sl 4 (Nd.encs y3B)] rfl rfl) ?_;refine zAa ?_;refine zSV ?_;refine zAj rfl h (fun hb h=>?_) (fun hb h=>?_)
 ·refine zSV ?_;refine zAg ?_;have hj0:=osi h;obtain⟨hv0,hw0⟩:=Prod.mk.inj hj0;subst hv0;obtain⟨he1R,hr1R⟩:=Prod.mk.inj hw0;obtain⟨he1S,hr1S⟩:=Prod.mk.inj hr1R;obtain⟨he1V,he1W⟩:=Prod.mk.inj hr1S;obtain⟨he2R,he2S,he2V,he2W⟩:=Nd.mk.inj he1R;subst he2R;subst he2S;subst he2V;subst he2W;obtain⟨he3R,he3S,he3V,he3W⟩:=Nd.mk.inj he1S;subst he3R;subst he3S;subst he3V;subst he3W;subst he1V;subst he1W;unfold zAM
  exact⟨_,(Le.rnm [(0,0),(1,2)] [(4,.s (.int .i64 y5))] [(0,.box 57 [.s (.int .i64 o1H),.s (.str o1I),.s (.int .i64 o1J),.s (.sl 4 (Nd.encs o1K)),.s (.int .i64 o1L),.s (.str o1M),.s (.int .i64 o1N),.s (.sl 4 (Nd.encs o1O)),.orow 2,.s (.int .i64 o1E)]),(2,.row 40 5 ((List.map zAh) o1F))] 3 ⟨rfl,trivial⟩ ⟨rfl,⟨_,rfl,rfl⟩,rfl,⟨_,rfl,rfl⟩,trivial⟩),rfl,rfl,rfl,rfl,rfl,rfl,trivial⟩
 ·refine zAe ?_;refine zAa ?_;refine zSV ?_;refine zAj rfl h (fun hb h=>?_) (fun hb h=>?_)
  ·refine zSV ?_;refine zAg ?_;have hj0:=osi h;obtain⟨hv0,hw0⟩:=Prod.mk.inj hj0;subst hv0;obtain⟨he1R,hr1R⟩:=Prod.mk.inj hw0;obtain⟨he1S,hr1S⟩:=Prod.mk.inj hr1R;obtain⟨he1V,he1W⟩:=Prod.mk.inj hr1S;obtain⟨he2R,he2S,he2V,he2W⟩:=Nd.mk.inj he1R;subst he2R;subst he2S;subst he2V;subst he2W;obtain⟨he3R,he3S,he3V,he3W⟩:=Nd.mk.inj he1S;subst he3R;subst he3S;subst he3V;subst he3W;subst he1V;subst he1W;unfold zAM
   exact⟨_,(Le.rnm [(0,0),(1,2)] [(4,.s (.int .i64 6))] [(0,.box 57 [.s (.int .i64 o1H),.s (.str o1I),.s (.int .i64 o1J),.s (.sl 4 (Nd.encs o1K)),.s (.int .i64 o1L),.s (.str o1M),.s (.int .i64 o1N),.s (.sl 4 (Nd.encs o1O)),.orow 2,.s (.int .i64 o1E)]),(2,.row 40 5 ((List.map zAh) o1F))] 3 ⟨rfl,trivial⟩ ⟨rfl,⟨_,rfl,rfl⟩,rfl,⟨_,rfl,rfl⟩,trivial⟩),rfl,rfl,rfl,rfl,rfl,rfl,trivial⟩
  ·refine zAe ?_;refine zAa ?_;refine zBx [38,42] [41] [4,8,9,13,16] rfl (by decide +kernel) ?_;obtain⟨hq,h⟩:=zAy h;refine And.intro ⟨hq.1,Int.le_trans hq.2 (Int.ofNat_le.2 (Nat.le_of_eq (rlen (fun _=>rfl) _).symm))⟩ ?_;obtain⟨⟨y6Ah,⟨y6Ai,y6Aj⟩,⟨y6Ak,y6Al⟩⟩,hy6,h⟩:=zAc h;refine⟨_,⟨_,_,_,hy6,rfl,rfl⟩,?_⟩
   intro r7 hr7;obtain rfl:(List.map zAh) [(y6Ah,(y6Ai,y6Aj),(y6Ak,y6Al))]=r7:=(hr7.trans zFt).symm;obtain⟨hq,h⟩:=zAy h
   refine And.intro (show(((((List.map zAh) o1F)).take o1E.toNat).length+((List.map zAh) [(y6Ah,(y6Ai,y6Aj),(y6Ak,y6Al))]).length) * 120<=140737488355328/\((((List.map zAh) o1F)).take o1E.toNat).length+((List.map zAh) [(y6Ah,(y6Ai,y6Aj),(y6Ak,y6Al))]).length<=9223372036854775807 from by simp only[List.length_append,List.length_cons,List.length_nil,List.length_map,List.length_take,rlen (fun _=>rfl)]at hq ⊢; omega) ?_;show Tri ..
   refine zAk (Le.rnm [(0,0),(4,2)] [(0,.op 0 0),(5,.s (.pt [.int .i64 y3A,.str y3C,.int .i64 y3D,.sl 4 (Nd.encs y3B)]))] [(0,.box 57 [.s (.int .i64 o1H),.s (.str o1I),.s (.int .i64 o1J),.s (.sl 4 (Nd.encs o1K)),.s (.int .i64 o1L),.s (.str o1M),.s (.int .i64 o1N),.s (.sl 4 (Nd.encs o1O)),.orow 2,.s (.int .i64 o1E)]),(2,.row 40 5 ((List.map zAh) ((o1F.take o1E.toNat)++[(y6Ah,(y6Ai,y6Aj),(y6Ak,y6Al))])))] 3 ⟨rfl,rfl,trivial⟩ ⟨rfl,⟨_,rfl,rfl⟩,rfl,⟨_,rfl,congrArg (Ob.row 40 5) zFt⟩,trivial⟩) ?_
   refine zAa ?_;refine zBx [] [] [6,10,13] rfl (by decide +kernel) ?_;refine zSV ?_;refine zAg ?_;have hj0:=osi h;obtain⟨hv0,hw0⟩:=Prod.mk.inj hj0;subst hv0;obtain⟨he1R,hr1R⟩:=Prod.mk.inj hw0;obtain⟨he1S,hr1S⟩:=Prod.mk.inj hr1R;obtain⟨he1V,he1W⟩:=Prod.mk.inj hr1S;obtain⟨he2R,he2S,he2V,he2W⟩:=Nd.mk.inj he1R;subst he2R;subst he2S;subst he2V;subst he2W;obtain⟨he3R,he3S,he3V,he3W⟩:=Nd.mk.inj he1S;subst he3R;subst he3S;subst he3V;subst he3W;subst he1V;subst he1W;unfold zAM
   exact⟨_,(Le.rnm [(0,0),(2,2)] [(4,.s (.int .i64 0))] [(0,.box 57 [.s (.int .i64 o1H),.s (.str o1I),.s (.int .i64 o1J),.s (.sl 4 (Nd.encs o1K)),.s (.int .i64 y3A),.s (.str y3C),.s (.int .i64 y3D),.s (.sl 4 (Nd.encs y3B)),.orow 2,.s (.int .i64 (IntKind.i64.wrap (o1E+1)))]),(2,.row 40 5 ((List.map zAh) ((o1F.take o1E.toNat)++[(y6Ah,(y6Ai,y6Aj),(y6Ak,y6Al))])))] 3 ⟨rfl,trivial⟩ ⟨rfl,⟨_,rfl,rfl⟩,rfl,⟨_,rfl,rfl⟩,trivial⟩),rfl,rfl,rfl,rfl,rfl,rfl,trivial⟩
def zFO (xs:List AV) (os:List Ob) (x:AV) (os':List (Option Ob)):Prop:=∃ (a0H:Int) (a0I:List UInt8) (a0J:Int) (a0K:List Nd) (a0L:Int) (a0M:List UInt8) (a0N:Int) (a0O:List Nd) (a0F:List zRc) (a0E:Int) (y0:Nd) (z0H:Int) (z0I:List UInt8) (z0J:Int) (z0K:List Nd) (z0L:Int) (z0M:List UInt8) (z0N:Int) (z0O:List Nd) (z0F:List zRc) (z0E:Int),zBu (Nd.mk a0H a0I a0J a0K,Nd.mk a0L a0M a0N a0O,a0F,a0E)=some (y0,(Nd.mk z0H z0I z0J z0K,Nd.mk z0L z0M z0N z0O,z0F,z0E))/\xs=[.op 0 0]/\os=[.box 57 [.s (.int .i64 a0H),.s (.str a0I),.s (.int .i64 a0J),.s (.sl 4 (Nd.encs a0K)),.s (.int .i64 a0L),.s (.str a0M),.s (.int .i64 a0N),.s (.sl 4 (Nd.encs a0O)),.orow 1,.s (.int .i64 a0E)],.row 40 5 ((List.map zAh) a0F)]/\x = .agg ((Nd.enc y0).map .s)/\os'=[some (.box 57 [.s (.int .i64 z0H),.s (.str z0I),.s (.int .i64 z0J),.s (.sl 4 (Nd.encs z0K)),.s (.int .i64 z0L),.s (.str z0M),.s (.int .i64 z0N),.s (.sl 4 (Nd.encs z0O)),.orow 2,.s (.int .i64 z0E)]),none,some (.row 40 5 ((List.map zAh) z0F))]
def zDj:zAp:=zA5 (fun xs os x os'=>zFO xs os x os')
theorem zFD:PSound Try.prog 12 zDj:=by
 have gok:∀ f s,look? f [(25,zBq)]=some s->PSound Try.prog f s:=zAm (by
  simp only[List.forall_mem_cons]
  exact⟨zBl,by simp⟩)
 refine PSound.withNil (zBm tokW Try.call12 Try.func12 rfl (fun xs os x os' h=>by obtain⟨_,_,_,_,_,_,_,_,_,_,_,_,_,_,_,_,_,_,_,_,_,_,rfl,rfl,_,rfl⟩:=h; exact⟨by show 1<=11; decide,by show 2<=3; decide⟩) 11 rfl ?_) _;rintro xs os x os' w0 G0 B0 ⟨o1H,o1I,o1J,o1K,o1L,o1M,o1N,o1O,o1F,o1E,y0,z0H,z0I,z0J,z0K,z0L,z0M,z0N,z0O,z0F,z0E,h,rfl,rfl,rfl,rfl⟩ _;rw[zBu]at h;refine zSg [2] [] rfl ?_;show Tri ..
 refine zAa ?_;refine zSV ?_;refine zAl rfl (fun h=>by cases h) (fun _=>?_)
 refine zAe ?_;refine zSV ?_;obtain⟨⟨y2A,y2C,y2D,y2B⟩,hy2,h⟩:=zAc h;refine⟨_,⟨_,_,hy2,rfl,rfl⟩,?_⟩
 refine zAg ?_;have hj0:=osi h;obtain⟨hv0,hw0⟩:=Prod.mk.inj hj0;subst hv0;obtain⟨he1R,hr1R⟩:=Prod.mk.inj hw0;obtain⟨he1S,hr1S⟩:=Prod.mk.inj hr1R;obtain⟨he1V,he1W⟩:=Prod.mk.inj hr1S;obtain⟨he2R,he2S,he2V,he2W⟩:=Nd.mk.inj he1R;subst he2R;subst he2S;subst he2V;subst he2W;obtain⟨he3R,he3S,he3V,he3W⟩:=Nd.mk.inj he1S;subst he3R;subst he3S;subst he3V;subst he3W;subst he1V;subst he1W;unfold zAM
 exact⟨_,(Le.rnm [(0,0),(1,2),(2,3)] [(2,.op 3 0)] [(0,.box 57 [.s (.int .i64 o1H),.s (.str o1I),.s (.int .i64 o1J),.s (.sl 4 (Nd.encs o1K)),.s (.int .i64 o1L),.s (.str o1M),.s (.int .i64 o1N),.s (.sl 4 (Nd.encs o1O)),.orow 2,.s (.int .i64 o1E)]),(2,.row 40 5 ((List.map zAh) o1F)),(3,.box 24 [.s (.int .i64 y2A),.s (.str y2C),.s (.int .i64 y2D),.s (.sl 4 (Nd.encs y2B))])] 4 ⟨rfl,trivial⟩ ⟨rfl,⟨_,rfl,rfl⟩,rfl,⟨_,rfl,rfl⟩,rfl,⟨_,rfl,rfl⟩,trivial⟩),rfl,rfl,rfl,rfl,rfl,rfl,trivial⟩
def zHy (n:Nat) (xs:List AV) (os:List Ob) (x:AV) (os':List (Option Ob)):Prop:=∃ (a0:List zRc) (y0:List zRc),zC6 n a0=some y0/\xs=[.orow 0]/\os=[.row 40 5 ((List.map zAh) a0)]/\x = .orow 1/\os'=[some (.row 40 5 ((List.map zAh) a0)),some (.row 40 5 ((List.map zAh) y0))]
def zER:zAp:=zA5 (fun xs os x os'=>∃ n,zHy n xs os x os')
theorem zHm:PSound Try.prog 28 zER:=by
 have gok:∀ f s,look? f [(27,zFv)]=some s->PSound Try.prog f s:=zAm (by
  simp only[List.forall_mem_cons]
  exact⟨zGZ,by simp⟩)
 refine PSound.withNil (zBm tokW Try.call28 Try.func28 rfl (fun xs os x os' h=>by obtain⟨n,_,_,_,rfl,rfl,_,rfl⟩:=h; exact⟨by show 1<=19; decide,by show 1<=2; decide⟩) 19 rfl ?_) _;rintro xs os x os' w0 G0 B0 ⟨n,o1,y0,h,rfl,rfl,rfl,rfl⟩ _;rw[zC6]at h;refine zSg [2] [] rfl ?_;refine zAk (Le.rnm [(0,0)] [(0,.orow 0)] [(0,.row 40 5 ((List.map zAh) o1))] 1 ⟨rfl,trivial⟩ ⟨rfl,⟨_,rfl,rfl⟩,trivial⟩) ?_;refine zSg [3] [] rfl ?_;show Tri ..
 refine zAk (Le.rnm [(0,0),(1,1)] [(0,.orow 0),(3,.orow 1)] [(0,.row 40 5 ((List.map zAh) o1)),(1,.row 40 5 ((List.map zAh) []))] 2 ⟨rfl,rfl,trivial⟩ ⟨rfl,⟨_,rfl,rfl⟩,rfl,⟨_,rfl,congrArg (Ob.row 40 5) zFt⟩,trivial⟩) ?_;refine zAa ?_;refine zSg [] [7] rfl ?_;intro n2 hn2
 obtain rfl:(o1.length:Int)=n2:=(hn2.trans (congrArg (fun m:Nat=>(m:Int)) (rlen (fun _=>rfl) o1))).symm;show Tri ..;obtain⟨l6,hl,h⟩:=zAc h;refine zAo ⟨ofL [(3,.orow 1)],ofH [(0,.row 40 5 ((List.map zAh) o1)),(1,.row 40 5 ((List.map zAh) l6))],2⟩ ?_ (fun σ' hle=>?_)
 ·refine zAi (zAz (X:=Nat×Int×(List zRc)) (fun y=>match y with | (k,x4,l5)=>⟨ofL [(3,.orow 1),(6,.orow 0),(7,.s (.int .i64 (o1.length:Int))),(8,.s (.int .i64 x4))],ofH [(0,.row 40 5 ((List.map zAh) o1)),(1,.row 40 5 ((List.map zAh) l5))],2⟩) (fun y=>zA7 n o1 y.1 y.2.1 y.2.2=some l6) (fun y=>y.1) (n,0,[]) hl ?_ ?_)
  ·exact(Le.rnm [(0,0),(1,1)] _ _ _ ⟨rfl,rfl,rfl,rfl,trivial⟩ ⟨rfl,⟨_,rfl,rfl⟩,rfl,⟨_,rfl,rfl⟩,trivial⟩)
  ·rintro⟨k,x4,l5⟩ h;cases k with
   | zero=>cases h
   | succ k =>
    replace h:zA7 n o1 (k+1) x4 l5=some l6:=h;rw[zA7]at h;refine zSV ?_;refine zAa ?_;refine zAj rfl h (fun hb h=>?_) (fun hb h=>?_)
    ·refine zAe ?_;refine zAa ?_;refine zAi ?_;refine zSg [5] [] rfl ?_;obtain⟨⟨e7Ah,⟨e7Ai,e7Aj⟩,⟨e7Ak,e7Al⟩⟩,he7,h⟩:=zAc h;refine And.intro (zAO (fun _=>rfl) he7).1 ?_;refine And.intro (zAO (fun _=>rfl) he7).2.2 ?_;refine⟨_,(zAO (fun _=>rfl) he7).2.1,?_⟩
     refine zAk (Le.giveBox 2 [.sl 8 ((List.map zAs) e7Ah),.sl 1 ((List.map (irow .i64)) e7Ai),.sl 1 ((List.map (irow .i64)) e7Aj),.sl 1 ((List.map (irow .i64)) e7Ak),.sl 1 ((List.map (irow .i64)) e7Al)] rfl rfl) ?_;refine zAb [16] [15] rfl ?_;obtain⟨⟨y8Ah,⟨y8Ai,y8Aj⟩,⟨y8Ak,y8Al⟩⟩,hy8,h⟩:=zAc h;refine⟨_,⟨_,_,_,hy8,rfl,rfl⟩,?_⟩
     intro r9 hr9;obtain rfl:(List.map zAh) [(y8Ah,(y8Ai,y8Aj),(y8Ak,y8Al))]=r9:=(hr9.trans zFt).symm;obtain⟨hq,h⟩:=zAy h
     refine And.intro (show(((List.map zAh) l5).length+((List.map zAh) [(y8Ah,(y8Ai,y8Aj),(y8Ak,y8Al))]).length) * 120<=140737488355328/\((List.map zAh) l5).length+((List.map zAh) [(y8Ah,(y8Ai,y8Aj),(y8Ak,y8Al))]).length<=9223372036854775807 from by simp only[List.length_append,List.length_cons,List.length_nil,List.length_map,rlen (fun _=>rfl)]at hq ⊢; omega) ?_;show Tri ..
     refine zAk (Le.rnm [(0,0),(3,1)] [(3,.orow 1),(6,.orow 0),(7,.s (.int .i64 (o1.length:Int))),(8,.s (.int .i64 x4))] [(0,.row 40 5 ((List.map zAh) o1)),(1,.row 40 5 ((List.map zAh) (l5++[(y8Ah,(y8Ai,y8Aj),(y8Ak,y8Al))])))] 2 ⟨rfl,rfl,rfl,rfl,trivial⟩ ⟨rfl,⟨_,rfl,rfl⟩,rfl,⟨_,rfl,congrArg (Ob.row 40 5) zFt⟩,trivial⟩) ?_
     refine zSU ?_;refine⟨(k,IntKind.i64.wrap (x4+1),l5++[(y8Ah,(y8Ai,y8Aj),(y8Ak,y8Al))]),h,(Le.rnm [(0,0),(1,1)] _ _ _ ⟨rfl,rfl,rfl,rfl,trivial⟩ ⟨rfl,⟨_,rfl,rfl⟩,rfl,⟨_,rfl,rfl⟩,trivial⟩),Nat.lt_succ_self k⟩
    ·refine zAx ?_;cases h;exact(Le.rnm [(0,0),(1,1)] _ _ _ ⟨rfl,trivial⟩ ⟨rfl,⟨_,rfl,rfl⟩,rfl,⟨_,rfl,rfl⟩,trivial⟩)
 ·refine zAk hle ?_;refine zSV ?_;refine zAg ?_;have hy:=osi h;subst hy;unfold zAM;exact⟨_,(Le.rnm [(0,0),(1,1)] [(2,.orow 1)] [(0,.row 40 5 ((List.map zAh) o1)),(1,.row 40 5 ((List.map zAh) l6))] 2 ⟨rfl,trivial⟩ ⟨rfl,⟨_,rfl,rfl⟩,rfl,⟨_,rfl,rfl⟩,trivial⟩),rfl,rfl,rfl,rfl,rfl,rfl,trivial⟩
def zE4 (n:Nat) (xs:List AV) (os:List Ob) (x:AV) (os':List (Option Ob)):Prop:=∃ (a0H:Int) (a0I:List UInt8) (a0J:Int) (a0K:List Nd) (a0L:Int) (a0M:List UInt8) (a0N:Int) (a0O:List Nd) (a0F:List zRc) (a0E:Int) (y0:List zRc) (z0H:Int) (z0I:List UInt8) (z0J:Int) (z0K:List Nd) (z0L:Int) (z0M:List UInt8) (z0N:Int) (z0O:List Nd) (z0F:List zRc) (z0E:Int),zBI n (Nd.mk a0H a0I a0J a0K,Nd.mk a0L a0M a0N a0O,a0F,a0E)=some (y0,(Nd.mk z0H z0I z0J z0K,Nd.mk z0L z0M z0N z0O,z0F,z0E))/\xs=[.op 0 0]/\os=[.box 57 [.s (.int .i64 a0H),.s (.str a0I),.s (.int .i64 a0J),.s (.sl 4 (Nd.encs a0K)),.s (.int .i64 a0L),.s (.str a0M),.s (.int .i64 a0N),.s (.sl 4 (Nd.encs a0O)),.orow 1,.s (.int .i64 a0E)],.row 40 5 ((List.map zAh) a0F)]/\x = .s (.sl 5 ((List.map zAh) y0))/\os'=[some (.box 57 [.s (.int .i64 z0H),.s (.str z0I),.s (.int .i64 z0J),.s (.sl 4 (Nd.encs z0K)),.s (.int .i64 z0L),.s (.str z0M),.s (.int .i64 z0N),.s (.sl 4 (Nd.encs z0O)),.orow 2,.s (.int .i64 z0E)]),none,some (.row 40 5 ((List.map zAh) z0F))]
def zCL:zAp:=zA5 (fun xs os x os'=>∃ n,zE4 n xs os x os')
theorem zEO:PSound Try.prog 11 zCL:=by
 have gok:∀ f s,look? f [(28,zER)]=some s->PSound Try.prog f s:=zAm (by
  simp only[List.forall_mem_cons]
  exact⟨zHm,by simp⟩)
 refine PSound.withNil (zBm tokW Try.call11 Try.func11 rfl (fun xs os x os' h=>by obtain⟨n,_,_,_,_,_,_,_,_,_,_,_,_,_,_,_,_,_,_,_,_,_,_,rfl,rfl,_,rfl⟩:=h; exact⟨by show 1<=10; decide,by show 2<=3; decide⟩) 10 rfl ?_) _;rintro xs os x os' w0 G0 B0 ⟨n,o1H,o1I,o1J,o1K,o1L,o1M,o1N,o1O,o1F,o1E,y0,z0H,z0I,z0J,z0K,z0L,z0M,z0N,z0O,z0F,z0E,h,rfl,rfl,rfl,rfl⟩ _;rw[zBI]at h;refine zSV ?_;show Tri ..
 refine zAa ?_;refine zSV ?_;refine zAl rfl (fun h=>by cases h) (fun _=>?_)
 refine zAe ?_;refine zSV ?_;obtain⟨y2,hy2,h⟩:=zAc h;refine⟨_,_,⟨_,_,_,hy2,rfl,rfl,rfl,rfl⟩,?_⟩
 refine zAg ?_;have hj0:=osi h;obtain⟨hv0,hw0⟩:=Prod.mk.inj hj0;subst hv0;obtain⟨he1R,hr1R⟩:=Prod.mk.inj hw0;obtain⟨he1S,hr1S⟩:=Prod.mk.inj hr1R;obtain⟨he1V,he1W⟩:=Prod.mk.inj hr1S;obtain⟨he2R,he2S,he2V,he2W⟩:=Nd.mk.inj he1R;subst he2R;subst he2S;subst he2V;subst he2W;obtain⟨he3R,he3S,he3V,he3W⟩:=Nd.mk.inj he1S;subst he3R;subst he3S;subst he3V;subst he3W;subst he1V;subst he1W;unfold zAM
 exact⟨_,(Le.trans (Le.rnm [(0,0),(1,2),(2,3)] [(2,.orow 3)] [(0,.box 57 [.s (.int .i64 o1H),.s (.str o1I),.s (.int .i64 o1J),.s (.sl 4 (Nd.encs o1K)),.s (.int .i64 o1L),.s (.str o1M),.s (.int .i64 o1N),.s (.sl 4 (Nd.encs o1O)),.orow 2,.s (.int .i64 o1E)]),(2,.row 40 5 ((List.map zAh) o1F)),(3,.row 40 5 ((List.map zAh) y2))] 4 ⟨rfl,trivial⟩ ⟨rfl,⟨_,rfl,rfl⟩,rfl,⟨_,rfl,rfl⟩,rfl,⟨_,rfl,rfl⟩,trivial⟩) (Le.giveRow 3 rfl)),rfl,rfl,rfl,rfl,rfl,rfl,trivial⟩
def zN9 (n:Nat) (xs:List AV) (r:Ret):Prop:=∃ (y0:Bool),zEB n=some y0/\xs=[]/\r = .val (.s (.bool y0))
def zJx:zAp:=zAr fun xs r=>∃ n,zN9 n xs r
theorem zNA:PSound Try.prog 5 zJx:=by
 have gok:∀ f s,look? f [(9,zHE),(10,zD4),(12,zDj),(16,zDk),(11,zCL)]=some s->PSound Try.prog f s:=zAm (by
  simp only[List.forall_mem_cons]
  exact⟨zKI,zGg,zFD,zFE,zEO,by simp⟩)
 refine zAw tokW Try.call5 Try.func5 rfl (fun xs r h=>by obtain⟨n,_,_,rfl,_⟩:=h; show 0<=57; decide) 57 rfl ?_;rintro xs r w0 G0 ⟨n,y0,h,rfl,rfl⟩ _;rw[zEB]at h;refine zSV ?_;refine zSV ?_;obtain⟨⟨y1,y2⟩,hy1,h⟩:=zAc h;cases y1 with
 | none =>
  obtain⟨hq,h⟩:=zAy h;subst hq;refine⟨_,_,⟨_,_,_,_,hy1,rfl,rfl,rfl,rfl⟩,?_⟩
  refine zAk (Le.rnm [] [(1,.s (.np)),(2,.s (.int .i64 1))] [] 0 ⟨rfl,rfl,trivial⟩ trivial) ?_;refine zAa ?_;refine zSV ?_;refine zAl rfl (fun _=>?_) (fun h=>by cases h)
  refine zSV ?_;refine zAg ?_;have hy:=osi h;subst hy;exact fin0 rfl rfl
 | some w3 =>
  obtain⟨⟨w3H,w3I,w3J,w3K⟩,⟨w3L,w3M,w3N,w3O⟩,w3F,w3E⟩:=w3;obtain⟨hq,h⟩:=zAy h;subst hq;refine⟨_,_,⟨_,_,_,_,hy1,rfl,rfl,rfl,rfl⟩,?_⟩
  refine zAk (Le.rnm [(0,0),(1,1)] [(1,.op 0 0),(2,.s (.int .i64 0))] [(0,.box 57 [.s (.int .i64 w3H),.s (.str w3I),.s (.int .i64 w3J),.s (.sl 4 (Nd.encs w3K)),.s (.int .i64 w3L),.s (.str w3M),.s (.int .i64 w3N),.s (.sl 4 (Nd.encs w3O)),.orow 1,.s (.int .i64 w3E)]),(1,.row 40 5 ((List.map zAh) w3F))] 2 ⟨rfl,rfl,trivial⟩ ⟨rfl,⟨_,rfl,rfl⟩,rfl,⟨_,rfl,rfl⟩,trivial⟩) ?_;refine zAa ?_;refine zSV ?_;refine zAl rfl (fun h=>by cases h) (fun _=>?_)
  refine zAe ?_;refine zSg [] [20,22] rfl ?_;intro r4 hr4;obtain rfl:Nd.encs [Nd.mk 2 [120] 0 []]=r4:=(hr4.trans zFt).symm;intro r5 hr5
  obtain rfl:(List.map zAs) [(1,[],0,0,[Nd.mk 2 [120] 0 []],0,[],[])]=r5:=(hr5.trans zFt).symm;obtain⟨⟨y6,⟨⟨w7H,w7I,w7J,w7K⟩,⟨w7L,w7M,w7N,w7O⟩,w7F,w7E⟩⟩,hy6,h⟩:=zAc h;refine⟨_,_,⟨_,_,_,_,_,_,_,_,_,_,_,_,_,_,_,_,_,_,_,_,_,_,_,hy6,rfl,rfl,rfl,rfl⟩,?_⟩
  refine zAk (Le.rnm [(0,0),(2,1)] [(1,.op 0 0),(3,.s (.int .i64 y6))] [(0,.box 57 [.s (.int .i64 w7H),.s (.str w7I),.s (.int .i64 w7J),.s (.sl 4 (Nd.encs w7K)),.s (.int .i64 w7L),.s (.str w7M),.s (.int .i64 w7N),.s (.sl 4 (Nd.encs w7O)),.orow 1,.s (.int .i64 w7E)]),(1,.row 40 5 ((List.map zAh) w7F))] 2 ⟨rfl,rfl,trivial⟩ ⟨rfl,⟨_,rfl,rfl⟩,rfl,⟨_,rfl,rfl⟩,trivial⟩) ?_;refine zSg [] [28] rfl ?_
  obtain⟨⟨⟨y8A,y8C,y8D,y8B⟩,⟨⟨w9H,w9I,w9J,w9K⟩,⟨w9L,w9M,w9N,w9O⟩,w9F,w9E⟩⟩,hy8,h⟩:=zAc h;refine⟨_,_,⟨_,_,_,_,_,_,_,_,_,_,_,_,_,_,_,_,_,_,_,_,_,hy8,rfl,rfl,rfl,rfl⟩,?_⟩
  intro n10 hn10;obtain rfl:(y8B.length:Int)=n10:=(hn10.trans (congrArg (fun m:Nat=>(m:Int)) (rlen Nd.encs_eq y8B))).symm;show Tri ..
  refine zAk (Le.rnm [(0,0),(2,1)] [(1,.op 0 0),(3,.s (.int .i64 y6)),(4,.s (.int .i64 (y8B.length:Int)))] [(0,.box 57 [.s (.int .i64 w9H),.s (.str w9I),.s (.int .i64 w9J),.s (.sl 4 (Nd.encs w9K)),.s (.int .i64 w9L),.s (.str w9M),.s (.int .i64 w9N),.s (.sl 4 (Nd.encs w9O)),.orow 1,.s (.int .i64 w9E)]),(1,.row 40 5 ((List.map zAh) w9F))] 2 ⟨rfl,rfl,rfl,trivial⟩ ⟨rfl,⟨_,rfl,rfl⟩,rfl,⟨_,rfl,rfl⟩,trivial⟩) ?_;refine zSg [5] [] rfl ?_
  obtain⟨⟨⟨y11Am,y11An⟩,y12,⟨⟨w13H,w13I,w13J,w13K⟩,⟨w13L,w13M,w13N,w13O⟩,w13F,w13E⟩⟩,hy11,h⟩:=zAc h;refine⟨_,_,⟨_,_,_,_,_,_,_,_,_,_,_,_,_,_,_,_,_,_,_,_,_,_,_,hy11,rfl,rfl,rfl,rfl⟩,?_⟩
  refine zAk (Le.giveBox 3 [.sl 1 ((List.map (irow .i64)) y11Am),.sl 1 ((List.map (irow .i64)) y11An)] rfl rfl) ?_;refine zAa ?_;obtain⟨x14,hj,h⟩:=zAc h;refine zAo ⟨ofL [(0,.s (.bool x14))],fun _=>none,0⟩ ?_ (fun σ' hle=>?_)
  ·replace h:=hj;refine zAb [] [36,40,44,48,51,54] rfl ?_;intro b hb;cases b with
   | true =>
    replace h:=zAu hb.symm h;intro b hb;cases b with
    | true =>
     replace h:=zAu hb.symm h;intro b hb;cases b with
     | true =>
      replace h:=zAu hb.symm h;obtain⟨⟨⟨y15A,y15C,y15D,y15B⟩,⟨⟨w16H,w16I,w16J,w16K⟩,⟨w16L,w16M,w16N,w16O⟩,w16F,w16E⟩⟩,hy15,h⟩:=zAc h;refine⟨_,_,⟨_,_,_,_,_,_,_,_,_,_,_,_,_,_,_,_,_,_,_,_,_,hy15,rfl,rfl,rfl,rfl⟩,?_⟩
      intro n17 hn17;obtain rfl:(y15B.length:Int)=n17:=(hn17.trans (congrArg (fun m:Nat=>(m:Int)) (rlen Nd.encs_eq y15B))).symm;intro b hb;cases b with
      | true =>
       replace h:=zAu hb.symm h;obtain⟨⟨y18,⟨⟨w19H,w19I,w19J,w19K⟩,⟨w19L,w19M,w19N,w19O⟩,w19F,w19E⟩⟩,hy18,h⟩:=zAc h;refine⟨_,_,⟨_,_,_,_,_,_,_,_,_,_,_,_,_,_,_,_,_,_,_,_,_,_,hy18,rfl,rfl,rfl,rfl⟩,?_⟩
       intro n20 hn20;obtain rfl:(y18.length:Int)=n20:=(hn20.trans (congrArg (fun m:Nat=>(m:Int)) (rlen (fun _=>rfl) y18))).symm;cases h;exact(Le.rnm [] _ [] 0 ⟨rfl,trivial⟩ trivial)
      | false =>
       replace h:=zAt hb.symm h;cases h;exact(Le.rnm [] _ [] 0 ⟨rfl,trivial⟩ trivial)
     | false =>
      replace h:=zAt hb.symm h;intro b hb;subst hb;cases h;exact(Le.rnm [] _ [] 0 ⟨rfl,trivial⟩ trivial)
    | false =>
     replace h:=zAt hb.symm h;intro b hb;subst hb;intro b hb;subst hb;cases h;exact(Le.rnm [] _ [] 0 ⟨rfl,trivial⟩ trivial)
   | false =>
    replace h:=zAt hb.symm h;intro b hb;subst hb;intro b hb;subst hb;intro b hb;subst hb;cases h;exact(Le.rnm [] _ [] 0 ⟨rfl,trivial⟩ trivial)
  ·refine zAk hle ?_;refine zAg ?_;have hy:=osi h;subst hy;exact fin0 rfl rfl
def zFg (n:Nat) (xs:List AV) (r:Ret):Prop:=∃ (a0:Nd) (a1:Int) (y0:Int),zCA n a0 a1=some y0/\xs=[.agg ((Nd.enc a0).map .s),.s (.int .i64 a1)]/\r = .val (.s (.int .i64 y0))
theorem zMC (n:Nat) (ih:PSound Try.prog 20 (zAr (zFg n))):PSound Try.prog 20 (zAr (zFg (n+1))):=by
 have gok:∀ f s,look? f [(20,zAr (zFg n))]=some s->PSound Try.prog f s:=zAm (by
  simp only[List.forall_mem_cons]
  exact⟨ih,by simp⟩)
 refine zAw tokW Try.call20 Try.func20 rfl (fun xs r h=>by obtain⟨_,_,_,_,rfl,_⟩:=h; show 2<=27; decide) 27 rfl ?_;rintro xs r w0 G0 ⟨⟨n1A,n1C,n1D,n1B⟩,most2,y0,h,rfl,rfl⟩ _;rw[zCA]at h;refine zSV ?_;refine zSV ?_;refine zAa ?_;refine zSV ?_;show Tri ..;obtain⟨most5,hl,h⟩:=zAc h;refine zAo ⟨ofL [(1,.s (.int .i64 most5))],fun _=>none,0⟩ ?_ (fun σ' hle=>?_)
 ·refine zAi (zAz (X:=Nat×Int×Int) (fun y=>match y with | (k,most3,i4)=>⟨ofL [(1,.s (.int .i64 most3)),(2,.s (.pt [.int .i64 n1A,.str n1C,.int .i64 n1D,.sl 4 (Nd.encs n1B)])),(5,.s (.int .i64 i4))],fun _=>none,0⟩) (fun y=>zBF (zCA n) n1B y.1 y.2.1 y.2.2=some most5) (fun y=>y.1) (n,IntKind.i64.wrap (most2 - 1),0) hl ?_ ?_)
  ·exact(Le.forget _ ⟨rfl,rfl,rfl,trivial⟩)
  ·rintro⟨k,most3,i4⟩ h;cases k with
   | zero=>cases h
   | succ k =>
    replace h:zBF (zCA n) n1B (k+1) most3 i4=some most5:=h;rw[zBF]at h;refine zAa ?_;refine zAa ?_;obtain⟨x6,hj,h⟩:=zAc h;refine zAo ⟨ofL [(1,.s (.int .i64 most3)),(2,.s (.pt [.int .i64 n1A,.str n1C,.int .i64 n1D,.sl 4 (Nd.encs n1B)])),(5,.s (.int .i64 i4)),(16,.s (.bool x6))],fun _=>none,0⟩ ?_ (fun σ' hle=>?_)
    ·replace h:=hj;refine zAb [] [11,13] rfl ?_;intro n7 hn7;obtain rfl:(n1B.length:Int)=n7:=(hn7.trans (congrArg (fun m:Nat=>(m:Int)) (rlen Nd.encs_eq n1B))).symm;intro b hb;cases b with
     | true =>
      replace h:=zAu hb.symm h;cases h;exact(Le.forget _ ⟨rfl,rfl,rfl,rfl,trivial⟩)
     | false =>
      replace h:=zAt hb.symm h;cases h;exact(Le.forget _ ⟨rfl,rfl,rfl,rfl,trivial⟩)
    ·refine zAk hle ?_;refine zAj rfl h (fun hb h=>?_) (fun hb h=>?_)
     ·refine zAe ?_;refine zAa ?_;refine zAi ?_;refine zAb [] [22] rfl ?_;obtain⟨⟨e8A,e8C,e8D,e8B⟩,he8,h⟩:=zAc h;refine And.intro (zAO Nd.encs_eq he8).1 ?_;intro r9 hr9;obtain rfl:[.int .i64 e8A,.str e8C,.int .i64 e8D,.sl 4 (Nd.encs e8B)]=r9:=(hr9.trans (zAO Nd.encs_eq he8).2.1).symm;obtain⟨y10,hy10,h⟩:=zAc h;refine⟨_,⟨_,_,_,hy10,rfl,rfl⟩,?_⟩
      refine zSU ?_;refine⟨(k,y10,IntKind.i64.wrap (i4+1)),h,(Le.forget _ ⟨rfl,rfl,rfl,trivial⟩),Nat.lt_succ_self k⟩
     ·refine zAx ?_;cases h;exact(Le.forget _ ⟨rfl,trivial⟩)
 ·refine zAk hle ?_;refine zSV ?_;refine zAg ?_;have hy:=osi h;subst hy;exact fin0 rfl rfl
theorem zM2:∀ n,PSound Try.prog 20 (zAr (zFg n)):=by
 intro n
 induction n with
 | zero=>exact zBL Try.call20 (fun xs r h=>by obtain⟨_,_,_,h,_⟩:=h; cases h)
 | succ n ih=>exact zMC n ih
def zK5:zAp:=zAr fun xs r=>∃ n,zFg n xs r
theorem zOt:PSound Try.prog 20 zK5:=zCB zM2
def zPP (n:Nat) (xs:List AV) (r:Ret):Prop:=∃ (a0:Nd) (a1:Int) (y0:Bool),zGb n a0 a1=some y0/\xs=[.agg ((Nd.enc a0).map .s),.s (.int .i64 a1)]/\r = .val (.s (.bool y0))
def zMY:zAp:=zAr fun xs r=>∃ n,zPP n xs r
theorem zPy:PSound Try.prog 6 zMY:=by
 have gok:∀ f s,look? f [(20,zK5)]=some s->PSound Try.prog f s:=zAm (by
  simp only[List.forall_mem_cons]
  exact⟨zOt,by simp⟩)
 refine zAw tokW Try.call6 Try.func6 rfl (fun xs r h=>by obtain⟨n,_,_,_,_,rfl,_⟩:=h; show 2<=9; decide) 9 rfl ?_;rintro xs r w0 G0 ⟨n,⟨n1A,n1C,n1D,n1B⟩,most2,y0,h,rfl,rfl⟩ _;rw[zGb]at h;refine zSV ?_;refine zSV ?_;obtain⟨y3,hy3,h⟩:=zAc h;refine⟨_,⟨_,_,_,_,hy3,rfl,rfl⟩,?_⟩
 refine zAg ?_;have hy:=osi h;subst hy;exact fin0 rfl rfl
def zFU (n:Nat) (xs:List AV) (r:Ret):Prop:=∃ (a0:Int) (y0:List UInt8),zDc n a0=some y0/\xs=[.s (.int .i64 a0)]/\r = .val (.s (.str y0))
theorem zN0 (n:Nat) (ih:PSound Try.prog 29 (zAr (zFU n))):PSound Try.prog 29 (zAr (zFU (n+1))):=by
 have gok:∀ f s,look? f [(29,zAr (zFU n))]=some s->PSound Try.prog f s:=zAm (by
  simp only[List.forall_mem_cons]
  exact⟨ih,by simp⟩)
 refine zAw tokW Try.call29 Try.func29 rfl (fun xs r h=>by obtain⟨_,_,_,rfl,_⟩:=h; show 1<=44; decide) 44 rfl ?_;rintro xs r w0 G0 ⟨n1,y0,h,rfl,rfl⟩ _;rw[zDc]at h;refine zSV ?_;refine zAa ?_;refine zSV ?_;refine zAj rfl h (fun hb h=>?_) (fun hb h=>?_)
 ·refine zSg [] [11,12] rfl ?_;refine And.intro (by decide) ?_;intro r2 hr2;obtain rfl:(List.map brow) [b8of (IntKind.u8.wrap (IntKind.i64.wrap (48 - (n1.tmod 10))))]=r2:=(hr2.trans zFt).symm
  refine And.intro (show List.map brow [b8of (IntKind.u8.wrap (IntKind.i64.wrap (48 - (n1.tmod 10))))]=((List.map brow [b8of (IntKind.u8.wrap (IntKind.i64.wrap (48 - (n1.tmod 10))))]).map zEW).map brow from by rw[zDG]) ?_;intro s3 hs3;obtain rfl:[b8of (IntKind.u8.wrap (IntKind.i64.wrap (48 - (n1.tmod 10))))]=s3:=(hs3.trans (zDG _)).symm;refine zAa ?_;refine zSV ?_;refine And.intro (by decide) ?_;refine zAj rfl h (fun hb h=>?_) (fun hb h=>?_)
  ·refine zSV ?_;refine And.intro (by decide) ?_;obtain⟨y4,hy4,h⟩:=zAc h;refine⟨_,⟨_,_,hy4,rfl,rfl⟩,?_⟩
   obtain⟨hq,h⟩:=zAy h;refine And.intro (Nat.le_trans hq (by decide)) ?_;obtain⟨hq,h⟩:=zAy h;refine And.intro (Nat.le_trans hq (by decide)) ?_;refine zAg ?_;have hy:=osi h;subst hy;exact fin0 rfl rfl
  ·refine zAe ?_;refine zSV ?_;obtain⟨hq,h⟩:=zAy h;refine And.intro (Nat.le_trans hq (by decide)) ?_;refine zAg ?_;have hy:=osi h;subst hy;exact fin0 rfl rfl
 ·refine zAe ?_;refine zSV ?_;refine zAa ?_;obtain⟨⟨n7,s8⟩,hl,h⟩:=zAc h;refine zAo ⟨ofL [(0,.s (.int .i64 n7)),(4,.s (.str s8))],fun _=>none,0⟩ ?_ (fun σ' hle=>?_)
  ·refine zAi (zAz (X:=Nat×Int×(List UInt8)) (fun y=>match y with | (k,n5,s6)=>⟨ofL [(0,.s (.int .i64 n5)),(4,.s (.str s6))],fun _=>none,0⟩) (fun y=>zA9  y.1 y.2.1 y.2.2=some (n7,s8)) (fun y=>y.1) (n,n1,[]) hl ?_ ?_)
   ·exact(Le.forget _ ⟨rfl,rfl,trivial⟩)
   ·rintro⟨k,n5,s6⟩ h;cases k with
    | zero=>cases h
    | succ k =>
     replace h:zA9  (k+1) n5 s6=some (n7,s8):=h;rw[zA9]at h;refine zAa ?_;refine zSV ?_;refine zAj rfl h (fun hb h=>?_) (fun hb h=>?_)
     ·refine zAe ?_;refine zAi ?_;refine zSg [] [31,32] rfl ?_;refine And.intro (by decide) ?_;intro r9 hr9;obtain rfl:(List.map brow) [b8of (IntKind.u8.wrap (IntKind.i64.wrap (48+(n5.tmod 10))))]=r9:=(hr9.trans zFt).symm
      refine And.intro (show List.map brow [b8of (IntKind.u8.wrap (IntKind.i64.wrap (48+(n5.tmod 10))))]=((List.map brow [b8of (IntKind.u8.wrap (IntKind.i64.wrap (48+(n5.tmod 10))))]).map zEW).map brow from by rw[zDG]) ?_;intro s10 hs10;obtain rfl:[b8of (IntKind.u8.wrap (IntKind.i64.wrap (48+(n5.tmod 10))))]=s10:=(hs10.trans (zDG _)).symm;obtain⟨hq,h⟩:=zAy h;refine And.intro (Nat.le_trans hq (by decide)) ?_;refine zSU ?_;refine And.intro (by decide) ?_
      refine⟨(k,IntKind.i64.wrap (n5.tdiv 10),[b8of (IntKind.u8.wrap (IntKind.i64.wrap (48+(n5.tmod 10))))]++s6),h,(Le.forget _ ⟨rfl,rfl,trivial⟩),Nat.lt_succ_self k⟩
     ·refine zAx ?_;cases h;exact(Le.forget _ ⟨rfl,rfl,trivial⟩)
  ·refine zAk hle ?_;refine zSg [] [40,41] rfl ?_;intro r11 hr11;obtain rfl:(List.map brow) [b8of (IntKind.u8.wrap (IntKind.i64.wrap (48+n7)))]=r11:=(hr11.trans zFt).symm
   refine And.intro (show List.map brow [b8of (IntKind.u8.wrap (IntKind.i64.wrap (48+n7)))]=((List.map brow [b8of (IntKind.u8.wrap (IntKind.i64.wrap (48+n7)))]).map zEW).map brow from by rw[zDG]) ?_;intro s12 hs12;obtain rfl:[b8of (IntKind.u8.wrap (IntKind.i64.wrap (48+n7)))]=s12:=(hs12.trans (zDG _)).symm;obtain⟨hq,h⟩:=zAy h;refine And.intro (Nat.le_trans hq (by decide)) ?_;refine zAg ?_;have hy:=osi h;subst hy;exact fin0 rfl rfl
theorem zOf:∀ n,PSound Try.prog 29 (zAr (zFU n)):=by
 intro n
 induction n with
 | zero=>exact zBL Try.call29 (fun xs r h=>by obtain⟨_,_,h,_⟩:=h; cases h)
 | succ n ih=>exact zN0 n ih
def zMZ:zAp:=zAr fun xs r=>∃ n,zFU n xs r
theorem zPz:PSound Try.prog 29 zMZ:=zCB zOf
def zMV (n:Nat) (xs:List AV) (r:Ret):Prop:=∃ (a0:List UInt8) (y0:List UInt8),zDO n a0=some y0/\xs=[.s (.str a0)]/\r = .val (.s (.str y0))
def zII:zAp:=zAr fun xs r=>∃ n,zMV n xs r
theorem zMk:PSound Try.prog 30 zII:=by
 have gok:=@gok0 Try.prog;refine zAw tokW Try.call30 Try.func30 rfl (fun xs r h=>by obtain⟨n,_,_,_,rfl,_⟩:=h; show 1<=35; decide) 35 rfl ?_;rintro xs r w0 G0 ⟨n,s1,y0,h,rfl,rfl⟩ _;rw[zDO]at h;refine zSV ?_;refine zSg [5] [] rfl ?_;show Tri ..
 refine zAk (Le.rnm [(0,0)] [(0,.s (.str s1)),(3,.orow 0)] [(0,.row 5 1 ((List.map brow) [b8of 34]))] 1 ⟨rfl,rfl,trivial⟩ ⟨rfl,⟨_,rfl,congrArg (Ob.row 5 1) zFt⟩,trivial⟩) ?_;refine zAa ?_;refine zSV ?_;show Tri ..;obtain⟨l5,hl,h⟩:=zAc h;refine zAo ⟨ofL [(3,.orow 0)],ofH [(0,.row 5 1 ((List.map brow) l5))],1⟩ ?_ (fun σ' hle=>?_)
 ·refine zAi (zAz (X:=Nat×Int×(List UInt8)) (fun y=>match y with | (k,i3,l4)=>⟨ofL [(0,.s (.str s1)),(3,.orow 0),(4,.s (.int .i64 i3))],ofH [(0,.row 5 1 ((List.map brow) l4))],1⟩) (fun y=>zBa s1 y.1 y.2.1 y.2.2=some l5) (fun y=>y.1) (n,0,[b8of 34]) hl ?_ ?_)
  ·exact(Le.rnm [(0,0)] _ _ _ ⟨rfl,rfl,rfl,trivial⟩ ⟨rfl,⟨_,rfl,rfl⟩,trivial⟩)
  ·rintro⟨k,i3,l4⟩ h;cases k with
   | zero=>cases h
   | succ k =>
    replace h:zBa s1 (k+1) i3 l4=some l5:=h;rw[zBa]at h;refine zAa ?_;refine zSV ?_;refine zAj rfl h (fun hb h=>?_) (fun hb h=>?_)
    ·refine zAe ?_;refine zAa ?_;obtain⟨l6,hj,h⟩:=zAc h;refine zAo ⟨ofL [(0,.s (.str s1)),(3,.orow 0),(4,.s (.int .i64 i3))],ofH [(0,.row 5 1 ((List.map brow) l6))],1⟩ ?_ (fun σ' hle=>?_)
     ·replace h:=hj;refine zAi ?_;refine zAa ?_;refine zAa ?_;obtain⟨x7,hj,h⟩:=zAc h;refine zAo ⟨ofL [(0,.s (.str s1)),(3,.orow 0),(4,.s (.int .i64 i3)),(21,.s (.bool x7))],ofH [(0,.row 5 1 ((List.map brow) l4))],1⟩ ?_ (fun σ' hle=>?_)
      ·replace h:=hj;refine zAb [] [14,16,19] rfl ?_;obtain⟨c8,hc8,h⟩:=zAc h;refine And.intro (zA3 hc8).1 ?_;intro v9 hv9;obtain rfl:(c8.toNat:Int)=v9:=(hv9.trans (zA3 hc8).2).symm;intro b hb;cases b with
       | true =>
        replace h:=zAu hb.symm h;cases h;exact(Le.rnm [(0,0)] _ _ _ ⟨rfl,rfl,rfl,rfl,trivial⟩ ⟨rfl,⟨_,rfl,rfl⟩,trivial⟩)
       | false =>
        replace h:=zAt hb.symm h;obtain⟨c10,hc10,h⟩:=zAc h;refine And.intro (zA3 hc10).1 ?_;intro v11 hv11;obtain rfl:(c10.toNat:Int)=v11:=(hv11.trans (zA3 hc10).2).symm;cases h;exact(Le.rnm [(0,0)] _ _ _ ⟨rfl,rfl,rfl,rfl,trivial⟩ ⟨rfl,⟨_,rfl,rfl⟩,trivial⟩)
      ·refine zAk hle ?_;obtain⟨l12,hj,h⟩:=zAc h;refine zAo ⟨ofL [(0,.s (.str s1)),(3,.orow 0),(4,.s (.int .i64 i3))],ofH [(0,.row 5 1 ((List.map brow) l12))],1⟩ ?_ (fun σ' hle=>?_)
       ·replace h:=hj;refine zAj rfl h (fun hb h=>?_) (fun hb h=>?_)
        ·refine zAb [24] [23] rfl ?_;intro r13 hr13;obtain rfl:(List.map brow) [b8of 92]=r13:=(hr13.trans zFt).symm;obtain⟨hq,h⟩:=zAy h
         refine And.intro (show(((List.map brow) l4).length+((List.map brow) [b8of 92]).length) * 1<=140737488355328/\((List.map brow) l4).length+((List.map brow) [b8of 92]).length<=9223372036854775807 from by simp only[List.length_append,List.length_cons,List.length_nil,List.length_map,rlen (fun _=>rfl)]at hq ⊢; omega) ?_;cases h
         exact(Le.trans (Le.rnm [(1,0)] [(0,.s (.str s1)),(3,.orow 0),(4,.s (.int .i64 i3))] [(0,.row 5 1 ((List.map brow) (l4++[b8of 92])))] 1 ⟨rfl,rfl,rfl,trivial⟩ ⟨rfl,⟨_,rfl,congrArg (Ob.row 5 1) zFt⟩,trivial⟩) (Le.rnm [(0,0)] _ _ _ ⟨rfl,rfl,rfl,trivial⟩ ⟨rfl,⟨_,rfl,rfl⟩,trivial⟩))
        ·refine zAe ?_;cases h;exact(Le.rnm [(0,0)] _ _ _ ⟨rfl,rfl,rfl,trivial⟩ ⟨rfl,⟨_,rfl,rfl⟩,trivial⟩)
       ·refine zAk hle ?_;refine zAb [30] [28,29] rfl ?_;obtain⟨c14,hc14,h⟩:=zAc h;refine And.intro (zA3 hc14).1 ?_;intro v15 hv15;obtain rfl:(c14.toNat:Int)=v15:=(hv15.trans (zA3 hc14).2).symm;intro r16 hr16;obtain rfl:(List.map brow) [c14]=r16:=(hr16.trans zFt).symm;obtain⟨hq,h⟩:=zAy h
        refine And.intro (show(((List.map brow) l12).length+((List.map brow) [c14]).length) * 1<=140737488355328/\((List.map brow) l12).length+((List.map brow) [c14]).length<=9223372036854775807 from by simp only[List.length_append,List.length_cons,List.length_nil,List.length_map,rlen (fun _=>rfl)]at hq ⊢; omega) ?_;cases h
        exact(Le.trans (Le.rnm [(1,0)] [(0,.s (.str s1)),(3,.orow 0),(4,.s (.int .i64 i3))] [(0,.row 5 1 ((List.map brow) (l12++[c14])))] 1 ⟨rfl,rfl,rfl,trivial⟩ ⟨rfl,⟨_,rfl,congrArg (Ob.row 5 1) zFt⟩,trivial⟩) (Le.rnm [(0,0)] _ _ _ ⟨rfl,rfl,rfl,trivial⟩ ⟨rfl,⟨_,rfl,rfl⟩,trivial⟩))
     ·refine zAk hle ?_;refine zSU ?_;refine⟨(k,IntKind.i64.wrap (i3+1),l6),h,(Le.rnm [(0,0)] _ _ _ ⟨rfl,rfl,rfl,trivial⟩ ⟨rfl,⟨_,rfl,rfl⟩,trivial⟩),Nat.lt_succ_self k⟩
    ·refine zAx ?_;cases h;exact(Le.rnm [(0,0)] _ _ _ ⟨rfl,trivial⟩ ⟨rfl,⟨_,rfl,rfl⟩,trivial⟩)
 ·refine zAk hle ?_;refine zSg [33] [32,34] rfl ?_;intro r17 hr17;obtain rfl:(List.map brow) [b8of 34]=r17:=(hr17.trans zFt).symm;obtain⟨hq,h⟩:=zAy h
  refine And.intro (show(((List.map brow) l5).length+((List.map brow) [b8of 34]).length) * 1<=140737488355328/\((List.map brow) l5).length+((List.map brow) [b8of 34]).length<=9223372036854775807 from by simp only[List.length_append,List.length_cons,List.length_nil,List.length_map,rlen (fun _=>rfl)]at hq ⊢; omega) ?_
  have hraw:((List.map brow) l5)++((List.map brow) [b8of 34])=(List.map brow) (l5++[b8of 34]):=(show((List.map brow) l5)++((List.map brow) [b8of 34])=(List.map brow) (l5++[b8of 34]) from zFt)
  refine And.intro (show((List.map brow) l5)++((List.map brow) [b8of 34])=((((List.map brow) l5)++((List.map brow) [b8of 34])).map zEW).map brow from by rw[hraw,zDG]) ?_;intro s18 hs18;obtain rfl:l5++[b8of 34]=s18:=(hs18.trans ((congrArg (List.map zEW) hraw).trans (zDG _))).symm;refine zAk (Le.rnm [] [(2,.s (.str (l5++[b8of 34])))] [] 0 ⟨rfl,trivial⟩ trivial) ?_;refine zAg ?_;have hy:=osi h;subst hy;exact fin0 rfl rfl
def zFe (n:Nat) (xs:List AV) (r:Ret):Prop:=∃ (a0:Nd) (y0:List UInt8),zCy n a0=some y0/\xs=[.agg ((Nd.enc a0).map .s)]/\r = .val (.s (.str y0))
theorem zMA (n:Nat) (ih:PSound Try.prog 13 (zAr (zFe n))):PSound Try.prog 13 (zAr (zFe (n+1))):=by
 have gok:∀ f s,look? f [(29,zMZ),(30,zII),(13,zAr (zFe n))]=some s->PSound Try.prog f s:=zAm (by
  simp only[List.forall_mem_cons]
  exact⟨zPz,zMk,ih,by simp⟩)
 refine zAw tokW Try.call13 Try.func13 rfl (fun xs r h=>by obtain⟨_,_,_,rfl,_⟩:=h; show 1<=69; decide) 69 rfl ?_;rintro xs r w0 G0 ⟨⟨a1A,a1C,a1D,a1B⟩,y0,h,rfl,rfl⟩ _;rw[zCy]at h;refine zSV ?_;refine zSg [3] [] rfl ?_;show Tri ..
 refine zAk (Le.giveBox 0 [.str [],.str [114,111,119],.str [115,121,109],.str [110,117,109],.str [116,101,120,116],.str [102,114,97,99],.str [114,111,111,116],.str [115,117,98],.str [115,117,112],.str [98,111,116,104],.str [97,99,99,101,110,116],.str [102,101,110,99,101],.str [109,97,116,114,105,120]] rfl rfl) ?_;refine zSV ?_;obtain⟨y2,hy2,h⟩:=zAc h;refine⟨_,⟨_,_,_,hy2,rfl,rfl⟩,?_⟩
 obtain⟨hq,h⟩:=zAy h;refine And.intro (Nat.le_trans hq (by decide)) ?_;refine zAa ?_;refine zAa ?_;obtain⟨x3,hj,h⟩:=zAc h
 refine zAo ⟨ofL [(1,.s (.pt [.int .i64 a1A,.str a1C,.int .i64 a1D,.sl 4 (Nd.encs a1B)])),(3,.s (.pt [.str [],.str [114,111,119],.str [115,121,109],.str [110,117,109],.str [116,101,120,116],.str [102,114,97,99],.str [114,111,111,116],.str [115,117,98],.str [115,117,112],.str [98,111,116,104],.str [97,99,99,101,110,116],.str [102,101,110,99,101],.str [109,97,116,114,105,120]])),(4,.s (.str ([110,111,100,101]++y2))),(18,.s (.bool x3))],fun _=>none,0⟩ ?_ (fun σ' hle=>?_)
 ·replace h:=hj;refine zAb [] [14] rfl ?_;intro b hb;cases b with
  | true =>
   replace h:=zAu hb.symm h;cases h;exact(Le.rnm [] _ [] 0 ⟨rfl,rfl,rfl,rfl,trivial⟩ trivial)
  | false =>
   replace h:=zAt hb.symm h;cases h;exact(Le.rnm [] _ [] 0 ⟨rfl,rfl,rfl,rfl,trivial⟩ trivial)
 ·refine zAk hle ?_;obtain⟨x4,hj,h⟩:=zAc h;refine zAo ⟨ofL [(1,.s (.pt [.int .i64 a1A,.str a1C,.int .i64 a1D,.sl 4 (Nd.encs a1B)])),(4,.s (.str x4))],fun _=>none,0⟩ ?_ (fun σ' hle=>?_)
  ·replace h:=hj;refine zAj rfl h (fun hb h=>?_) (fun hb h=>?_)
   ·refine zAb [] [20] rfl ?_;intro vsp hvsp;cases hc:(a1A == 1) with
    | true =>
     replace h:=zAu hc h;obtain rfl:(1:Int)=vsp:=(hvsp.trans (eq_of_beq hc)).symm;refine And.intro (by decide) ?_;cases h;exact(Le.forget _ ⟨rfl,rfl,trivial⟩)
    | false =>
     replace h:=zAt hc h;cases hc:(a1A == 2) with
     | true =>
      replace h:=zAu hc h;obtain rfl:(2:Int)=vsp:=(hvsp.trans (eq_of_beq hc)).symm;refine And.intro (by decide) ?_;cases h;exact(Le.forget _ ⟨rfl,rfl,trivial⟩)
     | false =>
      replace h:=zAt hc h;cases hc:(a1A == 3) with
      | true =>
       replace h:=zAu hc h;obtain rfl:(3:Int)=vsp:=(hvsp.trans (eq_of_beq hc)).symm;refine And.intro (by decide) ?_;cases h;exact(Le.forget _ ⟨rfl,rfl,trivial⟩)
      | false =>
       replace h:=zAt hc h;cases hc:(a1A == 4) with
       | true =>
        replace h:=zAu hc h;obtain rfl:(4:Int)=vsp:=(hvsp.trans (eq_of_beq hc)).symm;refine And.intro (by decide) ?_;cases h;exact(Le.forget _ ⟨rfl,rfl,trivial⟩)
       | false =>
        replace h:=zAt hc h;cases hc:(a1A == 5) with
        | true =>
         replace h:=zAu hc h;obtain rfl:(5:Int)=vsp:=(hvsp.trans (eq_of_beq hc)).symm;refine And.intro (by decide) ?_;cases h;exact(Le.forget _ ⟨rfl,rfl,trivial⟩)
        | false =>
         replace h:=zAt hc h;cases hc:(a1A == 6) with
         | true =>
          replace h:=zAu hc h;obtain rfl:(6:Int)=vsp:=(hvsp.trans (eq_of_beq hc)).symm;refine And.intro (by decide) ?_;cases h;exact(Le.forget _ ⟨rfl,rfl,trivial⟩)
         | false =>
          replace h:=zAt hc h;cases hc:(a1A == 7) with
          | true =>
           replace h:=zAu hc h;obtain rfl:(7:Int)=vsp:=(hvsp.trans (eq_of_beq hc)).symm;refine And.intro (by decide) ?_;cases h;exact(Le.forget _ ⟨rfl,rfl,trivial⟩)
          | false =>
           replace h:=zAt hc h;cases hc:(a1A == 8) with
           | true =>
            replace h:=zAu hc h;obtain rfl:(8:Int)=vsp:=(hvsp.trans (eq_of_beq hc)).symm;refine And.intro (by decide) ?_;cases h;exact(Le.forget _ ⟨rfl,rfl,trivial⟩)
           | false =>
            replace h:=zAt hc h;cases hc:(a1A == 9) with
            | true =>
             replace h:=zAu hc h;obtain rfl:(9:Int)=vsp:=(hvsp.trans (eq_of_beq hc)).symm;refine And.intro (by decide) ?_;cases h;exact(Le.forget _ ⟨rfl,rfl,trivial⟩)
            | false =>
             replace h:=zAt hc h;cases hc:(a1A == 10) with
             | true =>
              replace h:=zAu hc h;obtain rfl:(10:Int)=vsp:=(hvsp.trans (eq_of_beq hc)).symm;refine And.intro (by decide) ?_;cases h;exact(Le.forget _ ⟨rfl,rfl,trivial⟩)
             | false =>
              replace h:=zAt hc h;cases hc:(a1A == 11) with
              | true =>
               replace h:=zAu hc h;obtain rfl:(11:Int)=vsp:=(hvsp.trans (eq_of_beq hc)).symm;refine And.intro (by decide) ?_;cases h;exact(Le.forget _ ⟨rfl,rfl,trivial⟩)
              | false =>
               replace h:=zAt hc h;cases hc:(a1A == 12) with
               | true =>
                replace h:=zAu hc h;obtain rfl:(12:Int)=vsp:=(hvsp.trans (eq_of_beq hc)).symm;refine And.intro (by decide) ?_;cases h;exact(Le.forget _ ⟨rfl,rfl,trivial⟩)
               | false =>
                replace h:=zAt hc h;cases h
   ·refine zAe ?_;cases h;exact(Le.forget _ ⟨rfl,rfl,trivial⟩)
  ·refine zAk hle ?_;refine zAa ?_;refine zSV ?_;show Tri ..;obtain⟨x5,hj,h⟩:=zAc h;refine zAo ⟨ofL [(1,.s (.pt [.int .i64 a1A,.str a1C,.int .i64 a1D,.sl 4 (Nd.encs a1B)])),(4,.s (.str x5))],fun _=>none,0⟩ ?_ (fun σ' hle=>?_)
   ·replace h:=hj;refine zAj rfl h (fun hb h=>?_) (fun hb h=>?_)
    ·refine zSU ?_;obtain⟨hq,h⟩:=zAy h;refine And.intro (Nat.le_trans hq (by decide)) ?_;obtain⟨y6,hy6,h⟩:=zAc h;refine⟨_,⟨_,_,_,hy6,rfl,rfl⟩,?_⟩
     obtain⟨hq,h⟩:=zAy h;refine And.intro (Nat.le_trans hq (by decide)) ?_;cases h;exact(Le.forget _ ⟨rfl,rfl,trivial⟩)
    ·refine zAe ?_;cases h;exact(Le.forget _ ⟨rfl,rfl,trivial⟩)
   ·refine zAk hle ?_;refine zAa ?_;refine zSV ?_;show Tri ..;obtain⟨x7,hj,h⟩:=zAc h;refine zAo ⟨ofL [(1,.s (.pt [.int .i64 a1A,.str a1C,.int .i64 a1D,.sl 4 (Nd.encs a1B)])),(4,.s (.str x7))],fun _=>none,0⟩ ?_ (fun σ' hle=>?_)
    ·replace h:=hj;refine zAj rfl h (fun hb h=>?_) (fun hb h=>?_)
     ·refine zSU ?_;obtain⟨hq,h⟩:=zAy h;refine And.intro (Nat.le_trans hq (by decide)) ?_;obtain⟨y8,hy8,h⟩:=zAc h;refine⟨_,⟨_,_,_,hy8,rfl,rfl⟩,?_⟩
      obtain⟨hq,h⟩:=zAy h;refine And.intro (Nat.le_trans hq (by decide)) ?_;cases h;exact(Le.forget _ ⟨rfl,rfl,trivial⟩)
     ·refine zAe ?_;cases h;exact(Le.forget _ ⟨rfl,rfl,trivial⟩)
    ·refine zAk hle ?_;refine zAa ?_;refine zSg [] [43] rfl ?_;intro n9 hn9;obtain rfl:(a1B.length:Int)=n9:=(hn9.trans (congrArg (fun m:Nat=>(m:Int)) (rlen Nd.encs_eq a1B))).symm;refine zAj rfl h (fun hb h=>?_) (fun hb h=>?_)
     ·refine zSV ?_;refine zAg ?_;have hy:=osi h;subst hy;exact fin0 rfl rfl
     ·refine zAe ?_;refine zSV ?_;obtain⟨hq,h⟩:=zAy h;refine And.intro (Nat.le_trans hq (by decide)) ?_;refine zAa ?_;refine zSV ?_;show Tri ..;obtain⟨x12,hl,h⟩:=zAc h;refine zAo ⟨ofL [(4,.s (.str x12))],fun _=>none,0⟩ ?_ (fun σ' hle=>?_)
      ·refine zAi (zAz (X:=Nat×(List UInt8)×Int) (fun y=>match y with | (k,x10,x11)=>⟨ofL [(1,.s (.pt [.int .i64 a1A,.str a1C,.int .i64 a1D,.sl 4 (Nd.encs a1B)])),(4,.s (.str x10)),(5,.s (.int .i64 x11))],fun _=>none,0⟩) (fun y=>zBZ (zCy n) a1B y.1 y.2.1 y.2.2=some x12) (fun y=>y.1) (n,x7++[40],0) hl ?_ ?_)
       ·exact(Le.forget _ ⟨rfl,rfl,rfl,trivial⟩)
       ·rintro⟨k,x10,x11⟩ h;cases k with
        | zero=>cases h
        | succ k =>
         replace h:zBZ (zCy n) a1B (k+1) x10 x11=some x12:=h;rw[zBZ]at h;refine zAa ?_;refine zSg [] [51] rfl ?_;intro n13 hn13;obtain rfl:(a1B.length:Int)=n13:=(hn13.trans (congrArg (fun m:Nat=>(m:Int)) (rlen Nd.encs_eq a1B))).symm;refine zAj rfl h (fun hb h=>?_) (fun hb h=>?_)
         ·refine zAe ?_;refine zAa ?_;obtain⟨x14,hj,h⟩:=zAc h;refine zAo ⟨ofL [(1,.s (.pt [.int .i64 a1A,.str a1C,.int .i64 a1D,.sl 4 (Nd.encs a1B)])),(4,.s (.str x14)),(5,.s (.int .i64 x11))],fun _=>none,0⟩ ?_ (fun σ' hle=>?_)
          ·replace h:=hj;refine zAi ?_;refine zAa ?_;refine zSV ?_;show Tri ..;obtain⟨x15,hj,h⟩:=zAc h;refine zAo ⟨ofL [(1,.s (.pt [.int .i64 a1A,.str a1C,.int .i64 a1D,.sl 4 (Nd.encs a1B)])),(4,.s (.str x15)),(5,.s (.int .i64 x11))],fun _=>none,0⟩ ?_ (fun σ' hle=>?_)
           ·replace h:=hj;refine zAj rfl h (fun hb h=>?_) (fun hb h=>?_)
            ·refine zSU ?_;obtain⟨hq,h⟩:=zAy h;refine And.intro (Nat.le_trans hq (by decide)) ?_;cases h;exact(Le.forget _ ⟨rfl,rfl,rfl,trivial⟩)
            ·refine zAe ?_;cases h;exact(Le.forget _ ⟨rfl,rfl,rfl,trivial⟩)
           ·refine zAk hle ?_;refine zAb [] [63] rfl ?_;obtain⟨⟨e16A,e16C,e16D,e16B⟩,he16,h⟩:=zAc h;refine And.intro (zAO Nd.encs_eq he16).1 ?_;intro r17 hr17;obtain rfl:[.int .i64 e16A,.str e16C,.int .i64 e16D,.sl 4 (Nd.encs e16B)]=r17:=(hr17.trans (zAO Nd.encs_eq he16).2.1).symm;obtain⟨y18,hy18,h⟩:=zAc h;refine⟨_,⟨_,_,hy18,rfl,rfl⟩,?_⟩
            obtain⟨hq,h⟩:=zAy h;refine And.intro (Nat.le_trans hq (by decide)) ?_;cases h;exact(Le.forget _ ⟨rfl,rfl,rfl,trivial⟩)
          ·refine zAk hle ?_;refine zSU ?_;refine⟨(k,x14,IntKind.i64.wrap (x11+1)),h,(Le.forget _ ⟨rfl,rfl,rfl,trivial⟩),Nat.lt_succ_self k⟩
         ·refine zAx ?_;cases h;exact(Le.forget _ ⟨rfl,trivial⟩)
      ·refine zAk hle ?_;refine zSV ?_;obtain⟨hq,h⟩:=zAy h;refine And.intro (Nat.le_trans hq (by decide)) ?_;refine zAg ?_;have hy:=osi h;subst hy;exact fin0 rfl rfl
theorem zM0:∀ n,PSound Try.prog 13 (zAr (zFe n)):=by
 intro n
 induction n with
 | zero=>exact zBL Try.call13 (fun xs r h=>by obtain⟨_,_,h,_⟩:=h; cases h)
 | succ n ih=>exact zMA n ih
def zK2:zAp:=zAr fun xs r=>∃ n,zFe n xs r
theorem zOq:PSound Try.prog 13 zK2:=zCB zM0
def zHu:zAp:=zA5 fun xs os x os'=>xs=[.agg [.orow 0,.s (.sl 1 [])]]/\os=[.row 3 1 [[.int .i64 1]]]/\x = .agg [.s (.sl 1 [[.int .i64 1]]),.s (.sl 1 [])]/\os'=[some (.row 3 1 [[.int .i64 1]])]
theorem zJ9:PSound Try.prog 33 zHu:=by
 have gok:∀ f s,look? f [(42,orS zJq (ownS zDn))]=some s->PSound Try.prog f s:=zAm (by
  simp only[List.forall_mem_cons]
  exact⟨zNN zMm (PSound.toOwn zDQ),by simp⟩)
 refine zBm tokW Try.call33 Try.func33 rfl (fun xs os x os' h=>by obtain⟨rfl,rfl,_,rfl⟩:=h; exact⟨by show 1<=10; decide,by show 1<=1; decide⟩) 10 rfl ?_;rintro xs os x os' w0 G0 B0 ⟨rfl,rfl,rfl,rfl⟩ _;refine zSg [1,2] [] rfl ?_;refine zAa ?_;refine zH5 (two 1 1) (zF3 (Nat.le_of_ble_eq_true rfl) (Nat.le_of_ble_eq_true rfl)) [] [] [1,2,4,5,7] [2,4] rfl (by decide +kernel) ?_;refine⟨_,_,Or.inl (And.intro rfl (And.intro rfl (And.intro rfl rfl))),?_⟩
 refine And.intro (zLf rfl rfl) ?_;refine⟨_,_,Or.inr ⟨rfl,⟨[],[],zP1,rfl,rfl⟩,rfl,rfl⟩,?_⟩
 refine zAg ?_;unfold zAM;exact⟨_,Le.rename [(0,0),(2,1)] [(2,.op 1 0)] [(0,.row 3 1 [[.int .i64 1]]),(1,.box 38 [.s (.sl 1 [[.int .i64 1]]),.s (.sl 1 [])])] 2 ⟨rfl,trivial⟩ ⟨rfl,⟨_,rfl,rfl⟩,rfl,⟨_,rfl,rfl⟩,trivial⟩ rfl rfl rfl rfl rfl,rfl,rfl,rfl,rfl,trivial⟩
theorem zRH:zBV ([],[])=some ([],[]):=rfl
theorem zSz:zBV ([1],[])=some ([1],[]):=rfl
def zHv:zAp:=zA5 fun xs os x os'=>xs=[.agg [.orow 0,.s (.sl 1 []),.s (.sl 1 []),.orow 2,.s (.sl 1 [])]]/\os=[.arow 35 8 [[.s (.int .i64 1),.s (.sl 1 []),.s (.int .i64 0),.s (.int .i64 0),.orow 1,.s (.int .i64 0),.s (.str []),.s (.str [])]],.row 24 4 [[.int .i64 3,.str [49],.int .i64 0,.sl 4 []]],.row 3 1 [[.int .i64 1]]]/\x = .agg [.s (.sl 8 [[.int .i64 1,.sl 1 [],.int .i64 0,.int .i64 0,.sl 4 [[.int .i64 3,.str [49],.int .i64 0,.sl 4 []]],.int .i64 0,.str [],.str []]]),.s (.sl 1 []),.s (.sl 1 []),.s (.sl 1 [[.int .i64 1]]),.s (.sl 1 [])]/\os'=[some (.arow 35 8 [[.s (.int .i64 1),.s (.sl 1 []),.s (.int .i64 0),.s (.int .i64 0),.orow 1,.s (.int .i64 0),.s (.str []),.s (.str [])]]),some (.row 24 4 [[.int .i64 3,.str [49],.int .i64 0,.sl 4 []]]),some (.row 3 1 [[.int .i64 1]])]
theorem zKa:PSound Try.prog 27 zHv:=by
 have gok:∀ f s,look? f [(33,orS zHu (ownS zC1)),(39,zK0)]=some s->PSound Try.prog f s:=zAm (by
  simp only[List.forall_mem_cons]
  exact⟨zNN zJ9 (PSound.toOwn zDC),zNJ,by simp⟩)
 refine zBm tokW Try.call27 Try.func27 rfl (fun xs os x os' h=>by obtain⟨rfl,rfl,_,rfl⟩:=h; exact⟨by show 1<=13; decide,by show 3<=3; decide⟩) 13 rfl ?_;rintro xs os x os' w0 G0 B0 ⟨rfl,rfl,rfl,rfl⟩ _;refine zSg [1,2] [] rfl ?_;refine zAa ?_;refine zH5 (two 3 3) (zF3 (Nat.le_of_ble_eq_true rfl) (Nat.le_of_ble_eq_true rfl)) [] [] [1,2,4,5,7,8,10] [2,4,5,7] rfl (by decide +kernel) ?_;refine⟨_,_,⟨rfl,rfl,rfl,rfl⟩,?_⟩
 refine And.intro (zLf rfl rfl) ?_;refine⟨_,_,Or.inr ⟨rfl,⟨([],[]),([],[]),zRH,rfl,rfl⟩,rfl,rfl⟩,?_⟩
 refine And.intro (zLf rfl rfl) ?_;refine⟨_,_,Or.inl (And.intro rfl (And.intro rfl (And.intro rfl rfl))),?_⟩
 refine zAg ?_;unfold zAM
 exact⟨_,Le.rename [(0,0),(1,1),(2,2),(4,3)] [(2,.op 3 0)] [(0,.arow 35 8 [[.s (.int .i64 1),.s (.sl 1 []),.s (.int .i64 0),.s (.int .i64 0),.orow 1,.s (.int .i64 0),.s (.str []),.s (.str [])]]),(1,.row 24 4 [[.int .i64 3,.str [49],.int .i64 0,.sl 4 []]]),(2,.row 3 1 [[.int .i64 1]]),(3,.box 40 [.s (.sl 8 [[.int .i64 1,.sl 1 [],.int .i64 0,.int .i64 0,.sl 4 [[.int .i64 3,.str [49],.int .i64 0,.sl 4 []]],.int .i64 0,.str [],.str []]]),.s (.sl 1 []),.s (.sl 1 []),.s (.sl 1 [[.int .i64 1]]),.s (.sl 1 [])])] 4 ⟨rfl,trivial⟩ ⟨rfl,⟨_,rfl,rfl⟩,rfl,⟨_,rfl,rfl⟩,rfl,⟨_,rfl,rfl⟩,rfl,⟨_,rfl,rfl⟩,trivial⟩ rfl rfl rfl rfl rfl,rfl,rfl,rfl,rfl,rfl,rfl,rfl,rfl,trivial⟩
def zHt:zAp:=zA5 fun xs os x os'=>xs=[.agg [.s (.sl 8 [[.int .i64 1,.sl 1 [],.int .i64 0,.int .i64 0,.sl 4 [[.int .i64 3,.str [49],.int .i64 0,.sl 4 []]],.int .i64 0,.str [],.str []]]),.s (.sl 1 []),.s (.sl 1 []),.s (.sl 1 [[.int .i64 1]]),.s (.sl 1 [])]]/\os=[]/\x = .agg [.orow 0,.s (.sl 1 []),.s (.sl 1 []),.s (.sl 1 [[.int .i64 1]]),.s (.sl 1 [])]/\os'=[some (.arow 35 8 [[.s (.int .i64 1),.s (.sl 1 []),.s (.int .i64 0),.s (.int .i64 0),.orow 1,.s (.int .i64 0),.s (.str []),.s (.str [])]]),some (.row 24 4 [[.int .i64 3,.str [49],.int .i64 0,.sl 4 []]])]
theorem zJ8:PSound Try.prog 27 zHt:=by
 have gok:∀ f s,look? f [(33,zC1),(39,zKZ)]=some s->PSound Try.prog f s:=zAm (by
  simp only[List.forall_mem_cons]
  exact⟨zDC,zNI,by simp⟩)
 refine zBm tokW Try.call27 Try.func27 rfl (fun xs os x os' h=>by obtain⟨rfl,rfl,_,rfl⟩:=h; exact⟨by show 1<=13; decide,by show 0<=2; decide⟩) 13 rfl ?_;rintro xs os x os' w0 G0 B0 ⟨rfl,rfl,rfl,rfl⟩ _;refine zSg [1,2] [] rfl ?_;refine zAa ?_;refine zH5 (two 0 0) (zF3 (Nat.le_of_ble_eq_true rfl) (Nat.le_of_ble_eq_true rfl)) [] [] [1,2,4,7,10] [2,4,7] rfl (by decide +kernel) ?_;refine⟨_,_,⟨rfl,rfl,rfl,rfl⟩,?_⟩
 refine And.intro (zLf rfl rfl) ?_;refine⟨_,⟨([],[]),([],[]),zRH,rfl,rfl⟩,?_⟩
 refine⟨_,⟨([1],[]),([1],[]),zSz,rfl,rfl⟩,?_⟩
 refine zAg ?_;unfold zAM;exact⟨_,Le.rename [(2,0),(3,1),(1,2)] [(2,.op 2 0)] [(0,.arow 35 8 [[.s (.int .i64 1),.s (.sl 1 []),.s (.int .i64 0),.s (.int .i64 0),.orow 1,.s (.int .i64 0),.s (.str []),.s (.str [])]]),(1,.row 24 4 [[.int .i64 3,.str [49],.int .i64 0,.sl 4 []]]),(2,.box 40 [.orow 0,.s (.sl 1 []),.s (.sl 1 []),.s (.sl 1 [[.int .i64 1]]),.s (.sl 1 [])])] 3 ⟨rfl,trivial⟩ ⟨rfl,⟨_,rfl,rfl⟩,rfl,⟨_,rfl,rfl⟩,rfl,⟨_,rfl,rfl⟩,trivial⟩ rfl rfl rfl rfl rfl,rfl,rfl,rfl,rfl,rfl,rfl,trivial⟩
def zJr:zAp:=zA5 fun xs os x os'=>∃ (rows:List (List S)),xs=[.orow 0]/\os=[.row 24 4 rows]/\x = .agg [.s (.int .i64 1),.s (.str []),.s (.int .i64 0),.orow 0]/\os'=[some (.row 24 4 rows)]
theorem zMn:PSound Try.prog 8 zJr:=by
 have gok:=@gok0 Try.prog;refine zBm tokW Try.call8 Try.func8 rfl (fun xs os x os' h=>by obtain⟨_,rfl,rfl,_,rfl⟩:=h; exact⟨by show 1<=5; decide,by show 1<=1; decide⟩) 5 rfl ?_;rintro xs os x os' w0 G0 B0 ⟨rows,rfl,rfl,rfl,rfl⟩ _;refine zSg [2] [] rfl ?_;refine zSV ?_;refine zAg ?_;unfold zAM;exact⟨_,Le.rename [(0,0),(1,1)] [(2,.op 1 0)] [(0,.row 24 4 rows),(1,.box 24 [.s (.int .i64 1),.s (.str []),.s (.int .i64 0),.orow 0])] 2 ⟨rfl,trivial⟩ ⟨rfl,⟨_,rfl,rfl⟩,rfl,⟨_,rfl,rfl⟩,trivial⟩ rfl rfl rfl rfl rfl,rfl,rfl,rfl,rfl,trivial⟩
def zHw:zAp:=zA5 fun xs os x os'=>∃ (f:Nat) (k c:Int) (t:List UInt8) (ks:List Nd),zAv f (.mk k t c ks)=some true/\zAE (.mk k t c ks)=some (.mk k t c ks)/\xs=[.agg [.s (.int .i64 k),.s (.str t),.s (.int .i64 c),.orow 0]]/\os=[.row 24 4 (Nd.encs ks)]/\x = .tup [.op 1 0,.s (.int .i64 0)]/\os'=[some (.row 24 4 (Nd.encs ks)),some (.box 57 [.s (.int .i64 k),.s (.str t),.s (.int .i64 c),.s (.sl 4 (Nd.encs ks)),.s (.int .i64 k),.s (.str t),.s (.int .i64 c),.s (.sl 4 (Nd.encs ks)),.nl 5,.s (.int .i64 0)])]
theorem zKb:PSound Try.prog 9 zHw:=by
 have gok:∀ f s,look? f [(24,zBj),(25,zFJ)]=some s->PSound Try.prog f s:=zAm (by
  simp only[List.forall_mem_cons]
  exact⟨zBi,zHV,by simp⟩)
 refine zBm tokW Try.call9 Try.func9 rfl (fun xs os x os' h=>by obtain⟨_,_,_,_,_,_,_,rfl,rfl,_,rfl⟩:=h; exact⟨by show 1<=13; decide,by show 1<=2; decide⟩) 13 rfl ?_;rintro xs os x os' w0 G0 B0 ⟨f,k,c,t,ks,hv,hd,rfl,rfl,rfl,rfl⟩ _;refine zSg [1] [] rfl ?_;refine zAa ?_;refine zSV ?_;refine⟨_,⟨f,_,_,hv,rfl,rfl⟩,?_⟩
 refine zAl rfl (fun hb=>by cases hb) (fun hb=>?_)
 refine zAe ?_;refine zAa ?_;refine zH5 (two 0 1) (zF3 (Nat.le_of_ble_eq_true rfl) (Nat.le_of_ble_eq_true rfl)) [12] [] [0,1,2,3,5] [1,2] rfl (by decide +kernel) ?_;refine⟨_,_,⟨k,c,t,ks,hd,rfl,rfl,rfl,rfl⟩,?_⟩
 refine And.intro (zLf rfl rfl) ?_;refine⟨_,_,⟨k,c,t,ks,hd,rfl,rfl,rfl,rfl⟩,?_⟩
 refine zAg ?_;unfold zAM;exact⟨_,Le.rename [(0,0),(2,1)] [(2,.op 1 0),(3,.s (.int .i64 0))] [(0,.row 24 4 (Nd.encs ks)),(1,.box 57 [.s (.int .i64 k),.s (.str t),.s (.int .i64 c),.s (.sl 4 (Nd.encs ks)),.s (.int .i64 k),.s (.str t),.s (.int .i64 c),.s (.sl 4 (Nd.encs ks)),.nl 5,.s (.int .i64 0)])] 2 ⟨rfl,rfl,trivial⟩ ⟨rfl,⟨_,rfl,rfl⟩,rfl,⟨_,rfl,rfl⟩,trivial⟩ rfl rfl rfl rfl rfl,rfl,rfl,rfl,rfl,rfl,rfl,trivial⟩
def zIz:zAp:=zA5 fun xs os x os'=>∃ (f:Nat) (k c rk rc yk yc:Int) (t rt yt:List UInt8) (ks items yks:List Nd) (ok oc:Int) (ot:List UInt8) (oks:List Nd),items.length<1000000/\zAv f (.mk k t c ks)=some true/\zBD f oX=some true/\zCs f (.mk k t c ks) []=some (.mk rk rt rc items,0)/\zBW f (.mk k t c ks) [] (.mk rk rt rc (.mk 3 [49] 0 []::items))=some (.mk yk yt yc yks,0)/\zAE (.mk k t c ks)=some (.mk k t c ks)/\xs=[.op 0 0,.agg [.orow 1,.s (.sl 1 []),.s (.sl 1 []),.orow 3,.s (.sl 1 [])]]/\os=[.box 57 [.s (.int .i64 ok),.s (.str ot),.s (.int .i64 oc),.s (.sl 4 (Nd.encs oks)),.s (.int .i64 k),.s (.str t),.s (.int .i64 c),.s (.sl 4 (Nd.encs ks)),.nl 5,.s (.int .i64 0)],.arow 35 8 [[.s (.int .i64 1),.s (.sl 1 []),.s (.int .i64 0),.s (.int .i64 0),.orow 2,.s (.int .i64 0),.s (.str []),.s (.str [])]],.row 24 4 [[.int .i64 3,.str [49],.int .i64 0,.sl 4 []]],.row 3 1 [[.int .i64 1]]]/\x = .s (.int .i64 0)/\os'=[some (.box 57 [.s (.int .i64 ok),.s (.str ot),.s (.int .i64 oc),.s (.sl 4 (Nd.encs oks)),.s (.int .i64 yk),.s (.str yt),.s (.int .i64 yc),.s (.sl 4 (Nd.encs yks)),.orow 4,.s (.int .i64 1)]),some (.arow 35 8 [[.s (.int .i64 1),.s (.sl 1 []),.s (.int .i64 0),.s (.int .i64 0),.orow 2,.s (.int .i64 0),.s (.str []),.s (.str [])]]),some (.row 24 4 [[.int .i64 3,.str [49],.int .i64 0,.sl 4 []]]),some (.row 3 1 [[.int .i64 1]]),some (.row 40 5 [[.sl 8 [[.int .i64 1,.sl 1 [],.int .i64 0,.int .i64 0,.sl 4 [[.int .i64 3,.str [49],.int .i64 0,.sl 4 []]],.int .i64 0,.str [],.str []]],.sl 1 [],.sl 1 [],.sl 1 [[.int .i64 1]],.sl 1 []]])]
theorem zKQ:PSound Try.prog 10 zIz:=by
 have gok:∀ f s,look? f [(26,zFT),(27,zHv)]=some s->PSound Try.prog f s:=zAm (by
  simp only[List.forall_mem_cons]
  exact⟨zIk,zKa,by simp⟩)
 refine zBm tokW Try.call10 Try.func10 rfl (fun xs os x os' h=>by obtain⟨_,_,_,_,_,_,_,_,_,_,_,_,_,_,_,_,_,_,_,_,_,_,_,rfl,rfl,_,rfl⟩:=h; exact⟨by show 2<=57; decide,by show 4<=5; decide⟩) 57 rfl ?_;rintro xs os x os' w0 G0 B0 ⟨f,k,c,rk,rc,yk,yc,t,rt,yt,ks,items,yks,ok,oc,ot,oks,hi,hv,hf,hr,hw,hd,rfl,rfl,rfl,rfl⟩ _;refine zSg [3] [] rfl ?_;refine zAa ?_;refine zSV ?_;refine zAl rfl (fun hb=>by cases hb) (fun hb=>?_)
 refine zAe ?_;refine zAa ?_;refine zGy [5] [] [3,5,6,11,12] [3,5,1006] rfl (by decide +kernel) ?_;refine⟨_,_,⟨f,k,c,rk,rc,yk,yc,t,rt,yt,ks,items,yks,hi,hv,hf,hr,hw,hd,rfl,rfl,rfl,rfl⟩,?_⟩
 refine And.intro ⟨rfl,rfl⟩ ?_;refine zAk (Le.giveBox 5 [.int .i64 yk,.str yt,.int .i64 yc,.sl 4 (Nd.encs yks)] rfl rfl) ?_;refine zAa ?_;refine zSV ?_;refine zAl rfl (fun hb=>by cases hb) (fun hb=>?_)
 refine zAe ?_;refine zAa ?_;refine zSV ?_;refine zAl rfl (fun hb=>by cases hb) (fun hb=>?_)
 refine zAe ?_;refine zAa ?_;refine zH5 (two 0 4) (zF3 (Nat.le_of_ble_eq_true rfl) (Nat.le_of_ble_eq_true rfl)) [38,42] [] [4,8,10,11,13,16] [4,8,10,11] rfl (by decide +kernel) ?_;refine And.intro ⟨Int.le_refl _,Int.le_refl _,Int.le_refl _⟩ ?_;refine⟨_,_,⟨rfl,rfl,rfl,rfl⟩,?_⟩
 refine And.intro (zLf rfl rfl) ?_;refine And.intro (show([[.sl 8 [[.int .i64 1,.sl 1 [],.int .i64 0,.int .i64 0,.sl 4 [[.int .i64 3,.str [49],.int .i64 0,.sl 4 []]],.int .i64 0,.str [],.str []]],.sl 1 [],.sl 1 [],.sl 1 [[.int .i64 1]],.sl 1 []]]:List (List S)).length * 120<=140737488355328/\([[.sl 8 [[.int .i64 1,.sl 1 [],.int .i64 0,.int .i64 0,.sl 4 [[.int .i64 3,.str [49],.int .i64 0,.sl 4 []]],.int .i64 0,.str [],.str []]],.sl 1 [],.sl 1 [],.sl 1 [[.int .i64 1]],.sl 1 []]]:List (List S)).length<=9223372036854775807 by decide) ?_;refine zAa ?_;refine zBx [] [] [6,10,13] rfl (by decide +kernel) ?_;show Tri ..
 refine zSV ?_;refine zAg ?_;unfold zAM
 exact⟨_,Le.rename [(0,0),(1,1),(2,2),(3,3),(6,4)] [(4,.s (.int .i64 0))] [(0,.box 57 [.s (.int .i64 ok),.s (.str ot),.s (.int .i64 oc),.s (.sl 4 (Nd.encs oks)),.s (.int .i64 yk),.s (.str yt),.s (.int .i64 yc),.s (.sl 4 (Nd.encs yks)),.orow 4,.s (.int .i64 1)]),(1,.arow 35 8 [[.s (.int .i64 1),.s (.sl 1 []),.s (.int .i64 0),.s (.int .i64 0),.orow 2,.s (.int .i64 0),.s (.str []),.s (.str [])]]),(2,.row 24 4 [[.int .i64 3,.str [49],.int .i64 0,.sl 4 []]]),(3,.row 3 1 [[.int .i64 1]]),(4,.row 40 5 [[.sl 8 [[.int .i64 1,.sl 1 [],.int .i64 0,.int .i64 0,.sl 4 [[.int .i64 3,.str [49],.int .i64 0,.sl 4 []]],.int .i64 0,.str [],.str []]],.sl 1 [],.sl 1 [],.sl 1 [[.int .i64 1]],.sl 1 []]])] 5 ⟨rfl,trivial⟩ ⟨rfl,⟨_,rfl,rfl⟩,rfl,⟨_,rfl,rfl⟩,rfl,⟨_,rfl,rfl⟩,rfl,⟨_,rfl,rfl⟩,rfl,⟨_,rfl,rfl⟩,trivial⟩ rfl rfl rfl rfl rfl,rfl,rfl,rfl,rfl,rfl,rfl,rfl,rfl,rfl,rfl,rfl,rfl,trivial⟩
def zGP:zAp:=zA5 fun xs os x os'=>∃ (ok oc:Int) (ot:List UInt8) (oks:List Nd) (k c:Int) (t:List UInt8) (ks:List Nd),zBN (.mk k t c ks)=some (.mk k t c ks)/\xs=[.op 0 0]/\os=[.box 57 [.s (.int .i64 ok),.s (.str ot),.s (.int .i64 oc),.s (.sl 4 (Nd.encs oks)),.s (.int .i64 k),.s (.str t),.s (.int .i64 c),.s (.sl 4 (Nd.encs ks)),.orow 1,.s (.int .i64 1)],.row 40 5 [[.sl 8 [[.int .i64 1,.sl 1 [],.int .i64 0,.int .i64 0,.sl 4 [[.int .i64 3,.str [49],.int .i64 0,.sl 4 []]],.int .i64 0,.str [],.str []]],.sl 1 [],.sl 1 [],.sl 1 [[.int .i64 1]],.sl 1 []]]]/\x = .agg [.s (.int .i64 k),.s (.str t),.s (.int .i64 c),.orow 2]/\os'=[some (.box 57 [.s (.int .i64 ok),.s (.str ot),.s (.int .i64 oc),.s (.sl 4 (Nd.encs oks)),.s (.int .i64 k),.s (.str t),.s (.int .i64 c),.s (.sl 4 (Nd.encs ks)),.orow 1,.s (.int .i64 1)]),some (.row 40 5 [[.sl 8 [[.int .i64 1,.sl 1 [],.int .i64 0,.int .i64 0,.sl 4 [[.int .i64 3,.str [49],.int .i64 0,.sl 4 []]],.int .i64 0,.str [],.str []]],.sl 1 [],.sl 1 [],.sl 1 [[.int .i64 1]],.sl 1 []]]),some (.row 24 4 (Nd.encs ks))]
theorem zJa:PSound Try.prog 12 zGP:=by
 have gok:∀ f s,look? f [(25,zC2)]=some s->PSound Try.prog f s:=zAm (by
  simp only[List.forall_mem_cons]
  exact⟨zDY,by simp⟩)
 refine zBm tokW Try.call12 Try.func12 rfl (fun xs os x os' h=>by obtain⟨_,_,_,_,_,_,_,_,_,rfl,rfl,_,rfl⟩:=h; exact⟨by show 1<=11; decide,by show 2<=3; decide⟩) 11 rfl ?_;rintro xs os x os' w0 G0 B0 ⟨ok,oc,ot,oks,k,c,t,ks,hd,rfl,rfl,rfl,rfl⟩ _;refine zSg [2] [] rfl ?_;refine zAa ?_;refine zSV ?_;refine zAl rfl (fun hb=>by cases hb) (fun hb=>?_)
 refine zAe ?_;refine zSV ?_;refine⟨_,_,⟨(.mk k t c ks),(.mk k t c ks),hd,rfl,rfl,rfl,rfl⟩,?_⟩
 refine zAg ?_;unfold zAM
 exact⟨_,Le.rename [(0,0),(1,1),(3,2),(2,3)] [(2,.op 3 0)] [(0,.box 57 [.s (.int .i64 ok),.s (.str ot),.s (.int .i64 oc),.s (.sl 4 (Nd.encs oks)),.s (.int .i64 k),.s (.str t),.s (.int .i64 c),.s (.sl 4 (Nd.encs ks)),.orow 1,.s (.int .i64 1)]),(1,.row 40 5 [[.sl 8 [[.int .i64 1,.sl 1 [],.int .i64 0,.int .i64 0,.sl 4 [[.int .i64 3,.str [49],.int .i64 0,.sl 4 []]],.int .i64 0,.str [],.str []]],.sl 1 [],.sl 1 [],.sl 1 [[.int .i64 1]],.sl 1 []]]),(2,.row 24 4 (Nd.encs ks)),(3,.box 24 [.s (.int .i64 k),.s (.str t),.s (.int .i64 c),.orow 2])] 4 ⟨rfl,trivial⟩ ⟨rfl,⟨_,rfl,rfl⟩,rfl,⟨_,rfl,rfl⟩,rfl,⟨_,rfl,rfl⟩,rfl,⟨_,rfl,rfl⟩,trivial⟩ rfl rfl rfl rfl rfl,rfl,rfl,rfl,rfl,rfl,rfl,rfl,rfl,trivial⟩
def zFK:zAp:=zA5 fun xs os x os'=>∃ (ok oc:Int) (ot:List UInt8) (oks:List Nd) (k c:Int) (t:List UInt8) (ks:List Nd),zAE (.mk ok ot oc oks)=some (.mk ok ot oc oks)/\xs=[.op 0 0]/\os=[.box 57 [.s (.int .i64 ok),.s (.str ot),.s (.int .i64 oc),.s (.sl 4 (Nd.encs oks)),.s (.int .i64 k),.s (.str t),.s (.int .i64 c),.s (.sl 4 (Nd.encs ks)),.orow 1,.s (.int .i64 1)],.row 40 5 [[.sl 8 [[.int .i64 1,.sl 1 [],.int .i64 0,.int .i64 0,.sl 4 [[.int .i64 3,.str [49],.int .i64 0,.sl 4 []]],.int .i64 0,.str [],.str []]],.sl 1 [],.sl 1 [],.sl 1 [[.int .i64 1]],.sl 1 []]]]/\x = .agg [.s (.int .i64 ok),.s (.str ot),.s (.int .i64 oc),.s (.sl 4 (Nd.encs oks))]/\os'=[some (.box 57 [.s (.int .i64 ok),.s (.str ot),.s (.int .i64 oc),.s (.sl 4 (Nd.encs oks)),.s (.int .i64 k),.s (.str t),.s (.int .i64 c),.s (.sl 4 (Nd.encs ks)),.orow 1,.s (.int .i64 1)]),some (.row 40 5 [[.sl 8 [[.int .i64 1,.sl 1 [],.int .i64 0,.int .i64 0,.sl 4 [[.int .i64 3,.str [49],.int .i64 0,.sl 4 []]],.int .i64 0,.str [],.str []]],.sl 1 [],.sl 1 [],.sl 1 [[.int .i64 1]],.sl 1 []]])]
theorem zHW:PSound Try.prog 15 zFK:=by
 have gok:∀ f s,look? f [(25,zBq)]=some s->PSound Try.prog f s:=zAm (by
  simp only[List.forall_mem_cons]
  exact⟨zBl,by simp⟩)
 refine zBm tokW Try.call15 Try.func15 rfl (fun xs os x os' h=>by obtain⟨_,_,_,_,_,_,_,_,_,rfl,rfl,_,rfl⟩:=h; exact⟨by show 1<=11; decide,by show 2<=2; decide⟩) 11 rfl ?_;rintro xs os x os' w0 G0 B0 ⟨ok,oc,ot,oks,k,c,t,ks,hd,rfl,rfl,rfl,rfl⟩ _;refine zSg [2] [] rfl ?_;refine zAa ?_;refine zSV ?_;refine zAl rfl (fun hb=>by cases hb) (fun hb=>?_)
 refine zAe ?_;refine zSV ?_;refine⟨_,⟨(.mk ok ot oc oks),(.mk ok ot oc oks),hd,rfl,rfl⟩,?_⟩
 refine zAg ?_;unfold zAM
 exact⟨_,Le.rename [(0,0),(1,1),(2,2)] [(2,.op 2 0)] [(0,.box 57 [.s (.int .i64 ok),.s (.str ot),.s (.int .i64 oc),.s (.sl 4 (Nd.encs oks)),.s (.int .i64 k),.s (.str t),.s (.int .i64 c),.s (.sl 4 (Nd.encs ks)),.orow 1,.s (.int .i64 1)]),(1,.row 40 5 [[.sl 8 [[.int .i64 1,.sl 1 [],.int .i64 0,.int .i64 0,.sl 4 [[.int .i64 3,.str [49],.int .i64 0,.sl 4 []]],.int .i64 0,.str [],.str []]],.sl 1 [],.sl 1 [],.sl 1 [[.int .i64 1]],.sl 1 []]]),(2,.box 24 [.s (.int .i64 ok),.s (.str ot),.s (.int .i64 oc),.s (.sl 4 (Nd.encs oks))])] 3 ⟨rfl,trivial⟩ ⟨rfl,⟨_,rfl,rfl⟩,rfl,⟨_,rfl,rfl⟩,rfl,⟨_,rfl,rfl⟩,trivial⟩ rfl rfl rfl rfl rfl,rfl,rfl,rfl,rfl,rfl,rfl,trivial⟩
def zGT:zAp:=zA5 fun xs os x os'=>xs=[.orow 0]/\os=[.row 40 5 [[.sl 8 [[.int .i64 1,.sl 1 [],.int .i64 0,.int .i64 0,.sl 4 [[.int .i64 3,.str [49],.int .i64 0,.sl 4 []]],.int .i64 0,.str [],.str []]],.sl 1 [],.sl 1 [],.sl 1 [[.int .i64 1]],.sl 1 []]]]/\x = .orow 1/\os'=[some (.row 40 5 [[.sl 8 [[.int .i64 1,.sl 1 [],.int .i64 0,.int .i64 0,.sl 4 [[.int .i64 3,.str [49],.int .i64 0,.sl 4 []]],.int .i64 0,.str [],.str []]],.sl 1 [],.sl 1 [],.sl 1 [[.int .i64 1]],.sl 1 []]]),some (.arow 40 5 [[.orow 2,.s (.sl 1 []),.s (.sl 1 []),.s (.sl 1 [[.int .i64 1]]),.s (.sl 1 [])]]),some (.arow 35 8 [[.s (.int .i64 1),.s (.sl 1 []),.s (.int .i64 0),.s (.int .i64 0),.orow 3,.s (.int .i64 0),.s (.str []),.s (.str [])]]),some (.row 24 4 [[.int .i64 3,.str [49],.int .i64 0,.sl 4 []]])]
theorem zJb:PSound Try.prog 28 zGT:=by
 have gok:∀ f s,look? f [(27,zHt)]=some s->PSound Try.prog f s:=zAm (by
  simp only[List.forall_mem_cons]
  exact⟨zJ8,by simp⟩)
 refine zBm tokW Try.call28 Try.func28 rfl (fun xs os x os' h=>by obtain⟨rfl,rfl,_,rfl⟩:=h; exact⟨by show 1<=19; decide,by show 1<=4; decide⟩) 19 rfl ?_;rintro xs os x os' w0 G0 B0 ⟨rfl,rfl,rfl,rfl⟩ _;refine zSV ?_;refine zSg [3] [] rfl ?_;refine zAk (Le.toA 1 rfl) ?_;refine zAa ?_;refine zSV ?_;refine zAi ?_;refine zDU ?_;refine zAI ?_;refine zSV ?_;refine zAa ?_;refine zAl rfl (fun hb=>?_) (fun hb=>by cases hb)
 refine zAe ?_;refine zAa ?_;refine zAi ?_;refine zSg [5] [] rfl ?_;refine And.intro (show(0:Int)<=0/\(0:Int)<1 by decide) ?_;refine⟨show 0<1 by decide,_,rfl,?_⟩
 refine zAb [15,16] [] rfl ?_;refine⟨_,_,⟨rfl,rfl,rfl,rfl⟩,?_⟩
 refine And.intro (show(([]:List (List AV)).length+([[.orow 3,.s (.sl 1 []),.s (.sl 1 []),.s (.sl 1 [[.int .i64 1]]),.s (.sl 1 [])]]:List (List AV)).length) * 120<=140737488355328/\_ by decide) ?_;refine zAb [] [17] rfl ?_;intro u hu;obtain rfl:u=(1:Int):=hu.trans rfl;show TriL _ _ _ _;refine zAI ?_;refine zSV ?_;refine zAa ?_;refine zAl rfl (fun hb=>by cases hb) (fun hb=>?_)
 refine zAx ?_;refine zSV ?_;refine zAg ?_;unfold zAM
 exact⟨_,Le.rename [(0,0),(6,1),(3,2),(4,3)] [(2,.orow 1)] [(0,.row 40 5 [[.sl 8 [[.int .i64 1,.sl 1 [],.int .i64 0,.int .i64 0,.sl 4 [[.int .i64 3,.str [49],.int .i64 0,.sl 4 []]],.int .i64 0,.str [],.str []]],.sl 1 [],.sl 1 [],.sl 1 [[.int .i64 1]],.sl 1 []]]),(1,.arow 40 5 [[.orow 2,.s (.sl 1 []),.s (.sl 1 []),.s (.sl 1 [[.int .i64 1]]),.s (.sl 1 [])]]),(2,.arow 35 8 [[.s (.int .i64 1),.s (.sl 1 []),.s (.int .i64 0),.s (.int .i64 0),.orow 3,.s (.int .i64 0),.s (.str []),.s (.str [])]]),(3,.row 24 4 [[.int .i64 3,.str [49],.int .i64 0,.sl 4 []]])] 4 ⟨rfl,trivial⟩ ⟨rfl,⟨_,rfl,rfl⟩,rfl,⟨_,rfl,rfl⟩,rfl,⟨_,rfl,rfl⟩,rfl,⟨_,rfl,rfl⟩,trivial⟩ rfl rfl rfl rfl rfl,rfl,rfl,rfl,rfl,rfl,rfl,rfl,rfl,rfl,rfl,trivial⟩
def zFd:zAp:=zA5 fun xs os x os'=>∃ (ok oc:Int) (ot:List UInt8) (oks:List Nd) (k c:Int) (t:List UInt8) (ks:List Nd),xs=[.op 0 0]/\os=[.box 57 [.s (.int .i64 ok),.s (.str ot),.s (.int .i64 oc),.s (.sl 4 (Nd.encs oks)),.s (.int .i64 k),.s (.str t),.s (.int .i64 c),.s (.sl 4 (Nd.encs ks)),.orow 1,.s (.int .i64 1)],.row 40 5 [[.sl 8 [[.int .i64 1,.sl 1 [],.int .i64 0,.int .i64 0,.sl 4 [[.int .i64 3,.str [49],.int .i64 0,.sl 4 []]],.int .i64 0,.str [],.str []]],.sl 1 [],.sl 1 [],.sl 1 [[.int .i64 1]],.sl 1 []]]]/\x = .orow 2/\os'=[some (.box 57 [.s (.int .i64 ok),.s (.str ot),.s (.int .i64 oc),.s (.sl 4 (Nd.encs oks)),.s (.int .i64 k),.s (.str t),.s (.int .i64 c),.s (.sl 4 (Nd.encs ks)),.orow 1,.s (.int .i64 1)]),some (.row 40 5 [[.sl 8 [[.int .i64 1,.sl 1 [],.int .i64 0,.int .i64 0,.sl 4 [[.int .i64 3,.str [49],.int .i64 0,.sl 4 []]],.int .i64 0,.str [],.str []]],.sl 1 [],.sl 1 [],.sl 1 [[.int .i64 1]],.sl 1 []]]),some (.arow 40 5 [[.orow 3,.s (.sl 1 []),.s (.sl 1 []),.s (.sl 1 [[.int .i64 1]]),.s (.sl 1 [])]]),some (.arow 35 8 [[.s (.int .i64 1),.s (.sl 1 []),.s (.int .i64 0),.s (.int .i64 0),.orow 4,.s (.int .i64 0),.s (.str []),.s (.str [])]]),some (.row 24 4 [[.int .i64 3,.str [49],.int .i64 0,.sl 4 []]])]
theorem zHq:PSound Try.prog 11 zFd:=by
 have gok:∀ f s,look? f [(28,zGT)]=some s->PSound Try.prog f s:=zAm (by
  simp only[List.forall_mem_cons]
  exact⟨zJb,by simp⟩)
 refine zBm tokW Try.call11 Try.func11 rfl (fun xs os x os' h=>by obtain⟨_,_,_,_,_,_,_,_,rfl,rfl,_,rfl⟩:=h; exact⟨by show 1<=10; decide,by show 2<=5; decide⟩) 10 rfl ?_;rintro xs os x os' w0 G0 B0 ⟨ok,oc,ot,oks,k,c,t,ks,rfl,rfl,rfl,rfl⟩ _;refine zSV ?_;refine zAa ?_;refine zSV ?_;refine zAl rfl (fun hb=>by cases hb) (fun hb=>?_)
 refine zAe ?_;refine zSV ?_;refine⟨_,_,⟨rfl,rfl,rfl,rfl⟩,?_⟩
 refine zAg ?_;unfold zAM
 exact⟨_,Le.rename [(0,0),(1,1),(2,2),(3,3),(4,4)] [(2,.orow 2)] [(0,.box 57 [.s (.int .i64 ok),.s (.str ot),.s (.int .i64 oc),.s (.sl 4 (Nd.encs oks)),.s (.int .i64 k),.s (.str t),.s (.int .i64 c),.s (.sl 4 (Nd.encs ks)),.orow 1,.s (.int .i64 1)]),(1,.row 40 5 [[.sl 8 [[.int .i64 1,.sl 1 [],.int .i64 0,.int .i64 0,.sl 4 [[.int .i64 3,.str [49],.int .i64 0,.sl 4 []]],.int .i64 0,.str [],.str []]],.sl 1 [],.sl 1 [],.sl 1 [[.int .i64 1]],.sl 1 []]]),(2,.arow 40 5 [[.orow 3,.s (.sl 1 []),.s (.sl 1 []),.s (.sl 1 [[.int .i64 1]]),.s (.sl 1 [])]]),(3,.arow 35 8 [[.s (.int .i64 1),.s (.sl 1 []),.s (.int .i64 0),.s (.int .i64 0),.orow 4,.s (.int .i64 0),.s (.str []),.s (.str [])]]),(4,.row 24 4 [[.int .i64 3,.str [49],.int .i64 0,.sl 4 []]])] 5 ⟨rfl,trivial⟩ ⟨rfl,⟨_,rfl,rfl⟩,rfl,⟨_,rfl,rfl⟩,rfl,⟨_,rfl,rfl⟩,rfl,⟨_,rfl,rfl⟩,rfl,⟨_,rfl,rfl⟩,trivial⟩ rfl rfl rfl rfl rfl,rfl,rfl,rfl,rfl,rfl,rfl,rfl,rfl,rfl,rfl,rfl,rfl,trivial⟩
theorem zPe (k:Nat):zEB (k+60)=some true:=by
 with_unfolding_all rfl
theorem zBv {φ:Prop} [Decidable φ] (h:φ):decide φ=true:=decide_eq_true h
theorem zBn {φ:Prop} [Decidable φ] (h:¬ φ):decide φ=false:=decide_eq_false h
theorem zG3 {F:Nd->Option Int}{ks:List Nd} (hF:∀ v∈ks,F v=some (v.cnt:Int)) :
  ∀ (k i:Nat) (o:Nat),ks.length - i<k->i<=ks.length->o+Nd.cnts (ks.drop i)<=1073741824->ks.length<=1073741824->zBJ F ks k (o:Int) (i:Int)=some ((o+Nd.cnts (ks.drop i):Nat):Int)
 | 0,_,_,h,_,_,_=>by omega
 | k+1,i,o,hk,hi,ho,hl=>by
  unfold zBJ
  by_cases h:i<ks.length
  ·rw[zBv (Int.ofNat_lt.2 h),cond_true,zDF h]
   have hd:=Nd.cnts_drop h;have hf:=hF _ (List.getElem_mem h)
   rcases e:ks[i] with ⟨a,b,c,d⟩
   rw[e]at hd hf;simp only[obs,hf]
   rw[wrap64_in (by omega) (by omega),zBy (by omega),← Int.natCast_add,zG3 hF k (i+1) _ (by omega) (by omega) (by omega) hl,hd]
   congr 2; omega
  ·rw[zBn (by omega),cond_false]
   obtain rfl:i=ks.length :=(by omega);simp[Nd.cnts]
theorem zIV:∀ (n:Nat) (t:Nd),t.cnt<n->t.cnt<=67108864->zBX n t=some (t.cnt:Int)
 | 0,_,h,_=>by omega
 | n+1,.mk a b c ks,h,hb=>by
  simp only[Nd.cnt]at h hb;have hl:=Nd.cnts_len ks;unfold zBX;have:=zG3 (F:=zBX n) (ks:=ks) (fun v hv=>zIV n v (by have:=Nd.cnts_mem hv; omega) (by have:=Nd.cnts_mem hv; omega)) n 0 1 (by omega) (by omega) (by simp; omega) (by omega)
  rw[show((0:Nat):Int)=0 from rfl,show((1:Nat):Int)=1 from rfl]at this;rw[this]
  simp only[obs,List.drop_zero,Nd.cnt]
  congr 2; omega
theorem zNq {F:Nd->Int->Option Int}{ks:List Nd}{b:Nat} (hF:∀ (v:Nd) (m:Nat),m<=b->∃ r,F v (m:Int)=some r/\-1<=r/\r<m/\(0<=r->r+v.cnt=m)) :
  ∀ (k i:Nat) (m:Int),m+1<k->-1<=m->m<=b->i<=ks.length->(i:Int)+m<4611686018427387904->∃ r,zBF F ks k m (i:Int)=some r/\-1<=r/\r<=m/\(0<=r->r+Nd.cnts (ks.drop i)=m)
 | 0,_,_,h,_,_,_,_=>by omega
 | k+1,i,m,hk,hm,hb,hi,hx=>by
  unfold zBF
  by_cases h:i<ks.length
  ·rw[zBv (Int.ofNat_lt.2 h),cond_true]
   simp only[obs]
   by_cases h0:0<=m
   ·rw[zBv h0,cond_true,zDF h]
    have hd:=Nd.cnts_drop h;rcases e:ks[i] with ⟨e1,e2,e3,e4⟩
    rw[e]at hd;simp only[obs]
    obtain⟨m',rfl⟩:=Int.eq_ofNat_of_zero_le h0;obtain⟨r,h1,h2,h3,h4⟩:=hF (.mk e1 e2 e3 e4) m' (by omega)
    rw[h1,obs,zBy (by omega)]
    obtain⟨r',g1,g2,g3,g4⟩:=zNq (ks:=ks) hF k (i+1) r (by omega) h2 (by omega) (by omega) (by omega)
    exact⟨r',g1,g2,by omega,fun g=>by have:=g4 g; have:=h4 (by omega); omega⟩
   ·rw[zBn h0,cond_false]
    exact⟨m,rfl,hm,Int.le_refl _,fun g=>by omega⟩
  ·rw[zBn (by omega),cond_false]
   simp only[obs,cond_false]
   obtain rfl:i=ks.length :=(by omega);exact⟨m,rfl,hm,Int.le_refl _,fun _=>by simp[Nd.cnts]⟩
theorem left_eq:∀ (n:Nat) (t:Nd) (m:Nat),m+1<n->m<=67108864->∃ r,zCA n t (m:Int)=some r/\-1<=r/\r<m/\(0<=r->r+t.cnt=m)
 | 0,_,_,h,_=>by omega
 | n+1,.mk a b c ks,m,h,hm=>by
  unfold zCA;rw[wrap64_in (by omega) (by omega)]
  cases m with
  | zero =>
   cases n with
   | zero=>omega
   | succ n =>
    refine⟨-1,?_,by omega,by omega,fun h=>by omega⟩
    unfold zBF;cases decide (((0:Nat):Int)<(ks.length:Int)) <;> simp <;> rfl
  | succ m =>
   obtain⟨r,h1,h2,h3,h4⟩:=zNq (F:=zCA n) (ks:=ks) (b:=m) (fun v q hq=>left_eq n v q (by omega) (by omega)) n 0 (m:Int) (by omega) (by omega) (by omega) (by omega) (by omega)
   rw[show((0:Nat):Int)=0 from rfl]at h1;rw[show((m+1:Nat):Int) - 1=(m:Int) by omega,h1]
   exact⟨r,rfl,h2,by omega,fun g=>by have:=h4 g; rw[List.drop_zero]at this; simp only[Nd.cnt]; omega⟩
theorem zSn (n:Nat) (t:Nd) (m:Nat) (h:m+1<n) (hm:m<=67108864):∃ b,zGb n t (m:Int)=some b/\(b=true->t.cnt<=m):=by
 obtain⟨a,b,c,ks⟩:=t;obtain⟨r,h1,h2,h3,h4⟩:=left_eq n (.mk a b c ks) m h hm;refine⟨decide (0<=r),by simp[zGb,h1],fun g=>by have g0:=of_decide_eq_true g; have:=h4 g0; omega⟩
def zLQ {α:Type} (p:α->Bool) (l:List α):Fl Bool Unit:=if l.all p then .go () else .ret false
theorem zQU {α:Type}{p:α->Bool}{l:List α}{i:Nat} (h:i<l.length):(l.drop i).all p=(p l[i]&&(l.drop (i+1)).all p):=by
 rw[List.drop_eq_getElem_cons h]; rfl
theorem zQV {α:Type}{p:α->Bool}{l:List α}{i:Nat} (h:i<l.length):(l.drop i).any p=(p l[i]||(l.drop (i+1)).any p):=by
 rw[List.drop_eq_getElem_cons h]; rfl
theorem zGt {α:Type}{p:α->Bool}{l:List α} (L:Nat->Int->Option (Fl Bool Unit)) (hb:l.length<=1073741824)
  (h1:∀ (k i:Nat) (h:i<l.length),L (k+1) (i:Int)=if p l[i] then L k (((i+1:Nat)):Int) else some (.ret false)) (h2:∀ k,L (k+1) (l.length:Int)=some (.go ())) :
  ∀ (k i:Nat),l.length - i<k->i<=l.length->L k (i:Int)=some (zLQ p (l.drop i))
 | 0,_,h,_=>by omega
 | k+1,i,hk,hi=>by
  by_cases h:i<l.length
  ·rw[h1 k i h,zGt L hb h1 h2 k (i+1) (by omega) (by omega)]
   unfold zLQ;rw[zQU h]
   cases p l[i] <;> simp
  ·obtain rfl:i=l.length :=(by omega);rw[h2]; simp[zLQ]
theorem zL5 {α:Type}{p:α->Bool}{l:List α} (L:Nat->Int->Option (Fl Bool Unit)) (hb:l.length<=1073741824)
  (h1:∀ (k i:Nat) (h:i<l.length),L (k+1) (i:Int)=if p l[i] then some (.ret true) else L k (((i+1:Nat)):Int)) (h2:∀ k,L (k+1) (l.length:Int)=some (.go ())) :
  ∀ (k i:Nat),l.length - i<k->i<=l.length->L k (i:Int)=some (if (l.drop i).any p then .ret true else .go ())
 | 0,_,h,_=>by omega
 | k+1,i,hk,hi=>by
  by_cases h:i<l.length
  ·rw[h1 k i h,zL5 L hb h1 h2 k (i+1) (by omega) (by omega),zQV h]
   cases p l[i] <;> simp
  ·obtain rfl:i=l.length :=(by omega);rw[h2]; simp
theorem zIZ {P:UInt8->Bool} (h:(List.range 256).all (fun n=>P n.toUInt8)=true) (b:UInt8):P b=true:=by
 have:P (UInt8.ofNat b.toNat)=true:=List.all_eq_true.1 h b.toNat (List.mem_range.2 b.toNat_lt)
 rwa [UInt8.ofNat_toNat]at this
def zCi (b:UInt8):Bool:=(decide (97<=b.toNat)&&decide (b.toNat<=122))||(decide (65<=b.toNat)&&decide (b.toNat<=90))
def zCE (b:UInt8):Bool:=decide (48<=b.toNat)&&decide (b.toNat<=57)
def zFr (b:UInt8):Bool:=decide (32<=b.toNat)&&decide (b.toNat<=126)
theorem zM6 (b:UInt8):(bif decide ((zJL .or .u8 (b.toNat:Int) 32)<97) then some true else some (decide (122<(zJL .or .u8 (b.toNat:Int) 32))))=some (!zCi b) :=
 of_decide_eq_true (zIZ (P:=fun b=>decide ((bif decide ((zJL .or .u8 (b.toNat:Int) 32)<97) then some true else some (decide (122<(zJL .or .u8 (b.toNat:Int) 32))))=some (!zCi b))) (by decide +kernel) b)
theorem zIN (b:UInt8):zCY (b.toNat:Int)=some (zCi b) :=
 of_decide_eq_true (zIZ (P:=fun b=>decide (zCY (b.toNat:Int)=some (zCi b))) (by decide +kernel) b)
theorem zOh (b:UInt8):zEC (b.toNat:Int)=some (zCE b) :=
 of_decide_eq_true (zIZ (P:=fun b=>decide (zEC (b.toNat:Int)=some (zCE b))) (by decide +kernel) b)
theorem zJ1 (n:Nat) (s:List UInt8) (h:s.length<n) (hb:s.length<=1073741824):zB9 n s=some (s.all zCi):=by
 have:=zGt (p:=zCi) (l:=s) (zAS s) hb (fun k i h=>by
  rw[zAS,zBv (Int.ofNat_lt.2 h),cond_true,zDF h]
  simp only[obs,zM6]
  rw[zBy (by omega)]
  cases zCi s[i] <;> rfl) (fun k=>by rw[zAS,zBn (by omega)]; rfl) n 0 (by omega) (by omega)
 rw[show((0:Nat):Int)=0 from rfl,List.drop_zero]at this;rw[zB9,this]
 unfold zLQ;cases s.all zCi <;> rfl
theorem zKS (n:Nat) (s:List UInt8) (h:s.length<n) (hb:s.length<=1073741824):zA1 s n 0=some (zLQ zCi s):=by
 have:=zGt (p:=zCi) (l:=s) (zA1 s) hb (fun k i h=>by
  rw[zA1,zBv (Int.ofNat_lt.2 h),cond_true,zDF h]
  simp only[obs,zIN]
  rw[zBy (by omega)]
  cases zCi s[i] <;> rfl) (fun k=>by rw[zA1,zBn (by omega)]; rfl) n 0 (by omega) (by omega)
 rwa [show((0:Nat):Int)=0 from rfl,List.drop_zero]at this
theorem zLs (n:Nat) (s:List UInt8) (c:Int) (h:s.length<n) (hb:s.length<=1073741824):zCn n s c=some (s.any fun b=>(b.toNat:Int) == c):=by
 have:=zL5 (p:=fun b=>(b.toNat:Int) == c) (l:=s) (zBR s c) hb (fun k i h=>by
  rw[zBR,zBv (Int.ofNat_lt.2 h),cond_true,zDF h]
  simp only[obs]
  rw[zBy (by omega)]
  cases((s[i].toNat:Int) == c) <;> rfl) (fun k=>by rw[zBR,zBn (by omega)]; rfl) n 0 (by omega) (by omega)
 rw[show((0:Nat):Int)=0 from rfl,List.drop_zero]at this;rw[zCn,this]
 cases s.any fun b=>(b.toNat:Int) == c <;> rfl
theorem zKi (n:Nat) (l:List (List UInt8)) (s:List UInt8) (h:l.length<n) (hb:l.length<=1073741824):zDA n l s=some (l.any fun e=>e == s):=by
 have:=zL5 (p:=fun e=>e == s) (l:=l) (zCl l s) hb (fun k i h=>by
  rw[zCl,zBv (Int.ofNat_lt.2 h),cond_true,zDF h]
  simp only[obs]
  rw[zBy (by omega)]
  cases(l[i] == s) <;> rfl) (fun k=>by rw[zCl,zBn (by omega)]; rfl) n 0 (by omega) (by omega)
 rw[show((0:Nat):Int)=0 from rfl,List.drop_zero]at this;rw[zDA,this]
 cases l.any fun e=>e == s <;> rfl
theorem zFa (n:Nat) (s:List UInt8) (h:s.length<n) (hb:s.length<=1073741824):zCw n s=some (s.all zCE&&!(s == [])):=by
 have:=zGt (p:=zCE) (l:=s) (zA2 s) hb (fun k i h=>by
  rw[zA2,zBv (Int.ofNat_lt.2 h),cond_true,zDF h]
  simp only[obs]
  rw[zBy (by omega)]
  unfold zCE
  by_cases a:48<=s[i].toNat
  ·by_cases b:s[i].toNat<=57
   ·simp[a,b,show ¬ ((s[i].toNat:Int)<48) by omega,show ¬ (57<(s[i].toNat:Int)) by omega]
   ·simp[a,b,show ¬ ((s[i].toNat:Int)<48) by omega,show(57<(s[i].toNat:Int)) by omega]
  ·simp[a,show((s[i].toNat:Int)<48) by omega]) (fun k=>by rw[zA2,zBn (by omega)]; rfl) n 0 (by omega) (by omega)
 rw[show((0:Nat):Int)=0 from rfl,List.drop_zero]at this;rw[zCw,this]
 unfold zLQ;cases s.all zCE <;> rfl
theorem zNR (b:UInt8):(bif decide ((b.toNat:Int)<32) then some true else some (decide (126<(b.toNat:Int))):Option Bool)=some (!zFr b):=by
 unfold zFr
 by_cases a:32<=b.toNat
 ·by_cases c:b.toNat<=126
  ·simp[a,c,show ¬ ((b.toNat:Int)<32) by omega,show ¬ (126<(b.toNat:Int)) by omega]
  ·simp[a,c,show ¬ ((b.toNat:Int)<32) by omega,show(126<(b.toNat:Int)) by omega]
 ·simp[a,show((b.toNat:Int)<32) by omega]
theorem zMa (n:Nat) (s:List UInt8) (h:s.length<n) (hb:s.length<=1073741824):zDM n s=some (s.all zFr&&decide ((s.length:Int)<=200)):=by
 have:=zGt (p:=zFr) (l:=s) (zA8 s) hb (fun k i h=>by
  rw[zA8,zBv (Int.ofNat_lt.2 h),cond_true,zDF h]
  simp only[obs,zNR]
  rw[zBy (by omega)]
  cases zFr s[i] <;> rfl) (fun k=>by rw[zA8,zBn (by omega)]; rfl) n 0 (by omega) (by omega)
 rw[show((0:Nat):Int)=0 from rfl,List.drop_zero]at this;rw[zDM,this]
 unfold zLQ;cases s.all zFr <;> rfl
theorem zJc (n:Nat) (s:List UInt8) (h:s.length<n) (hb:s.length<=1073741824):zCm n s=some (s.all zFr):=by
 have:=zGt (p:=zFr) (l:=s) (zAN s) hb (fun k i h=>by
  rw[zAN,zBv (Int.ofNat_lt.2 h),cond_true,zDF h]
  simp only[obs,zNR]
  rw[zBy (by omega)]
  cases zFr s[i] <;> rfl) (fun k=>by rw[zAN,zBn (by omega)]; rfl) n 0 (by omega) (by omega)
 rw[show((0:Nat):Int)=0 from rfl,List.drop_zero]at this;rw[zCm,this]
 unfold zLQ;cases s.all zFr <;> rfl
def spL:List UInt8:=[43,45,42,47,61,60,62,44,59,58,33,124,39,63,126,64]
def fsL:List UInt8:=[40,41,91,93,123,125,60,62,47,124,46]
def kwL:List (List UInt8):=[[102,114,97,99],[114,111,111,116],[109,97,116,114,105,120],[102,101,110,99,101]]
def acL:List (List UInt8):=[[104,97,116],[98,97,114],[118,101,99],[100,111,116],[116,105,108,100,101],[99,104,101,99,107]]
def spB (c:UInt8):Bool:=decide (0<=Lib.indexByte spL c)
def fsB (c:UInt8):Bool:=decide (0<=Lib.indexByte fsL c)
theorem zRS (c:UInt8):(spL.any fun b=>(b.toNat:Int) == (c.toNat:Int))=spB c :=
 of_decide_eq_true (zIZ (P:=fun c=>decide ((spL.any fun b=>(b.toNat:Int) == (c.toNat:Int))=spB c)) (by decide +kernel) c)
theorem zRR (c:UInt8):(([40,41,91,93,123,125,124,60,62,47,46]:List UInt8).any fun b=>(b.toNat:Int) == (c.toNat:Int))=fsB c :=
 of_decide_eq_true (zIZ (P:=fun c=>decide ((([40,41,91,93,123,125,124,60,62,47,46]:List UInt8).any fun b=>(b.toNat:Int) == (c.toNat:Int))=fsB c)) (by decide +kernel) c)
theorem zQY (c:UInt8):Lib.indexByte fsL ((c.toNat:Int).toNat.toUInt8)=Lib.indexByte fsL c:=by
 rw[Int.toNat_natCast]; congr 1; exact UInt8.ofNat_toNat
theorem zKC (e s:List UInt8):(e == s)=(s == e):=by
 rw[Bool.eq_iff_iff]; simp only[beq_iff_eq]; exact eq_comm
theorem zJ0 (s:List UInt8):zCN s=some (kwL.any fun e=>e == s):=by
 simp only[zCN,kwL,List.any_cons,List.any_nil,zKC [102,114,97,99] s,zKC [114,111,111,116] s,zKC [109,97,116,114,105,120] s,zKC [102,101,110,99,101] s]
 generalize (s == [102,114,97,99])=b1;generalize (s == [114,111,111,116])=b2;generalize (s == [109,97,116,114,105,120])=b3;generalize (s == [102,101,110,99,101])=b4;cases b1 <;> cases b2 <;> cases b3 <;> cases b4 <;> rfl
theorem zGY (s:List UInt8):zCv s=some (acL.any fun e=>e == s):=by
 simp only[zCv,acL,List.any_cons,List.any_nil,zKC [104,97,116] s,zKC [98,97,114] s,zKC [118,101,99] s,zKC [100,111,116] s,zKC [116,105,108,100,101] s,zKC [99,104,101,99,107] s]
 generalize (s == [104,97,116])=b1;generalize (s == [98,97,114])=b2;generalize (s == [118,101,99])=b3;generalize (s == [100,111,116])=b4;generalize (s == [116,105,108,100,101])=b5;generalize (s == [99,104,101,99,107])=b6;cases b1 <;> cases b2 <;> cases b3 <;> cases b4 <;> cases b5 <;> cases b6 <;> rfl
def symB (s:List UInt8):Bool :=
 if s.length=1 then s.all zCi||s.all spB
 else s.all zCi&&(decide (2<=s.length)&&(decide (s.length<=16)&&(!(kwL.any fun e=>e == s)&&!(acL.any fun e=>e == s))))
theorem len1 (s:List UInt8):((s.length:Int) == 1)=decide (s.length=1):=by
 by_cases h:s.length=1
 ·simp[h]
 ·rw[zBn h]
  cases e:((s.length:Int) == 1) with
  | false=>rfl
  | true=>have:=eq_of_beq e; omega
theorem zEw (a b:Nat):decide ((a:Int)<=(b:Int))=decide (a<=b):=by
 by_cases h:a<=b
 ·rw[zBv h,zBv (by omega)]
 ·rw[zBn h,zBn (by omega)]
theorem zPU (a b:Nat):decide ((a:Int)<(b:Int))=decide (a<b):=by
 by_cases h:a<b
 ·rw[zBv h,zBv (by omega)]
 ·rw[zBn h,zBn (by omega)]
theorem zKF (n:Nat) (s:List UInt8) (h:s.length+40<n) (hb:s.length<=1073741824):zDa n s=some (symB s):=by
 rw[zDa,len1,zJ1 n s (by omega) hb]
 unfold symB
 by_cases h1:s.length=1
 ·rw[zBv h1,if_pos h1]
  obtain⟨c,rfl⟩:=List.length_eq_one_iff.1 h1;have:zDd [43,45,42,47,61,60,62,44,59,58,33,124,39,63,126,64] [c]=some (spB c):=rfl;simp only[cond_true,obs,this,List.all_cons,List.all_nil,Bool.and_true]
  cases zCi c <;> rfl
 ·rw[zBn h1,if_neg h1]
  have e2:=zEw 2 s.length;have e16:=zEw s.length 16;rw[show((2:Nat):Int)=2 from rfl]at e2;rw[show((16:Nat):Int)=16 from rfl]at e16;simp only[cond_false,obs,zJ0,zGY,e2,e16]
  cases s.all zCi <;> cases decide (2<=s.length) <;> cases decide (s.length<=16) <;> cases(kwL.any fun e=>e == s) <;> rfl
theorem zMx (n:Nat) (s:List UInt8) (h:s.length+40<n) (hb:s.length<=1073741824):zDP n s=some (symB s):=by
 rw[zDP,len1,zKS n s (by omega) hb]
 unfold symB
 by_cases h1:s.length=1
 ·rw[zBv h1,if_pos h1]
  obtain⟨c,rfl⟩:=List.length_eq_one_iff.1 h1;have e1:at? [c] (0:Int)=some c:=rfl;have e2:zCn n [43,45,42,47,61,60,62,44,59,58,33,124,39,63,126,64] (c.toNat:Int)=some (spB c):=by
   rw[zLs n _ _ (by simp only[List.length_cons,List.length_nil]; omega) (by simp only[List.length_cons,List.length_nil]; omega)]
   exact congrArg some (zRS c)
  simp only[cond_true,obs,e1,zDb,zIN,e2,List.all_cons,List.all_nil,Bool.and_true]
  cases zCi c <;> rfl
 ·rw[zBn h1,if_neg h1]
  have e2:=zEw 2 s.length;have e16:=zEw s.length 16;rw[show((2:Nat):Int)=2 from rfl]at e2;rw[show((16:Nat):Int)=16 from rfl]at e16;have ek:zDA n kwL s=some (kwL.any fun e=>e == s):=zKi n kwL s (by simp only[kwL,List.length_cons,List.length_nil]; omega) (by simp[kwL])
  have ea:zDA n acL s=some (acL.any fun e=>e == s):=zKi n acL s (by simp only[acL,List.length_cons,List.length_nil]; omega) (by simp[acL])
  have k1:zDB=some kwL:=rfl;have a1:zCx=some acL:=rfl;unfold zLQ;simp only[cond_false,obs,k1,a1,ek,ea,e2,e16]
  cases s.all zCi <;> cases decide (2<=s.length) <;> cases decide (s.length<=16) <;> cases(kwL.any fun e=>e == s) <;> rfl
def fenB (s:List UInt8):Bool:=decide (s.length=2)&&s.all fsB
theorem len2 (s:List UInt8):((s.length:Int) == 2)=decide (s.length=2):=by
 by_cases h:s.length=2
 ·simp[h]
 ·rw[zBn h]
  cases e:((s.length:Int) == 2) with
  | false=>rfl
  | true=>have:=eq_of_beq e; omega
theorem zL9 (s:List UInt8):zDL s=some (fenB s):=by
 rw[zDL,len2]
 unfold fenB
 by_cases h1:s.length=2
 ·rw[zBv h1]
  match s,h1 with
  | [c,d],_ =>
   have e0:at? [c,d] (0:Int)=some c:=rfl;have e1:at? [c,d] (1:Int)=some d:=rfl;have f:∀ c:UInt8,zB2 [40,41,91,93,123,125,60,62,47,124,46] (c.toNat:Int)=some (Lib.indexByte fsL c):=fun c=>congrArg some (zQY c)
   have g:∀ c:UInt8,decide (0<=Lib.indexByte fsL c)=fsB c:=fun c=>rfl
   simp only[cond_true,e0,e1,f,obs,g,List.all_cons,List.all_nil,Bool.and_true,Bool.true_and]
   cases fsB c <;> rfl
 ·rw[zBn h1]; rfl
theorem zNT (n:Nat) (s:List UInt8) (h:40<n):(bif ((s.length:Int) == 2) then (
        (at? s 0).bind fun c9 =>
        (zCn n [40,41,91,93,123,125,124,60,62,47,46] (c9.toNat:Int)).bind fun y11 =>
        bif y11 then (
         (at? s 1).bind fun c12 =>
         (zCn n [40,41,91,93,123,125,124,60,62,47,46] (c12.toNat:Int)).bind fun y14 =>
         some y14
        ) else (
         some false
        )
       ) else (
        some false
       ))=some (fenB s):=by
 rw[len2]
 unfold fenB
 by_cases h1:s.length=2
 ·rw[zBv h1]
  match s,h1 with
  | [c,d],_ =>
   have e0:at? [c,d] (0:Int)=some c:=rfl;have e1:at? [c,d] (1:Int)=some d:=rfl;have f:∀ c:UInt8,zCn n [40,41,91,93,123,125,124,60,62,47,46] (c.toNat:Int)=some (fsB c):=fun c=>by
    rw[zLs n _ _ (by simp only[List.length_cons,List.length_nil]; omega) (by simp only[List.length_cons,List.length_nil]; omega)]
    exact congrArg some (zRR c)
   simp only[cond_true,e0,e1,f,obs,List.all_cons,List.all_nil,Bool.and_true,Bool.true_and]
   cases fsB c <;> rfl
 ·rw[zBn h1]; rfl
def okL (L:Nat):Nat->List UInt8->Bool
 | _,[]=>true
 | i,c::r=>((c == 46&&(decide (0<i)&&decide (i+1<L)))||zCE c)&&okL L (i+1) r
def numB (s:List UInt8):Bool:=okL s.length 0 s&&(decide (0<s.length)&&(decide (s.length<=20)&&decide (s.count 46<=1)))
theorem zSv (c:UInt8):((c.toNat:Int) == 46)=(c == 46) :=
 of_decide_eq_true (zIZ (P:=fun c=>decide (((c.toNat:Int) == 46)=(c == 46))) (by decide +kernel) c)
theorem zRX:zCE 46=false:=by decide
theorem zMb (s:List UInt8) (hb:s.length<=1073741824):∀ (k i p:Nat),s.length - i<k->i<=s.length->p<=i ->
  zBs s k (p:Int) (i:Int)=some (if okL s.length i (s.drop i) then .go ((p+(s.drop i).count 46:Nat):Int) else .ret false)
 | 0,_,_,h,_,_=>by omega
 | k+1,i,p,hk,hi,hp=>by
  unfold zBs
  by_cases h:i<s.length
  ·rw[zBv (Int.ofNat_lt.2 h),cond_true,zDF h,List.drop_eq_getElem_cons h]
   generalize s[i]=c;simp only[obs,zSv,zOh,okL,List.count_cons]
   rw[zBy (by omega),zBy (by omega),wrap64_in (by omega) (by omega)]
   have d1:decide ((0:Int)<(i:Int))=decide (0<i):=zPU 0 i;have d2:decide ((i:Int)<(s.length:Int) - 1)=decide (i+1<s.length):=by
    by_cases h:i+1<s.length
    ·rw[zBv h,zBv (by omega)]
    ·rw[zBn h,zBn (by omega)]
   rw[d1,d2]
   cases e:c == 46 with
   | true =>
    obtain rfl:c=46:=eq_of_beq e;simp only[cond_true,zRX,Bool.true_and,Bool.or_false]
    cases decide (0<i) with
    | false=>rfl
    | true =>
     simp only[cond_true,obs,Bool.true_and]
     cases decide (i+1<s.length) with
     | false=>rfl
     | true =>
      simp only[cond_true,obs,Bool.true_and]
      rw[zMb s hb k (i+1) (p+1) (by omega) (by omega) (by omega)]
      simp only[if_true]
      rw[show p+1+(s.drop (i+1)).count 46=p+((s.drop (i+1)).count 46+1) by omega]
   | false =>
    simp only[cond_false,obs,Bool.false_and,Bool.false_or]
    cases zCE c with
    | false=>rfl
    | true =>
     simp only[Bool.not_true,cond_false,obs,Bool.true_and]
     rw[zMb s hb k (i+1) p (by omega) (by omega) (by omega)]
     simp
  ·rw[zBn (by omega),cond_false]
   obtain rfl:i=s.length :=(by omega);simp[okL]
theorem zMv (n:Nat) (s:List UInt8) (h:s.length<n) (hb:s.length<=1073741824):zDN n s=some (numB s):=by
 have:=zMb s hb n 0 0 (by omega) (by omega) (by omega)
 rw[show((0:Nat):Int)=0 from rfl,List.drop_zero]at this;rw[zDN,this]
 unfold numB;have e0:=zPU 0 s.length;have e20:=zEw s.length 20;have e1:=zEw (s.count 46) 1;rw[show((0:Nat):Int)=0 from rfl]at e0;rw[show((20:Nat):Int)=20 from rfl]at e20;rw[show((1:Nat):Int)=1 from rfl]at e1;cases okL s.length 0 s with
 | false=>rfl
 | true =>
  simp only[if_true,obs,e0,e20,Nat.zero_add,e1]
  cases decide (0<s.length) <;> cases decide (s.length<=20) <;> rfl
theorem zM9:∀ s:List UInt8,(s.count 46=0/\Lib.indexByte s 46 = -1)∨∃ a b,s=a++46::b/\a.count 46=0/\Lib.indexByte s 46=(a.length:Int)
 | []=>.inl ⟨rfl,rfl⟩
 | c::s=>by
  by_cases h:c=46
  ·subst h;exact .inr ⟨[],s,rfl,rfl,by simp[Lib.indexByte]⟩
  ·have hc:(c == 46)=false :=(by simpa using h);rcases zM9 s with ⟨h1,h2⟩ | ⟨a,b,rfl,h1,h2⟩
   ·exact .inl ⟨by rw[List.count_cons,h1,hc]; rfl,by simp[Lib.indexByte,hc,h2]⟩
   ·refine .inr ⟨c::a,b,rfl,by rw[List.count_cons,h1,hc]; rfl,?_⟩
    have h3:((a.length:Int) == -1)=false:=by
     cases e:((a.length:Int) == -1) with
     | false=>rfl
     | true=>have:=eq_of_beq e; omega
    simp[Lib.indexByte,hc,h2,h3]
theorem zGc (L:Nat):∀ (i:Nat) (a:List UInt8),a.count 46=0->okL L i a=a.all zCE
 | _,[],_=>rfl
 | i,c::a,h=>by
  have hc:(c == 46)=false:=by
   cases e:c == 46 with
   | false=>rfl
   | true=>rw[List.count_cons,e]at h; simp at h
  rw[List.count_cons,hc]at h;rw[okL,hc,zGc L (i+1) a (by simpa using h)]
  simp
theorem zLl (L:Nat):∀ (i:Nat) (a b:List UInt8),okL L i (a++b)=(okL L i a&&okL L (i+a.length) b)
 | _,[],b=>by simp[okL]
 | i,c::a,b=>by
  simp only[List.cons_append,okL,zLl L (i+1) a b,List.length_cons,Bool.and_assoc,show i+1+a.length=i+(a.length+1) by omega]
theorem zLY:∀ a:List UInt8,a.all zCE=true->a.count 46=0
 | [],_=>rfl
 | c::a,h=>by
  simp only[List.all_cons,Bool.and_eq_true]at h;have hc:(c == 46)=false:=by
   cases e:c == 46 with
   | false=>rfl
   | true=>obtain rfl:c=46:=eq_of_beq e; simp[zRX]at h
  rw[List.count_cons,hc,zLY a h.2]; rfl
theorem zR5 (a b:List UInt8) (ha:a.count 46=0):numB (a++46::b)=(decide ((a++46::b).length<=20)&&((a.all zCE&&!(a == []))&&(b.all zCE&&!(b == [])))):=by
 unfold numB;have hl:(a++46::b).length=a.length+(b.length+1) :=(by simp);rw[zLl,zGc _ _ a ha,hl]
 simp only[okL,zRX,Bool.or_false,List.count_append,List.count_cons,ha,beq_self_eq_true,Bool.true_and,if_true,Nat.zero_add]
 have e1:decide (0<a.length) = !(a == []) :=(by cases a <;> rfl);have e2:decide (a.length+1<a.length+(b.length+1)) = !(b == []):=by
  cases b with
  | nil=>simp
  | cons c b=>simp
 have e3:decide (0<a.length+(b.length+1))=true:=zBv (by omega)
 rw[e1,e2,e3]
 cases hb:b.all zCE with
 | true =>
  rw[zGc _ _ b (zLY b hb),hb,zLY b hb]
  cases a.all zCE <;> cases a == [] <;> cases b == [] <;> cases decide (a.length+(b.length+1)<=20) <;> rfl
 | false =>
  cases hc:decide (b.count 46+1<=1) with
  | true =>
   have:b.count 46=0 :=(by have:=of_decide_eq_true hc; omega);rw[zGc _ _ b this,hb]
   cases a.all zCE <;> cases a == [] <;> cases b == [] <;> cases decide (a.length+(b.length+1)<=20) <;> rfl
  | false =>
   generalize okL _ _ b=z;cases z <;> cases a.all zCE <;> cases a == [] <;> cases b == [] <;> cases decide (a.length+(b.length+1)<=20) <;> rfl
theorem zQo (s:List UInt8) (h:s.count 46=0):numB s=(decide (s.length<=20)&&(s.all zCE&&!(s == []))):=by
 unfold numB;rw[zGc _ _ s h,h]
 have e1:decide (0<s.length) = !(s == []) :=(by cases s <;> rfl);rw[e1]
 cases s.all zCE <;> cases s == [] <;> cases decide (s.length<=20) <;> rfl
theorem zKE (n:Nat) (s:List UInt8) (h:s.length<n) (hb:s.length<=1073741824):zCr n s=some (numB s):=by
 have e20:=zEw s.length 20;rw[show((20:Nat):Int)=20 from rfl]at e20;have hi:zCT s [46]=some (Lib.indexByte s 46):=rfl;rcases zM9 s with ⟨h1,h2⟩ | ⟨a,b,rfl,h1,h2⟩
 ·rw[zQo s h1]
  simp only[zCr,zDe,zBP,hi,h2,obs,show decide ((0:Int)<=-1)=false from rfl,cond_false,e20,zFa n s h hb]
  cases decide (s.length<=20) <;> cases(s.all zCE&&!(s == [])) <;> rfl
 ·have hl:(a++46::b).length=a.length+(b.length+1) :=(by simp);rw[zR5 a b h1]
  have w1:IntKind.i64.wrap ((a.length:Int)+(([46]:List UInt8).length:Int))=((a.length+1:Nat):Int):=zBy (by omega)
  have t1:((a++46::b).take ((a.length:Int)).toNat).drop (0:Int).toNat=a :=(by simp);have t2:((a++46::b).take (((a++46::b).length:Int)).toNat).drop (((a.length+1:Nat):Int)).toNat=b:=by
   rw[Int.toNat_natCast,Int.toNat_natCast,List.take_length,List.drop_append]
   simp
  simp only[zCr,zDe,zBP,hi,h2,obs,w1]
  rw[zBv (by omega),cond_true,zDh (by omega),zDh (by omega),t1,t2]
  simp only[obs,e20,zFa n a (by omega) (by omega),zFa n b (by omega) (by omega)]
  cases decide ((a++46::b).length<=20) <;> cases(a.all zCE&&!(a == [])) <;> cases(b.all zCE&&!(b == [])) <;> rfl
def Nd.kind:Nd->Int | .mk k _ _ _=>k
def zPH (k:Int) (t:List UInt8):Bool :=
 if k=2 then symB t else if k=3 then numB t else if k=4 then (decide (t.length<=200)&&t.all zFr) else if k=10 then acL.any (fun e=>e == t) else if k=11 then fenB t else t == []
def zEA (k c:Int) (m:Int):Bool :=
 if k=12 then decide (1<=c)&&(decide (c<=16)&&(decide (1<=m)&&(decide (m<=256)&&(m.tmod c == 0))))
 else (c == 0)&&(if k=1 then decide (m<=200) else if k=2 then m == 0 else if k=3 then m == 0 else if k=4 then m == 0 else if k=5 then m == 2 else if k=6 then m == 2 else if k=7 then m == 2 else if k=8 then m == 2
  else if k=9 then m == 3 else if k=10 then m == 1 else if k=11 then m == 1 else false)
mutual
def zEa:Nd->Bool
 | .mk k t c ks=>(zPH k t&&zEA k c (ks.length:Int))&&zEY k ks
def zEY:Int->List Nd->Bool
 | _,[]=>true
 | k,v::vs=>(!((v.kind == 1) == (k == 1))&&zEa v)&&zEY k vs
end
mutual
def Nd.dep:Nd->Nat
 | .mk _ _ _ ks=>Nd.deps ks+1
def Nd.deps:List Nd->Nat
 | []=>0
 | v::vs=>Nat.max v.dep (Nd.deps vs)
end
theorem zLd {k:Int}{a:List Nd}{i:Nat} (h:i<a.length):zEY k (a.drop i)=((!((a[i].kind == 1) == (k == 1))&&zEa a[i])&&zEY k (a.drop (i+1))):=by
 rw[List.drop_eq_getElem_cons h]; rfl
theorem zNa {a:List Nd}{i:Nat} (h:i<a.length):Nd.deps (a.drop i)=Nat.max (a[i]).dep (Nd.deps (a.drop (i+1))):=by
 rw[List.drop_eq_getElem_cons h]; rfl
mutual
theorem Nd.dep_cnt:∀ v:Nd,v.dep<=v.cnt
 | .mk _ _ _ ks=>by have:=Nd.deps_cnts ks; simp only[Nd.dep,Nd.cnt]; omega
theorem Nd.deps_cnts:∀ vs:List Nd,Nd.deps vs<=Nd.cnts vs
 | []=>Nat.le_refl _
 | v::vs=>by
  have:=Nd.dep_cnt v; have:=Nd.deps_cnts vs
  simp only[Nd.deps,Nd.cnts]
  exact Nat.max_le.2 ⟨by omega,by omega⟩
end
mutual
theorem Nd.cnt_w:∀ v:Nd,v.cnt<=v.w
 | .mk _ t _ ks=>by have:=Nd.cnts_ws ks; simp only[Nd.cnt,Nd.w]; omega
theorem Nd.cnts_ws:∀ vs:List Nd,Nd.cnts vs<=Nd.ws vs
 | []=>Nat.le_refl _
 | v::vs=>by have:=Nd.cnt_w v; have:=Nd.cnts_ws vs; simp only[Nd.cnts,Nd.ws]; omega
end
theorem zIS {a b:Int} (h:a ≠ b):(a == b)=false:=by
 cases e:(a == b) with
 | false=>rfl
 | true=>exact absurd (eq_of_beq e) h
theorem zOB (n:Nat) (k:Int) (t:List UInt8) (c:Int) (ks:List Nd) (h:t.length+40<n) (hb:t.length<=1073741824):zFp n (.mk k t c ks)=some (zPH k t):=by
 have e200:=zEw t.length 200;rw[show((200:Nat):Int)=200 from rfl]at e200;have ea:zDA n acL t=some (acL.any fun e=>e == t):=zKi n acL t (by simp only[acL,List.length_cons,List.length_nil]; omega) (by simp[acL])
 have a1:zCx=some acL:=rfl;unfold zFp zPH;dsimp only
 by_cases h2:k=2
 ·subst h2; simp only[beq_self_eq_true,cond_true,zMx n t h hb,obs,if_true]
 rw[zIS h2,if_neg h2,cond_false]
 by_cases h3:k=3
 ·subst h3; simp only[beq_self_eq_true,cond_true,zMv n t (by omega) hb,obs,if_true]
 rw[zIS h3,if_neg h3,cond_false]
 by_cases h4:k=4
 ·subst h4; simp only[beq_self_eq_true,cond_true,zJc n t (by omega) hb,obs,if_true,e200]
  cases decide (t.length<=200) <;> rfl
 rw[zIS h4,if_neg h4,cond_false]
 by_cases h10:k=10
 ·subst h10; simp only[beq_self_eq_true,cond_true,a1,ea,obs,if_true]
 rw[zIS h10,if_neg h10,cond_false]
 by_cases h11:k=11
 ·subst h11; rw[if_pos rfl,beq_self_eq_true,cond_true,zNT n t (by omega)]; rfl
 rw[zIS h11,if_neg h11,cond_false]
theorem kinds (k:Int):k=1∨k=2∨k=3∨k=4∨k=5∨k=6∨k=7∨k=8∨k=9∨k=10∨k=11∨k=12∨(k<1∨12<k):=by omega
theorem zOA (k:Int) (t:List UInt8) (c:Int) (ks:List Nd):zFo (.mk k t c ks)=some (zEA k c (ks.length:Int)):=by
 unfold zFo;dsimp only;generalize (ks.length:Int)=m;rcases kinds k with rfl | rfl | rfl | rfl | rfl | rfl | rfl | rfl | rfl | rfl | rfl | rfl | h
 ·simp only[bne,zEA]; generalize (c == 0)=z; generalize decide (m<=200)=y; cases z <;> rfl
 ·simp only[bne,zEA]; generalize (c == 0)=z; generalize (m == 0)=y; cases z <;> rfl
 ·simp only[bne,zEA]; generalize (c == 0)=z; generalize (m == 0)=y; cases z <;> rfl
 ·simp only[bne,zEA]; generalize (c == 0)=z; generalize (m == 0)=y; cases z <;> rfl
 ·simp only[bne,zEA]; generalize (c == 0)=z; generalize (m == 2)=y; cases z <;> rfl
 ·simp only[bne,zEA]; generalize (c == 0)=z; generalize (m == 2)=y; cases z <;> rfl
 ·simp only[bne,zEA]; generalize (c == 0)=z; generalize (m == 2)=y; cases z <;> rfl
 ·simp only[bne,zEA]; generalize (c == 0)=z; generalize (m == 2)=y; cases z <;> rfl
 ·simp only[bne,zEA]; generalize (c == 0)=z; generalize (m == 3)=y; cases z <;> rfl
 ·simp only[bne,zEA]; generalize (c == 0)=z; generalize (m == 1)=y; cases z <;> rfl
 ·simp only[bne,zEA]; generalize (c == 0)=z; generalize (m == 1)=y; cases z <;> rfl
 ·unfold zEA;rw[if_pos rfl,beq_self_eq_true,cond_true]
  by_cases h1:1<=c
  ·rw[zBv h1,zDh (by omega)]
   generalize (m.tmod c == 0)=y;cases decide (c<=16) <;> cases decide (1<=m) <;> cases decide (m<=256) <;> rfl
  ·rw[zBn h1]; rfl
 ·have e:∀ i:Int,1<=i->i<=12->(k == i)=false:=fun i h1 h2=>zIS (by omega)
  have f:∀ i:Int,1<=i->i<=12->k ≠ i:=fun i h1 h2=>by omega
  unfold zEA;rw[if_neg (f 12 (by decide) (by decide)),if_neg (f 1 (by decide) (by decide)),if_neg (f 2 (by decide) (by decide)),if_neg (f 3 (by decide) (by decide)),if_neg (f 4 (by decide) (by decide)),if_neg (f 5 (by decide) (by decide)),
   if_neg (f 6 (by decide) (by decide)),if_neg (f 7 (by decide) (by decide)),if_neg (f 8 (by decide) (by decide)),if_neg (f 9 (by decide) (by decide)),if_neg (f 10 (by decide) (by decide)),if_neg (f 11 (by decide) (by decide))]
  rw[e 12 (by decide) (by decide),e 1 (by decide) (by decide),e 2 (by decide) (by decide),e 3 (by decide) (by decide),e 4 (by decide) (by decide),e 5 (by decide) (by decide),
   e 6 (by decide) (by decide),e 7 (by decide) (by decide),e 8 (by decide) (by decide),e 9 (by decide) (by decide),e 10 (by decide) (by decide),e 11 (by decide) (by decide)]
  cases(c == 0) <;> cases(c != 0) <;> rfl
theorem zSF (n:Nat) (x:Int) (k:Int) (t:List UInt8) (c:Int) (ks:List Nd) (h:t.length+40<n) (hb:t.length<=1073741824) :
  zBE n ((),x) (.mk k t c ks)=some (zPH k t&&zEA k c (ks.length:Int),((),x)):=by
 have e200:=zEw t.length 200;rw[show((200:Nat):Int)=200 from rfl]at e200;unfold zBE;dsimp only;generalize (ks.length:Int)=m;have em:zBk t=some (t == []):=rfl;rcases kinds k with rfl | rfl | rfl | rfl | rfl | rfl | rfl | rfl | rfl | rfl | rfl | rfl | h
 ·simp only[em]
  show _=some ((t == [])&&((c == 0)&&decide (m<=200)),((),x))
  cases t == [] <;> cases c == 0 <;> rfl
 ·simp only[zKF n t h hb]
  show _=some (symB t&&((c == 0)&&(m == 0)),((),x))
  cases symB t <;> cases c == 0 <;> rfl
 ·simp only[zKE n t (by omega) hb]
  show _=some (numB t&&((c == 0)&&(m == 0)),((),x))
  cases numB t <;> cases c == 0 <;> rfl
 ·simp only[zMa n t (by omega) hb,e200]
  show _=some ((decide (t.length<=200)&&t.all zFr)&&((c == 0)&&(m == 0)),((),x))
  cases decide (t.length<=200) <;> cases t.all zFr <;> cases c == 0 <;> rfl
 ·simp only[em]
  show _=some ((t == [])&&((c == 0)&&(m == 2)),((),x))
  cases t == [] <;> cases c == 0 <;> rfl
 ·simp only[em]
  show _=some ((t == [])&&((c == 0)&&(m == 2)),((),x))
  cases t == [] <;> cases c == 0 <;> rfl
 ·simp only[em]
  show _=some ((t == [])&&((c == 0)&&(m == 2)),((),x))
  cases t == [] <;> cases c == 0 <;> rfl
 ·simp only[em]
  show _=some ((t == [])&&((c == 0)&&(m == 2)),((),x))
  cases t == [] <;> cases c == 0 <;> rfl
 ·simp only[em]
  show _=some ((t == [])&&((c == 0)&&(m == 3)),((),x))
  cases t == [] <;> cases c == 0 <;> rfl
 ·simp only[zGY]
  show _=some ((acL.any fun e=>e == t)&&((c == 0)&&(m == 1)),((),x))
  cases(acL.any fun e=>e == t) <;> cases c == 0 <;> rfl
 ·simp only[zL9]
  show _=some (fenB t&&((c == 0)&&(m == 1)),((),x))
  cases fenB t <;> cases c == 0 <;> rfl
 ·simp only[em]
  show _=some ((t == [])&&(decide (1<=c)&&(decide (c<=16)&&(decide (1<=m)&&(decide (m<=256)&&(m.tmod c == 0))))),((),x))
  by_cases h1:1<=c
  ·rw[zBv h1,zDh (by omega)]
   generalize (m.tmod c == 0)=y;cases t == [] <;> cases decide (c<=16) <;> cases decide (1<=m) <;> cases decide (m<=256) <;> rfl
  ·rw[zBn h1]
   cases t == [] <;> rfl
 ·have f:∀ i:Int,1<=i->i<=12->k ≠ i:=fun i h1 h2=>by omega
  have hk:zEA k c m=false:=by
   unfold zEA;rw[if_neg (f 12 (by decide) (by decide)),if_neg (f 1 (by decide) (by decide)),if_neg (f 2 (by decide) (by decide)),if_neg (f 3 (by decide) (by decide)),if_neg (f 4 (by decide) (by decide)),if_neg (f 5 (by decide) (by decide)),
    if_neg (f 6 (by decide) (by decide)),if_neg (f 7 (by decide) (by decide)),if_neg (f 8 (by decide) (by decide)),if_neg (f 9 (by decide) (by decide)),if_neg (f 10 (by decide) (by decide)),if_neg (f 11 (by decide) (by decide))]
   exact Bool.and_false _
  rw[hk,Bool.and_false]
  by_cases h1:k<1
  ·rw[zBv h1]; rfl
  ·rw[zBn h1,zBv (show 12<k by omega)]; rfl
theorem zHZ {F:Nd->Option Bool}{k:Int}{ks:List Nd} (hF:∀ v∈ks,F v=some (zEa v)) (hl:ks.length<=1073741824) :
  ∀ (q i:Nat),ks.length - i<q->i<=ks.length->zB0 F k ks q (i:Int)=some (if zEY k (ks.drop i) then .go () else .ret false)
 | 0,_,h,_=>by omega
 | q+1,i,hq,hi=>by
  unfold zB0
  by_cases h:i<ks.length
  ·rw[zBv (Int.ofNat_lt.2 h),cond_true,zDF h]
   have hf:=hF _ (List.getElem_mem h)
   have g1:=zLd (k:=k) h;rcases e:ks[i] with ⟨a,b,c,d⟩
   rw[e]at hf g1;simp only[Nd.kind]at g1;generalize zEY k (ks.drop i)=g at g1 ⊢;subst g1;simp only[obs,hf]
   rw[zBy (by omega),zHZ hF hl q (i+1) (by omega) (by omega)]
   cases((a == 1) == (k == 1)) <;> cases zEa (Nd.mk a b c d) <;> simp
  ·rw[zBn (by omega),cond_false]
   obtain rfl:i=ks.length :=(by omega);simp[zEY]
theorem zKj:∀ (n:Nat) (t:Nd),t.w+45<n->t.w<=1073741824->zCz n t=some (zEa t)
 | 0,_,h,_=>by omega
 | n+1,.mk k t c ks,h,hb=>by
  simp only[Nd.w]at h hb;have hl:=Nd.ws_len ks;unfold zCz;rw[zOB n k t c ks (by omega) (by omega),zOA]
  have:=zHZ (F:=zCz n) (k:=k) (ks:=ks) (fun v hv=>zKj n v (by have:=Nd.w_mem hv; omega) (by have:=Nd.w_mem hv; omega)) (by omega) n 0 (by omega) (by omega)
  rw[show((0:Nat):Int)=0 from rfl,List.drop_zero]at this;simp only[obs,this,zEa]
  cases zPH k t <;> cases zEA k c (ks.length:Int) <;> cases zEY k ks <;> rfl
theorem zG4 {F:Nd->Option Int}{ks:List Nd} (hF:∀ v∈ks,F v=some (v.dep:Int)) (hl:ks.length<=1073741824) :
  ∀ (q i o:Nat),ks.length - i<q->i<=ks.length->zBK F ks q (o:Int) (i:Int)=some ((Nat.max o (Nd.deps (ks.drop i)):Nat):Int)
 | 0,_,_,h,_=>by omega
 | q+1,i,o,hq,hi=>by
  unfold zBK
  by_cases h:i<ks.length
  ·rw[zBv (Int.ofNat_lt.2 h),cond_true,zDF h,zNa h]
   have hf:=hF _ (List.getElem_mem h)
   rcases e:ks[i] with ⟨a,b,c,d⟩
   rw[e]at hf;simp only[obs,hf]
   have hm:(if (o:Int)<((Nd.mk a b c d).dep:Int) then ((Nd.mk a b c d).dep:Int) else (o:Int))=((Nat.max o (Nd.mk a b c d).dep:Nat):Int):=by
    by_cases g:(o:Int)<((Nd.mk a b c d).dep:Int)
    ·rw[if_pos g]; congr 1; exact(Nat.max_eq_right (by omega)).symm
    ·rw[if_neg g]; congr 1; exact(Nat.max_eq_left (by omega)).symm
   rw[zBy (by omega),hm,zG4 hF hl q (i+1) _ (by omega) (by omega)]
   congr 2
   exact Nat.max_assoc _ _ _
  ·rw[zBn (by omega),cond_false]
   obtain rfl:i=ks.length :=(by omega);rw[List.drop_length]
   congr 2
   exact(Nat.max_eq_left (Nat.zero_le _)).symm
theorem zIW:∀ (n:Nat) (t:Nd),t.cnt<n->t.cnt<=67108864->zBY n t=some (t.dep:Int)
 | 0,_,h,_=>by omega
 | n+1,.mk k t c ks,h,hb=>by
  simp only[Nd.cnt]at h hb;have hl:=Nd.cnts_len ks;have hd:=Nd.deps_cnts ks;unfold zBY;have:=zG4 (F:=zBY n) (ks:=ks) (fun v hv=>zIW n v (by have:=Nd.cnts_mem hv; omega) (by have:=Nd.cnts_mem hv; omega)) (by omega) n 0 0 (by omega) (by omega)
  rw[show((0:Nat):Int)=0 from rfl,List.drop_zero]at this;rw[this,obs,show Nat.max 0 (Nd.deps ks)=Nd.deps ks from Nat.max_eq_right (Nat.zero_le _),zBy (by omega)]
  rfl
def zBb (t:Nd):Bool:=(t.kind == 1)&&(zEa t&&(decide (t.cnt<=1000)&&decide (t.dep<=24)))
theorem zNS (n:Nat) (t:Nd) (h:t.w+45<n) (hb:t.w<=67108864):zED n t=some (zBb t):=by
 have hc:=Nd.cnt_w t;have e1:=zKj n t h (by omega)
 have e2:=zIV n t (by omega) (by omega)
 have e3:=zIW n t (by omega) (by omega)
 have e4:=zEw t.cnt 1000;rw[show((1000:Nat):Int)=1000 from rfl]at e4;have e5:=zEw t.dep 24;rw[show((24:Nat):Int)=24 from rfl]at e5;obtain⟨k,s,c,ks⟩:=t;unfold zED zBb;simp only[e1,e2,e3,obs,e4,e5,Nd.kind]
 cases k == 1 <;> cases zEa (.mk k s c ks) <;> cases decide ((Nd.mk k s c ks).cnt<=1000) <;> rfl
abbrev okN (t:Nd) (x d:Nat):Prop:=zEa t=true/\x+t.cnt<=1000/\d+t.dep<=25
abbrev okNs (k:Int) (vs:List Nd) (x d:Nat):Prop:=zEY k vs=true/\x+Nd.cnts vs<=1000/\d+Nd.deps vs<=24
theorem zLb {F:(Unit×Int)->Nd->Int->Option (Bool×(Unit×Int))}{k:Int}{ks:List Nd}{d:Nat} (hd:d<=24)
  (hF:∀ v∈ks,∀ x:Nat,x<=1000->∃ y,F ((),(x:Int)) v ((d+1:Nat):Int)=some (decide (okN v x (d+1)),((),y))/\(okN v x (d+1)->y=((x+v.cnt:Nat):Int))) (hl:ks.length<=1073741824) :
  ∀ (q i x:Nat),ks.length - i<q->i<=ks.length->x<=1000 ->
   (okNs k (ks.drop i) x d/\zAB F k ks (d:Int) q (x:Int) (i:Int)=some (.go ((x+Nd.cnts (ks.drop i):Nat):Int))) ∨
   (¬ okNs k (ks.drop i) x d/\∃ z,zAB F k ks (d:Int) q (x:Int) (i:Int)=some (.ret (false,((),z))))
 | 0,_,_,h,_,_=>by omega
 | q+1,i,x,hq,hi,hx=>by
  unfold zAB
  by_cases h:i<ks.length
  ·rw[zBv (Int.ofNat_lt.2 h),cond_true,zDF h]
   obtain⟨y,hf,hy⟩:=hF _ (List.getElem_mem h) x hx;have g1:=zLd (k:=k) h;have g2:=Nd.cnts_drop h;have g3:=zNa h;rcases e:ks[i] with ⟨a,b,c,ds⟩
   rw[e]at hf hy g1 g2 g3;simp only[obs]
   rw[zBy (by omega),zBy (by omega),hf]
   simp only[obs]
   have g4:Nd.deps (ks.drop i)=Nat.max (Nd.mk a b c ds).dep (Nd.deps (ks.drop (i+1))):=g3;have g5:(Nd.mk a b c ds).dep<=Nd.deps (ks.drop i) :=(by rw[g4]; exact Nat.le_max_left _ _);have g6:Nd.deps (ks.drop (i+1))<=Nd.deps (ks.drop i) :=(by rw[g4]; exact Nat.le_max_right _ _);rw[show((k == 1) == (a == 1))=((a == 1) == (k == 1)) by cases k == 1 <;> cases a == 1 <;> rfl]
   cases hkk:((a == 1) == (k == 1)) with
   | true =>
    simp only[cond_true,obs]
    refine .inr ⟨fun⟨h1,_⟩=>?_,_,rfl⟩
    rw[g1]at h1;simp[Nd.kind,hkk]at h1
   | false =>
    simp only[cond_false,obs]
    by_cases hok:okN (Nd.mk a b c ds) x (d+1)
    ·rw[zBv hok]
     simp only[Bool.not_true,cond_false]
     rw[hy hok]
     have hp:=(Nd.mk a b c ds).cnt_pos;rcases zLb hd hF hl q (i+1) (x+(Nd.mk a b c ds).cnt) (by omega) (by omega) hok.2.1 with ⟨hr,hr2⟩ | ⟨hr,z,hr2⟩
     ·refine .inl ⟨⟨?_,?_,?_⟩,?_⟩
      ·rw[g1,hr.1,hok.1]; simp[Nd.kind,hkk]
      ·have:=hr.2.1; omega
      ·have:=hr.2.2;have:=hok.2.2;have:Nd.deps (ks.drop i)<=24 - d:=by rw[g4]; exact Nat.max_le.2 ⟨by omega,by omega⟩
       omega
      ·rw[hr2,g2]; congr 3; omega
     ·refine .inr ⟨fun⟨h1,h2,h3⟩=>hr ⟨?_,by omega,by omega⟩,z,hr2⟩
      rw[g1]at h1;simp only[Bool.and_eq_true]at h1;exact h1.2
    ·rw[zBn hok]
     simp only[Bool.not_false,cond_true]
     refine .inr ⟨fun⟨h1,h2,h3⟩=>hok ⟨?_,by omega,by omega⟩,y,rfl⟩
     rw[g1]at h1;simp only[Bool.and_eq_true]at h1;exact h1.1.2
  ·rw[zBn (by omega),cond_false]
   obtain rfl:i=ks.length :=(by omega);rw[List.drop_length]
   exact .inl ⟨⟨rfl,hx,hd⟩,rfl⟩
theorem zOO:∀ (n:Nat) (t:Nd) (x d:Nat),t.w+45<n->t.w<=67108864->x<=1000->d<=25 ->
  ∃ y,zAF n ((),(x:Int)) t (d:Int)=some (decide (okN t x d),((),y))/\(okN t x d->y=((x+t.cnt:Nat):Int))
 | 0,_,_,_,h,_,_,_=>by omega
 | n+1,.mk k t c ks,x,d,h,hb,hx,hd=>by
  simp only[Nd.w]at h hb;have hl:=Nd.ws_len ks;unfold zAF;rw[zBy (by omega)]
  by_cases h1:1000<((x+1:Nat):Int)
  ·rw[zBv h1]
   simp only[cond_true,obs]
   have hn:¬ okN (.mk k t c ks) x d:=fun⟨_,h2,_⟩=>by simp only[Nd.cnt]at h2; omega
   exact⟨_,by rw[zBn hn],fun h=>absurd h hn⟩
  ·rw[zBn h1,cond_false]
   by_cases h2:24<(d:Int)
   ·rw[zBv h2]
    simp only[cond_true,obs]
    have hn:¬ okN (.mk k t c ks) x d:=fun⟨_,_,h2⟩=>by simp only[Nd.dep]at h2; omega
    exact⟨_,by rw[zBn hn],fun h=>absurd h hn⟩
   ·rw[zBn h2,cond_false,zSF n _ k t c ks (by omega) (by omega)]
    simp only[obs]
    cases ho:(zPH k t&&zEA k c (ks.length:Int)) with
    | false =>
     simp only[Bool.not_false,cond_true]
     have hn:¬ okN (.mk k t c ks) x d:=fun⟨h1,_⟩=>by rw[zEa,ho]at h1; cases h1
     exact⟨_,by rw[zBn hn],fun h=>absurd h hn⟩
    | true =>
     simp only[Bool.not_true,cond_false]
     have:=zLb (F:=zAF n) (k:=k) (ks:=ks) (d:=d) (by omega) (fun v hv z hz=>zOO n v z (d+1) (by have:=Nd.w_mem hv; omega) (by have:=Nd.w_mem hv; omega) hz (by omega)) (by omega) n 0 (x+1) (by omega) (by omega) (by omega)
     rw[show((0:Nat):Int)=0 from rfl,List.drop_zero]at this;rcases this with ⟨hr,hr2⟩ | ⟨hr,z,hr2⟩
     ·have hy:okN (.mk k t c ks) x d:=⟨by rw[zEa,ho,hr.1]; rfl,by have:=hr.2.1; simp only[Nd.cnt]; omega,by have:=hr.2.2; simp only[Nd.dep]; omega⟩
      rw[hr2]
      exact⟨_,by rw[zBv hy]; rfl,fun _=>by simp only[Nd.cnt]; omega⟩
     ·have hn:¬ okN (.mk k t c ks) x d:=fun⟨g1,g2,g3⟩=>hr ⟨by rw[zEa,ho]at g1; exact g1,by simp only[Nd.cnt]at g2; omega,by simp only[Nd.dep]at g3; omega⟩
      rw[hr2]
      exact⟨_,by rw[zBn hn]; rfl,fun h=>absurd h hn⟩
theorem zFC (n:Nat) (t:Nd) (h:t.w+45<n) (hb:t.w<=67108864):zAv n t=some (zBb t):=by
 obtain⟨y,h1,_⟩:=zOO n t 0 1 h hb (by omega) (by omega)
 rw[show((0:Nat):Int)=0 from rfl,show((1:Nat):Int)=1 from rfl]at h1;obtain⟨k,s,c,ks⟩:=t;unfold zAv zBb;have hk:zEZ=some ():=rfl;simp only[hk,h1,obs,Nd.kind]
 cases k == 1 with
 | false=>rfl
 | true =>
  simp only[cond_true,obs,Bool.true_and,Option.some.injEq,okN]
  cases zEa (.mk k s c ks) with
  | false=>simp
  | true =>
   by_cases g1:(Nd.mk k s c ks).cnt<=1000
   ·by_cases g2:(Nd.mk k s c ks).dep<=24
    ·rw[zBv g1,zBv g2,zBv ⟨rfl,by omega,by omega⟩]; rfl
    ·rw[zBv g1,zBn g2,zBn (fun h=>g2 (by omega))]; rfl
   ·rw[zBn g1,zBn (fun h=>g1 (by omega))]; rfl
def Nd.text:Nd->List UInt8 | .mk _ t _ _=>t
def Nd.cols:Nd->Int | .mk _ _ c _=>c
def zSt (x y:Nd):Bool:=(x.kind == y.kind)&&(((x.kids.length:Int) == (y.kids.length:Int))&&(x.cols == y.cols))
def rowD (P:Nd->Nd->Nat) (x:Nd) (f:List Nd->Nat):List Nd->Nat
 | []=>x.cnt+f []
 | y::ys=>if zSt x y then min (min (x.cnt+f (y::ys)) (y.cnt+rowD P x f ys)) (P x y+f ys) else min (x.cnt+f (y::ys)) (y.cnt+rowD P x f ys)
def TD (P:Nd->Nd->Nat):List Nd->List Nd->Nat
 | []=>Nd.cnts
 | x::xs=>rowD P x (TD P xs)
def sumD (f:List Nd->List Nd->Nat):List Nd->List Nd->Nat
 | u::us,v::vs=>f u.kids v.kids+sumD f us vs
 | _,_=>0
def txt (x y:Nd):Nat:=bif x.text == y.text then 0 else 1
def PD:Nat->Nd->Nd->Nat
 | 0,_,_=>0
 | n+1,x,y=>txt x y+sumD (TD (PD n)) x.kids y.kids
def D (x y:Nd):Nat:=PD x.cnt x y
def zQn:List (List UInt8):=[[114,111,119],[115,121,109],[110,117,109],[116,101,120,116],[102,114,97,99],[114,111,111,116],[115,117,98],[115,117,112],
 [98,111,116,104],[97,99,99,101,110,116],[102,101,110,99,101],[109,97,116,114,105,120]]
def kindName (k:Int):List UInt8:=if 1<=k/\k<=12 then zQn.getD (k.toNat - 1) [] else [110,111,100,101]++Lib.itoa k
def escL:List UInt8->List UInt8
 | []=>[]
 | c::r=>if c=34∨c=92 then 92::c::escL r else c::escL r
def zKu (t:List UInt8):List UInt8:=if t=[] then [] else 58::34::(escL t++[34])
def zLW (c:Int):List UInt8:=if c=0 then [] else 42::Lib.itoa c
def zQa (k:Int) (t:List UInt8) (c:Int):List UInt8:=kindName k++(zKu t++zLW c)
def zQc:List UInt8->List UInt8
 | []=>[]
 | _::r=>40::(r++[41])
mutual
def zNd:Nd->List UInt8
 | .mk k t c ks=>zQa k t c++zQc (zDl ks)
def zDl:List Nd->List UInt8
 | []=>[]
 | v::vs=>32::(zNd v++zDl vs)
end
def hd (l:List UInt8) (s:List UInt8):Prop:=∀ b r,l=b::r->b∈s
theorem zJg:∀ t:List UInt8,(escL t).length<=2 * t.length
 | []=>Nat.le_refl _
 | c::r=>by
  have:=zJg r;simp only[escL]
  split <;> simp only[List.length_cons] <;> omega
theorem zIQ {k:Int} (h:zIg k):(kindName k).length<=25:=by
 unfold kindName;split
 ·have:∀ i<12,(zQn.getD i []).length<=25 :=(by decide);exact this _ (by omega)
 ·have:=Lib.itoa_length_le k h.1 h.2
  simp; omega
theorem zQb {k:Int}{t:List UInt8}{c:Int} (hk:zIg k) (hc:zIg c):(zQa k t c).length<=55+2 * t.length:=by
 have h1:=zIQ hk;have h2:=zJg t;have h3:=Lib.itoa_length_le c hc.1 hc.2;have h4:(zKu t).length<=3+2 * t.length :=(by unfold zKu; split <;> simp; omega);have h5:(zLW c).length<=22 :=(by unfold zLW; split <;> simp; omega);simp only[zQa,List.length_append]; omega
theorem zQd (l:List UInt8):(zQc l).length<=l.length+1:=by cases l <;> simp[zQc]
mutual
theorem zP4:∀ v:Nd,v.rng->(zNd v).length<=60 * v.w
 | .mk k t c ks,h=>by
  have h1:=zQb (t:=t) h.1 h.2.1
  have h2:=zIe ks h.2.2
  have h3:=zQd (zDl ks)
  simp only[zNd,List.length_append,Nd.w]; omega
theorem zIe:∀ vs:List Nd,Nd.rngs vs->(zDl vs).length<=60 * Nd.ws vs
 | [],_=>by simp[zDl]
 | v::vs,h=>by
  have h1:=zP4 v h.1
  have h2:=zIe vs h.2
  simp only[zDl,List.length_cons,List.length_append,Nd.ws]; omega
end
theorem zRF (c:UInt8):((c.toNat:Int) == 34)=(c == 34)/\((c.toNat:Int) == 92)=(c == 92) :=
 ⟨of_decide_eq_true (zIZ (P:=fun c=>decide (((c.toNat:Int) == 34)=(c == 34))) (by decide +kernel) c),of_decide_eq_true (zIZ (P:=fun c=>decide (((c.toNat:Int) == 92)=(c == 92))) (by decide +kernel) c)⟩
theorem zP7 {t:List UInt8}{i:Nat} (h:i<t.length):escL (t.drop i)=if t[i]=34∨t[i]=92 then 92::t[i]::escL (t.drop (i+1)) else t[i]::escL (t.drop (i+1)):=by
 rw[List.drop_eq_getElem_cons h]; rfl
theorem zNn (k:Int):kindName k=if k=1 then [114,111,119] else if k=2 then [115,121,109] else if k=3 then [110,117,109] else if k=4 then [116,101,120,116]
 else if k=5 then [102,114,97,99] else if k=6 then [114,111,111,116] else if k=7 then [115,117,98] else if k=8 then [115,117,112]
 else if k=9 then [98,111,116,104] else if k=10 then [97,99,99,101,110,116] else if k=11 then [102,101,110,99,101]
 else if k=12 then [109,97,116,114,105,120] else [110,111,100,101]++Lib.itoa k:=by
 rcases kinds k with rfl | rfl | rfl | rfl | rfl | rfl | rfl | rfl | rfl | rfl | rfl | rfl | hk
 all_goals first | rfl | skip
 unfold kindName;rw[if_neg (by omega),if_neg (by omega),if_neg (by omega),if_neg (by omega),if_neg (by omega),if_neg (by omega),if_neg (by omega),if_neg (by omega),if_neg (by omega),if_neg (by omega),if_neg (by omega),if_neg (by omega),if_neg (by omega)]
theorem zR1 (k:Int):(bif decide (1<=k) then some (decide (k<=12)) else some false:Option Bool)=some (decide (1<=k/\k<=12)):=by
 by_cases h:1<=k
 ·rw[zBv h,cond_true]; congr 1; by_cases h2:k<=12 <;> simp[h,h2]
 ·rw[zBn h,cond_false]; congr 1; simp[h]
theorem zSi (k:Int) (t:List UInt8) (c:Int) (ks:List Nd):(Nd.mk k t c ks).w=t.length+Nd.ws ks+1:=rfl
theorem zNb (r:Nat) (h:r<10):b8of (IntKind.u8.wrap (IntKind.i64.wrap (48+(r:Int))))=UInt8.ofNat (48+r):=by
 have:∀ r<10,b8of (IntKind.u8.wrap (IntKind.i64.wrap (48+((r:Nat):Int))))=UInt8.ofNat (48+r) :=(by decide);exact this r h
theorem zP2 (r:Nat) (h:r<10):b8of (IntKind.u8.wrap (IntKind.i64.wrap (48 - -(r:Int))))=UInt8.ofNat (48+r):=by
 have:∀ r<10,b8of (IntKind.u8.wrap (IntKind.i64.wrap (48 - -((r:Nat):Int))))=UInt8.ofNat (48+r) :=(by decide);exact this r h
theorem zOU:∀ (k u:Nat) (s:List UInt8),u<10 ^ k->u<9223372036854775808->s.length+k<=1000->∃ (q:Nat) (r:List UInt8),zA9 (k+1) (u:Int) s=some ((q:Int),r)/\q<10/\r.length<=s.length+k/\UInt8.ofNat (48+q)::r=Lib.decDigits u++s
 | k,u,s,hk,hu,hs=>by
  unfold zA9
  by_cases h:u<10
  ·rw[zBn (by omega),cond_false]
   exact⟨u,s,rfl,h,by omega,by rw[Lib.decDigits,dif_pos h]; rfl⟩
  ·rw[zBv (by omega),cond_true]
   match k,hk with
   | 0,hk=>simp at hk; omega
   | k+1,hk =>
    have e1:(u:Int).tmod 10=((u % 10:Nat):Int) :=(by rw[Int.tmod_eq_emod_of_nonneg (by omega)]; rfl);have e2:IntKind.i64.wrap ((u:Int).tdiv 10)=((u / 10:Nat):Int):=by
     rw[Int.tdiv_eq_ediv_of_nonneg (by omega),wrap64_in (by omega) (by omega)]; rfl
    rw[e1,e2,zNb _ (Nat.mod_lt _ (by decide)),zDh (by simp; omega)]
    obtain⟨q,r,h1,h2,h3,h4⟩:=zOU k (u / 10) ([UInt8.ofNat (48+u % 10)]++s) (by rw[Nat.pow_succ]at hk; omega) (by omega) (by simp; omega)
    refine⟨q,r,h1,h2,by simp at h3; omega,?_⟩
    rw[h4,Lib.decDigits.eq_def u,dif_neg h]
    simp
theorem zLr (n u:Nat) (h:25<=n) (hu:u<9223372036854775808):zDc (n+1) (u:Int)=some (Lib.decDigits u):=by
 unfold zDc;rw[zBn (by omega),cond_false]
 obtain⟨q,r,h1,h2,h3,h4⟩:=zOU (min (n - 1) 900) u [] (by
  have:(10:Nat) ^ 24<=10 ^ (min (n - 1) 900):=Nat.pow_le_pow_right (by decide) (by omega)
  have:(9223372036854775808:Nat)<=10 ^ 24:=by decide
  omega) hu (by simp; omega)
 have hl:∀ (k m:Nat) (x:Int) (s:List UInt8) y,zA9 k x s=some y->zA9 (k+m) x s=some y:=by
  intro k
  induction k with
  | zero=>intro m x s y h; simp[zA9]at h
  | succ k ih =>
   intro m x s y h;rw[show k+1+m=(k+m)+1 by omega]
   unfold zA9 at h ⊢
   by_cases hx:10<=x
   ·rw[zBv hx,cond_true]at h ⊢;obtain⟨hq,h⟩:=zAy h;rw[zDh hq]
    exact ih m _ _ _ h
   ·rw[zBn hx,cond_false]at h ⊢;exact h
 have:=hl _ (n - (min (n - 1) 900+1)) _ _ _ h1;rw[show min (n - 1) 900+1+(n - (min (n - 1) 900+1))=n by omega]at this;rw[this]
 simp only[obs]
 rw[zNb q h2,zDh (by simp at h3 ⊢; omega)]
 simpa using h4
theorem zLq (n:Nat) (x:Int) (h:30<=n) (hx:zIg x):zDc n x=some (Lib.itoa x):=by
 unfold zIg at hx;obtain⟨n,rfl⟩:∃ m,n=m+1:=⟨n - 1,by omega⟩
 by_cases h0:x<0
 ·obtain⟨u,rfl⟩:∃ u:Nat,x = -(u:Int):=⟨x.natAbs,by omega⟩
  have e1:(-(u:Int)).tmod 10 = -((u % 10:Nat):Int) :=(by rw[Int.neg_tmod,Int.tmod_eq_emod_of_nonneg (by omega)]; rfl);have e2:IntKind.i64.wrap ((-(u:Int)).tdiv 10) = -((u / 10:Nat):Int):=by
   rw[Int.neg_tdiv,Int.tdiv_eq_ediv_of_nonneg (by omega),wrap64_in (by omega) (by omega)]; rfl
  unfold zDc Lib.itoa;rw[zBv h0,cond_true,if_pos h0,e1,e2,zP2 _ (Nat.mod_lt _ (by decide)),show(-(u:Int)).natAbs=u by omega]
  by_cases h1:u / 10=0
  ·rw[h1,show(-((0:Nat):Int) != 0)=false from rfl,cond_false,zDh (by simp),Lib.decDigits,dif_pos (by omega),Nat.mod_eq_of_lt (by omega)]
   rfl
  ·rw[show(-((u / 10:Nat):Int) != 0)=true from bne_iff_ne.2 (by omega),cond_true]
   have e3:IntKind.i64.wrap (0 - -((u / 10:Nat):Int))=((u / 10:Nat):Int) :=(by rw[wrap64_in (by omega) (by omega)]; omega);obtain⟨m,rfl⟩:∃ m,n=m+1:=⟨n - 1,by omega⟩
   rw[e3,zLr m (u / 10) (by omega) (by omega)]
   have hl:=Lib.nDigits_le20 (u / 10) (by omega)
   have hl2:=Lib.decDigits_length (u / 10)
   simp only[obs]
   rw[zDh (by simp; omega),zDh (by simp; omega),Lib.decDigits.eq_def u,dif_neg (by omega)]
   simp
 ·obtain⟨u,rfl⟩:∃ u:Nat,x=(u:Int):=⟨x.toNat,by omega⟩
  unfold Lib.itoa;rw[if_neg h0,Int.toNat_natCast]
  exact zLr n u (by omega) (by omega)
theorem zKg (t:List UInt8) (ht:t.length<=1073741824):∀ (k i:Nat) (l:List UInt8),t.length - i<k->i<=t.length->l.length+2 * (t.length - i)<4294967296 ->
  zBa t k (i:Int) l=some (l++escL (t.drop i))
 | 0,_,_,h,_,_=>by omega
 | k+1,i,l,hk,hi,hl=>by
  unfold zBa
  by_cases h:i<t.length
  ·rw[zBv (Int.ofNat_lt.2 h),cond_true,zDF h,zP7 h]
   simp only[obs,(zRF t[i]).1,(zRF t[i]).2]
   rw[zBy (by omega)]
   have e92:b8of 92=92:=rfl;have hx:(bif t[i] == 34 then some true else some (t[i] == 92):Option Bool)=some (decide (t[i]=34∨t[i]=92)):=by
    by_cases h1:t[i]=34
    ·simp[h1]
    ·by_cases h2:t[i]=92
     ·simp[h2]
     ·rw[beq_eq_false_iff_ne.2 h1,beq_eq_false_iff_ne.2 h2,cond_false,decide_eq_false (by intro h; exact h.elim h1 h2)]
   rw[hx]
   simp only[obs]
   by_cases hq:t[i]=34∨t[i]=92
   ·rw[decide_eq_true hq,cond_true,if_pos hq,zDh (by simp; omega)]
    simp only[obs]
    rw[zDh (by simp; omega)]
    simp only[obs]
    rw[zKg t ht k (i+1) _ (by omega) (by omega) (by simp; omega),e92]
    simp
   ·rw[decide_eq_false hq,cond_false,if_neg hq]
    simp only[obs]
    rw[zDh (by simp; omega)]
    simp only[obs]
    rw[zKg t ht k (i+1) _ (by omega) (by omega) (by simp; omega)]
    simp
  ·rw[zBn (by omega),cond_false]
   obtain rfl:i=t.length :=(by omega);simp[escL]
theorem zMw (n:Nat) (t:List UInt8) (hn:t.length<n) (ht:t.length<=1073741824):zDO n t=some (34::(escL t++[34])):=by
 unfold zDO;have:=zKg t ht n 0 [34] (by omega) (by omega) (by simp; omega)
 rw[show((0:Nat):Int)=0 from rfl,List.drop_zero]at this;have he:=zJg t;show(zBa t n 0 [b8of 34]).bind _=_;rw[show b8of 34=34 from rfl,this,obs,zDh (by simp; omega)]
 simp
theorem zIq {F:Nd->Option (List UInt8)}{ks:List Nd} (hF:∀ v∈ks,F v=some (zNd v)) (hl:ks.length<=1073741824) :
  ∀ (q i:Nat) (x:List UInt8),ks.length - i<q->i<=ks.length->x.length+(zDl (ks.drop i)).length<=4294967296 ->
   zBZ F ks q x (i:Int)=some (x++(if i=0 then (zDl ks).tail else zDl (ks.drop i)))
 | 0,_,_,h,_,_=>by omega
 | q+1,i,x,hq,hi,hx=>by
  unfold zBZ
  by_cases h:i<ks.length
  ·have hd:=List.drop_eq_getElem_cons h;have hf:=hF _ (List.getElem_mem h)
   rw[hd]at hx;rw[zBv (Int.ofNat_lt.2 h),cond_true,zDF h]
   rcases e:ks[i] with ⟨e1,e2,e3,e4⟩
   rw[e]at hf hd hx;simp only[zDl,List.length_cons,List.length_append]at hx;simp only[obs,hf]
   rw[zBy (by omega)]
   by_cases h0:i=0
   ·subst h0;rw[zBn (by omega),cond_false]
    simp only[obs]
    rw[zDh (by omega)]
    simp only[obs]
    have ih:=zIq hF hl q 1 (x++zNd (.mk e1 e2 e3 e4)) (by omega) (by omega) (by simp at hx ⊢; omega)
    rw[show(((0+1:Nat)):Int)=((1:Nat):Int) from rfl,ih,if_neg (by decide)]
    rw[List.drop_zero]at hd;have hd':=congrArg zDl hd;simp only[zDl]at hd';simp[hd']
   ·rw[zBv (by omega),cond_true,zDh (by simp; omega)]
    simp only[obs]
    rw[zDh (by simp; omega)]
    simp only[obs]
    rw[zIq hF hl q (i+1) _ (by omega) (by omega) (by simp; omega),if_neg (by omega),if_neg h0,hd]
    simp[zDl]
  ·rw[zBn (by omega),cond_false]
   obtain rfl:i=ks.length:=by omega
   congr 1
   by_cases h0:ks.length=0
   ·rw[if_pos h0,List.length_eq_zero_iff.1 h0]; simp[zDl]
   ·rw[if_neg h0,List.drop_length]; simp[zDl]
theorem zPp {l:List UInt8} (h:l ≠ []):zQc l=40::(l.tail++[41]):=by
 cases l with
 | nil=>exact absurd rfl h
 | cons a l=>rfl
theorem zKh:∀ (n:Nat) (t:Nd),t.w+40<n->t.w<=16777216->t.rng->zCy n t=some (zNd t)
 | 0,_,h,_,_=>by omega
 | n+1,.mk k t c ks,h,hw,hr=>by
  have hwt:=zSi k t c ks;have hki:=Lib.itoa_length_le k hr.1.1 hr.1.2;have hci:=Lib.itoa_length_le c hr.2.1.1 hr.2.1.2;have hkl:=zIQ hr.1;have he:=zJg t;have hd:=zIe ks hr.2.2;unfold zCy;rw[zLq n k (by omega) hr.1]
  simp only[obs]
  rw[zDh (by simp; omega),zR1]
  simp only[obs]
  have h1:∀ X:Option (List UInt8),X=some (kindName k)->∀ K:List UInt8->Option (List UInt8),X.bind K=K (kindName k):=fun X h K=>by rw[h]; rfl
  rw[h1 _ ?_]
  ·have h2:∀ X:Option (List UInt8),X=some (kindName k++zKu t)->∀ K:List UInt8->Option (List UInt8),X.bind K=K (kindName k++zKu t):=fun X h K=>by rw[h]; rfl
   rw[h2 _ ?_]
   ·have hx:(zKu t).length<=3+2 * t.length :=(by unfold zKu; split <;> simp; omega);have h3:∀ X:Option (List UInt8),X=some ((kindName k++zKu t)++zLW c)->∀ K:List UInt8->Option (List UInt8),X.bind K=K ((kindName k++zKu t)++zLW c):=fun X h K=>by rw[h]; rfl
    rw[h3 _ ?_]
    ·have hy:(zLW c).length<=22:=by unfold zLW; split <;> simp; omega
     by_cases h0:ks=[]
     ·subst h0;simp[zNd,zDl,zQc,zQa]
     ·have hkl:ks.length ≠ 0 :=(by simpa using h0);rw[zIS (by omega:(ks.length:Int) ≠ 0),cond_false,zDh (by simp; omega)]
      have hlk:=Nd.ws_len ks;have hlo:=zIq (F:=zCy n) (ks:=ks) (fun v hv=>zKh n v (by have:=Nd.w_mem hv; omega) (by have:=Nd.w_mem hv; omega) (Nd.rng_mem hr.2.2 hv)) (by omega) n 0 (((kindName k++zKu t)++zLW c)++[40]) (by omega) (by omega) (by simp; omega)
      rw[show((0:Nat):Int)=0 from rfl,if_pos rfl]at hlo;rw[hlo,obs,zDh (by simp; omega)]
      have hne:zDl ks ≠ []:=by
       cases ks with
       | nil=>exact absurd rfl h0
       | cons v vs=>simp[zDl]
      simp[zNd,zQa,zPp hne]
    ·unfold zLW
     by_cases h0:c=0
     ·subst h0; simp
     ·rw[if_neg h0,show(c != 0)=true from bne_iff_ne.2 h0,cond_true,zDh (by simp; omega),zLq n c (by omega) hr.2.1]
      simp only[obs]
      rw[zDh (by simp; omega)]
      simp
   ·unfold zKu
    by_cases h0:t=[]
    ·subst h0; simp
    ·rw[if_neg h0,show(!(t == []))=true from by simp[h0],cond_true,zDh (by simp; omega),zMw n t (by omega) (by omega)]
     simp only[obs]
     rw[zDh (by simp; omega)]
     simp
  ·rw[zNn]
   rcases kinds k with rfl | rfl | rfl | rfl | rfl | rfl | rfl | rfl | rfl | rfl | rfl | rfl | hk'
   all_goals first | rfl | skip
   rw[show decide (1<=k/\k<=12)=false from decide_eq_false (by omega),cond_false,if_neg (by omega),if_neg (by omega),if_neg (by omega),if_neg (by omega),if_neg (by omega),if_neg (by omega),if_neg (by omega),if_neg (by omega),if_neg (by omega),if_neg (by omega),if_neg (by omega),if_neg (by omega)]
theorem zJU {k:Int}:∀ {a:List Nd}{v:Nd},zEY k a=true->v∈a->zEa v=true/\((v.kind == 1) == (k == 1))=false
 | u::a,v,h,hm=>by
  simp only[zEY,Bool.and_eq_true,Bool.not_eq_true']at h;rcases List.mem_cons.1 hm with rfl | hm
  ·exact⟨h.1.2,h.1.1⟩
  ·exact zJU h.2 hm
theorem zQ3 {u:Nd} (h:zEa u=true) (hk:u.kind=1):u = .mk 1 [] 0 u.kids/\zEY 1 u.kids=true:=by
 obtain⟨k,t,c,ks⟩:=u;simp only[Nd.kind]at hk;subst hk;simp only[zEa,Bool.and_eq_true]at h;obtain⟨⟨h1,h2⟩,h3⟩:=h;have h1':(t == [])=true:=h1;have h2':((c == 0)&&decide ((ks.length:Int)<=200))=true:=h2;simp only[Bool.and_eq_true]at h2';rw[eq_of_beq h1',eq_of_beq h2'.1]
 exact⟨rfl,h3⟩
theorem zNY {F:Nd->Nd->Option Bool}{a b:List Nd} (hF:∀ u∈a,∀ v∈b,∃ y,F u v=some y/\(y=true↔u=v)) (hl:a.length=b.length) (hb:a.length<=1073741824) :
  ∀ (q i:Nat),a.length - i<q->i<=a.length->∃ y,zA0 F a b q (i:Int)=some (if y then .go () else .ret false)/\(y=true↔a.drop i=b.drop i)
 | 0,_,h,_=>by omega
 | q+1,i,hq,hi=>by
  unfold zA0
  by_cases h:i<a.length
  ·have h':i<b.length :=(by omega);rw[zBv (Int.ofNat_lt.2 h),cond_true,zDF h,zDF h']
   obtain⟨y,f1,f2⟩:=hF _ (List.getElem_mem h) _ (List.getElem_mem h')
   have d1:=List.drop_eq_getElem_cons h;have d2:=List.drop_eq_getElem_cons h';rcases e:a[i] with ⟨x1,x2,x3,x4⟩
   rcases e':b[i] with ⟨y1,y2,y3,y4⟩
   rw[e,e']at f1 f2;rw[e]at d1;rw[e']at d2;simp only[obs,f1]
   cases y with
   | false =>
    refine⟨false,rfl,⟨(fun h=>by cases h),fun h=>?_⟩⟩
    rw[d1,d2]at h;exact f2.2 (List.cons.inj h).1
   | true =>
    simp only[Bool.not_true,cond_false]
    rw[zBy (by omega)]
    obtain⟨z,g1,g2⟩:=zNY hF hl hb q (i+1) (by omega) (by omega)
    refine⟨z,g1,?_⟩
    rw[d1,d2,g2,f2.1 rfl]
    simp
  ·rw[zBn (by omega),cond_false]
   obtain rfl:i=a.length :=(by omega);refine⟨true,rfl,?_⟩
   rw[List.drop_length,hl,List.drop_length]
   simp
theorem zOL:∀ N:Nat,(∀ x y:Nd,2 * x.cnt<N->x.cnt<=67108864->∃ r,zBr N x y=some r/\(r=true↔x=y)) /\
  (∀ a b:List Nd,2 * Nd.cnts a+1<N->Nd.cnts a<=67108864->∃ r,zBO N a b=some r/\(r=true↔a=b))
 | 0=>⟨fun _ _ h _=>by omega,fun _ _ h _=>by omega⟩
 | n+1=>by
  obtain⟨ih1,ih2⟩:=zOL n;refine⟨fun x y h hx=>?_,fun a b h ha=>?_⟩
  ·obtain⟨a,b,c,d⟩:=x;obtain⟨a',b',c',d'⟩:=y;simp only[Nd.cnt]at h hx;obtain⟨r,h1,h2⟩:=ih2 d d' (by omega) (by omega)
   unfold zBr;simp only[h1,obs]
   cases e1:a == a' with
   | false=>exact⟨false,rfl,⟨(fun h=>by cases h),fun h=>by cases h; simp at e1⟩⟩
   | true =>
    cases e2:b == b' with
    | false=>exact⟨false,rfl,⟨(fun h=>by cases h),fun h=>by cases h; simp at e2⟩⟩
    | true =>
     cases e3:c == c' with
     | false=>exact⟨false,rfl,⟨(fun h=>by cases h),fun h=>by cases h; simp at e3⟩⟩
     | true =>
      refine⟨r,rfl,h2.trans ⟨fun h=>?_,fun h=>by cases h; rfl⟩⟩
      rw[eq_of_beq e1,eq_of_beq e2,eq_of_beq e3,h]
  ·unfold zBO;have l1:=Nd.cnts_len a
   by_cases hl:a.length=b.length
   ·obtain⟨y,g1,g2⟩:=zNY (F:=zBr n) (a:=a) (b:=b) (fun u hu v _=>ih1 u v (by have:=Nd.cnts_mem hu; omega) (by have:=Nd.cnts_mem hu; omega)) hl (by omega) n 0 (by omega) (by omega)
    rw[show((0:Nat):Int)=0 from rfl]at g1;rw[hl,bne_self_eq_false,cond_false,g1]
    refine⟨y,by cases y <;> rfl,g2⟩
   ·have:((a.length:Int) != (b.length:Int))=true:=by
     unfold bne;rw[zIS (by omega)]; rfl
    rw[this]
    exact⟨false,rfl,⟨(fun h=>by cases h),fun h=>absurd (congrArg List.length h) hl⟩⟩
def rowS (t:Nd) (p:List Int):Nd×Int:=if zBb t=true then (match zBc t p with | some r=>(r,0) | none=>(zDg,8)) else (zDg,1)
theorem zNi:∀ (N:Nat) (p:List Int) (t r:Nd),p.length<N->zBc t p=some r->r.w<=t.w/\r.cnt<=t.cnt
 | 0,p,_,_,h,_=>by omega
 | N+1,[],t,r,_,h=>by
  rw[zBc]at h;cases h;exact⟨Nat.le_refl _,Nat.le_refl _⟩
 | N+1,[_],t,r,_,h=>by
  rw[zBc]at h;cases h
 | N+1,i::s::p,.mk k tx c ks,r,hN,h=>by
  rw[zBc]at h;split at h
  ·rename_i hi
   replace hi:0<=i/\i<ks.length:=hi;have hi0:i.toNat<ks.length :=(by omega);have hx:ks[i.toNat]? = some ks[i.toNat]:=List.getElem?_eq_getElem hi0;generalize ks[i.toNat]=x at hx;obtain⟨k2,tx2,c2,ks2⟩:=x;simp only[Nd.kids,List.getD_eq_getElem?_getD,hx,Option.getD_some]at h;split at h
   ·rename_i hs
    have hs0:s.toNat<ks2.length :=(by omega);have hz:ks2[s.toNat]? = some ks2[s.toNat]:=List.getElem?_eq_getElem hs0;generalize ks2[s.toNat]=z at hz;rw[hz,Option.getD_some]at h;obtain⟨q1,q2⟩:=zNi N p z r (by simp only[List.length_cons]at hN; omega) h;have m1:=Nd.w_mem (List.mem_of_getElem? hx)
    have m2:=Nd.w_mem (List.mem_of_getElem? hz)
    have n1:=Nd.cnts_mem (List.mem_of_getElem? hx)
    have n2:=Nd.cnts_mem (List.mem_of_getElem? hz)
    simp only[Nd.w,Nd.cnt]at m1 m2 n1 n2 ⊢
    omega
   ·cases h
  ·cases h
theorem zOj {t:Nd} (h:t.cnt<=1000000000):zAE t=some t:=zDh h
theorem zOo (n:Nat) (t:Nd) (p:List Int) (hv:zAv n t=some (zBb t)) (hc:t.cnt<=1000000000):zCs n t p=some (rowS t p):=by
 unfold zCs rowS;rw[hv]
 simp only[obs]
 split
 ·cases hf:zBc t p with
  | none=>rfl
  | some r =>
   have:=(zNi _ p t r (Nat.lt_succ_self _) hf).2;simp only[zOj (Nat.le_trans this hc),obs]
 ·rfl
inductive Fd:Nd->List Int->Nd->Prop
 | nil (t:Nd):Fd t [] t
 | step {k:Int} {tx:List UInt8} {c:Int} {ks:List Nd} {i:Nat} {k2:Int} {tx2:List UInt8} {c2:Int} {ks2:List Nd} {s:Nat} {z r:Nd} {p:List Int}
   (hi:ks[i]? = some (.mk k2 tx2 c2 ks2)) (hs:ks2[s]? = some z) (h:Fd z p r):Fd (.mk k tx c ks) ((i:Int)::(s:Int)::p) r
theorem Fd.of:∀ (N:Nat) (p:List Int) (t r:Nd),p.length<N->zBc t p=some r->Fd t p r
 | 0,p,_,_,h,_=>by omega
 | N+1,[],t,r,_,h=>by
  rw[zBc]at h;cases h;exact .nil t
 | N+1,[_],t,r,_,h=>by
  rw[zBc]at h;cases h
 | N+1,i::s::p,.mk k tx c ks,r,hN,h=>by
  rw[zBc]at h;split at h
  ·rename_i hi
   replace hi:0<=i/\i<ks.length:=hi;obtain⟨i,rfl⟩:=Int.eq_ofNat_of_zero_le hi.1;have hx:ks[i]? = some ks[i]:=List.getElem?_eq_getElem (by omega)
   generalize ks[i]=x at hx;obtain⟨k2,tx2,c2,ks2⟩:=x;simp only[Nd.kids,List.getD_eq_getElem?_getD,Int.toNat_natCast,hx,Option.getD_some]at h;split at h
   ·rename_i hs
    obtain⟨s,rfl⟩:=Int.eq_ofNat_of_zero_le hs.1;have hz:ks2[s]? = some ks2[s]:=List.getElem?_eq_getElem (by omega)
    generalize ks2[s]=z at hz;rw[Int.toNat_natCast,hz,Option.getD_some]at h;exact .step hx hz (Fd.of N p z r (by simp only[List.length_cons]at hN; omega) h)
   ·cases h
  ·cases h
theorem zSO {p:List Int}{t r:Nd} (h:zBc t p=some r):Fd t p r:=Fd.of _ p t r (Nat.lt_succ_self _) h
theorem zDS {t r:Nd}:putL t [] r=r:=by cases t; rw[putL]; intros; contradiction
theorem zCZ {k:Int}{tx:List UInt8}{c:Int}{ks:List Nd}{i:Nat}{k2:Int}{tx2:List UInt8}{c2:Int}{ks2:List Nd}{s:Nat}{z r:Nd}{p:List Int} (hi:ks[i]? = some (.mk k2 tx2 c2 ks2)) (hs:ks2[s]? = some z) :
  putL (.mk k tx c ks) ((i:Int)::(s:Int)::p) r = .mk k tx c (ks.set i (.mk k2 tx2 c2 (ks2.set s (putL z p r)))):=by
 rw[putL,Int.toNat_natCast,hi]
 dsimp only;rw[Int.toNat_natCast,hs]
theorem zMF:∀ {ks:List Nd}{i:Nat}{x y:Nd},ks[i]? = some x->Nd.ws (ks.set i y)+x.w=Nd.ws ks+y.w
 | [],i,x,y,h=>by simp at h
 | v::ks,0,x,y,h=>by
  obtain rfl:v=x :=(by simpa using h);simp only[List.set_cons_zero,Nd.ws]; omega
 | v::ks,i+1,x,y,h=>by
  have:=zMF (ks:=ks) (i:=i) (x:=x) (y:=y) (by simpa using h)
  simp only[List.set_cons_succ,Nd.ws]; omega
theorem zJO:∀ {ks:List Nd}{i:Nat}{x y:Nd},ks[i]? = some x->Nd.cnts (ks.set i y)+x.cnt=Nd.cnts ks+y.cnt
 | [],i,x,y,h=>by simp at h
 | v::ks,0,x,y,h=>by
  obtain rfl:v=x :=(by simpa using h);simp only[List.set_cons_zero,Nd.cnts]; omega
 | v::ks,i+1,x,y,h=>by
  have:=zJO (ks:=ks) (i:=i) (x:=x) (y:=y) (by simpa using h)
  simp only[List.set_cons_succ,Nd.cnts]; omega
theorem Fd.w {t z:Nd}{p:List Int} (h:Fd t p z) (r:Nd):(putL t p r).w+z.w=t.w+r.w:=by
 induction h with
 | nil t=>rw[zDS]; omega
 | @step k tx c ks i k2 tx2 c2 ks2 s z r' p hi hs _ ih =>
  rw[zCZ hi hs]
  have h1:=zMF (y:=.mk k2 tx2 c2 (ks2.set s (putL z p r))) hi;have h2:=zMF (y:=putL z p r) hs;simp only[Nd.w]at *
  omega
theorem Fd.cnt {t z:Nd}{p:List Int} (h:Fd t p z) (r:Nd):(putL t p r).cnt+z.cnt=t.cnt+r.cnt:=by
 induction h with
 | nil t=>rw[zDS]; omega
 | @step k tx c ks i k2 tx2 c2 ks2 s z r' p hi hs _ ih =>
  rw[zCZ hi hs]
  have h1:=zJO (y:=.mk k2 tx2 c2 (ks2.set s (putL z p r))) hi;have h2:=zJO (y:=putL z p r) hs;simp only[Nd.cnt]at *
  omega
theorem zLx {α:Type}{l:List α}{i:Nat}{x y:α} (h:l[i]? = some x):(l.set i y)[i]? = some y:=by
 rw[List.getElem?_set,if_pos rfl,if_pos (List.getElem?_eq_some_iff.1 h).1]
theorem zO5 {α:Type}{l:List α}{i:Nat}{x y:α} (h:l[i]? = some x):(l.set i y).set i x=l:=by
 refine List.ext_getElem? fun j=>?_
 rw[List.set_set,List.getElem?_set]
 split
 ·rename_i e
  subst e;rw[if_pos (List.getElem?_eq_some_iff.1 h).1,h]
 ·rfl
theorem Fd.put {t z:Nd}{p:List Int} (h:Fd t p z) (r:Nd):Fd (putL t p r) p r:=by
 induction h with
 | nil t=>rw[zDS]; exact .nil r
 | @step k tx c ks i k2 tx2 c2 ks2 s z r' p hi hs _ ih =>
  rw[zCZ hi hs]
  exact .step (zLx hi) (zLx hs) ih
theorem Fd.put_put {t z:Nd}{p:List Int} (h:Fd t p z) (r q:Nd):putL (putL t p r) p q=putL t p q:=by
 induction h with
 | nil t=>simp only[zDS]
 | @step k tx c ks i k2 tx2 c2 ks2 s z r' p hi hs _ ih =>
  rw[zCZ hi hs,zCZ hi hs,zCZ (zLx hi) (zLx hs),ih]
  simp only[List.set_set]
theorem Fd.put_self {t z:Nd}{p:List Int} (h:Fd t p z):putL t p z=t:=by
 induction h with
 | nil t=>rw[zDS]
 | @step k tx c ks i k2 tx2 c2 ks2 s z r' p hi hs _ ih =>
  rw[zCZ hi hs,ih]
  have e1:ks2.set s z=ks2:=by
   have:=zO5 (y:=z) hs
   rwa [List.set_set]at this
  have e2:ks.set i (.mk k2 tx2 c2 ks2)=ks:=by
   have:=zO5 (y:=.mk k2 tx2 c2 ks2) hi
   rwa [List.set_set]at this
  rw[e1,e2]
theorem Fd.back {t z:Nd}{p:List Int} (h:Fd t p z) (r:Nd):putL (putL t p r) p z=t:=by rw[h.put_put,h.put_self]
theorem zIP {n:Nd}{i s:Int}{p:List Int} (h:¬ (0<=i/\i<n.kids.length)):zBc n (i::s::p)=none:=by rw[zBc,if_neg h]
theorem zEX {n x:Nd}{i:Nat}{s:Int}{p:List Int} (hx:n.kids[i]? = some x) (h:¬ (0<=s/\s<x.kids.length)):zBc n ((i:Int)::s::p)=none:=by
 have hl:=(List.getElem?_eq_some_iff.1 hx).1;rw[zBc,if_pos ⟨by omega,by omega⟩]
 simp only[List.getD_eq_getElem?_getD,Int.toNat_natCast,hx,Option.getD_some]
 rw[if_neg h]
theorem zGs {n x z:Nd}{i s:Nat}{p:List Int} (hx:n.kids[i]? = some x) (hz:x.kids[s]? = some z):zBc n ((i:Int)::(s:Int)::p)=zBc z p:=by
 have hl:=(List.getElem?_eq_some_iff.1 hx).1;have hl2:=(List.getElem?_eq_some_iff.1 hz).1;rw[zBc,if_pos ⟨by omega,by omega⟩]
 simp only[List.getD_eq_getElem?_getD,Int.toNat_natCast,hx,hz,Option.getD_some]
 rw[if_pos ⟨by omega,by omega⟩]
def Apart (p q:List Int):Prop:=¬ p <+: q/\¬ q <+: p
theorem Apart.symm {p q:List Int} (h:Apart p q):Apart q p:=⟨h.2,h.1⟩
theorem Apart.tail {i s:Int}{p q:List Int} (h:Apart (i::s::p) (i::s::q)):Apart p q :=
 ⟨fun hp=>h.1 (List.cons_prefix_cons.2 ⟨rfl,List.cons_prefix_cons.2 ⟨rfl,hp⟩⟩),fun hp=>h.2 (List.cons_prefix_cons.2 ⟨rfl,List.cons_prefix_cons.2 ⟨rfl,hp⟩⟩)⟩
theorem Fd.other {t z:Nd}{p:List Int} (h:Fd t p z) (r:Nd):∀ q,Apart p q->zBc (putL t p r) q=zBc t q:=by
 induction h with
 | nil t=>exact fun q hq=>absurd (List.nil_prefix) hq.1
 | @step k tx c ks i k2 tx2 c2 ks2 s z r' p hi hs _ ih =>
  intro q hq;rw[zCZ hi hs]
  match q,hq with
  | [],hq=>exact absurd (List.nil_prefix) hq.2
  | [_],hq=>rw[zBc,zBc]
  | j::u::q,hq =>
   by_cases hj:0<=j/\j<(ks.length:Int)
   ·obtain⟨j,rfl⟩:=Int.eq_ofNat_of_zero_le hj.1
    by_cases hji:i=j
    ·subst hji;have hx1:(Nd.mk k tx c (ks.set i (.mk k2 tx2 c2 (ks2.set s (putL z p r))))).kids[i]? = some (.mk k2 tx2 c2 (ks2.set s (putL z p r))):=zLx hi;have hx2:(Nd.mk k tx c ks).kids[i]? = some (.mk k2 tx2 c2 ks2):=hi
     by_cases hu:0<=u/\u<(ks2.length:Int)
     ·obtain⟨u,rfl⟩:=Int.eq_ofNat_of_zero_le hu.1
      by_cases hus:s=u
      ·subst hus;rw[zGs hx1 (zLx hs),zGs hx2 hs]
       exact ih q hq.tail
      ·obtain⟨y,hy⟩:∃ y,ks2[u]? = some y:=⟨_,List.getElem?_eq_getElem (by omega)⟩
       have hy':(ks2.set s (putL z p r))[u]? = some y :=(by rw[List.getElem?_set,if_neg hus,hy]);rw[zGs hx1 hy',zGs hx2 hy]
     ·rw[zEX hx1 (fun h=>hu ⟨h.1,by simpa [Nd.kids] using h.2⟩),zEX hx2 hu]
    ·obtain⟨y,hy⟩:∃ y,ks[j]? = some y:=⟨_,List.getElem?_eq_getElem (by omega)⟩
     have hx1:(Nd.mk k tx c (ks.set i (.mk k2 tx2 c2 (ks2.set s (putL z p r))))).kids[j]? = some y:=by
      show(ks.set i _)[j]? = some y;rw[List.getElem?_set,if_neg hji,hy]
     have hx2:(Nd.mk k tx c ks).kids[j]? = some y:=hy
     by_cases hu:0<=u/\u<(y.kids.length:Int)
     ·obtain⟨u,rfl⟩:=Int.eq_ofNat_of_zero_le hu.1;obtain⟨v,hv⟩:∃ v,y.kids[u]? = some v:=⟨_,List.getElem?_eq_getElem (by omega)⟩
      rw[zGs hx1 hv,zGs hx2 hv]
     ·rw[zEX hx1 hu,zEX hx2 hu]
   ·rw[zIP (fun h=>hj ⟨h.1,by simpa [Nd.kids] using h.2⟩),zIP hj]
theorem zJQ:∀ {ks:List Nd}{v:Nd},v∈ks->v.dep<=Nd.deps ks
 | u::ks,v,h=>by
  simp only[Nd.deps]
  rcases List.mem_cons.1 h with rfl | h
  ·exact Nat.le_max_left _ _
  ·exact Nat.le_trans (zJQ h) (Nat.le_max_right _ _)
theorem zNj {k:Int}{tx:List UInt8}{c:Int}{ks:List Nd} (h:zEa (.mk k tx c ks)=true):zEY k ks=true:=by
 simp only[zEa,Bool.and_eq_true]at h;exact h.2
theorem Fd.form {t z:Nd}{p:List Int} (h:Fd t p z) (hf:zEa t=true) (hk:t.kind=1):zEa z=true/\z.kind=1:=by
 induction h with
 | nil t=>exact⟨hf,hk⟩
 | @step k tx c ks i k2 tx2 c2 ks2 s z r' p hi hs _ ih =>
  obtain⟨f1,f2⟩:=zJU (zNj hf) (List.mem_of_getElem? hi)
  obtain⟨g1,g2⟩:=zJU (zNj f1) (List.mem_of_getElem? hs)
  have hk:k=1:=hk;subst hk;have f3:(k2 == 1)=false :=(by simpa [Nd.kind] using f2);rw[f3]at g2;refine ih g1 ?_;cases e:z.kind == 1 with
  | true=>exact eq_of_beq e
  | false=>rw[e]at g2; cases g2
theorem Fd.small {t z:Nd}{p:List Int} (h:Fd t p z):z.cnt<=t.cnt/\z.dep<=t.dep/\z.w<=t.w:=by
 induction h with
 | nil t=>exact⟨Nat.le_refl _,Nat.le_refl _,Nat.le_refl _⟩
 | @step k tx c ks i k2 tx2 c2 ks2 s z r' p hi hs _ ih =>
  have m1:=Nd.w_mem (List.mem_of_getElem? hi)
  have m2:=Nd.w_mem (List.mem_of_getElem? hs)
  have n1:=Nd.cnts_mem (List.mem_of_getElem? hi)
  have n2:=Nd.cnts_mem (List.mem_of_getElem? hs)
  have d1:=zJQ (List.mem_of_getElem? hi)
  have d2:=zJQ (List.mem_of_getElem? hs)
  simp only[Nd.w,Nd.cnt,Nd.dep]at *
  omega
theorem Fd.valid {t z:Nd}{p:List Int} (h:Fd t p z) (hv:zBb t=true):zBb z=true:=by
 unfold zBb at hv ⊢;simp only[Bool.and_eq_true,decide_eq_true_eq]at hv ⊢;obtain⟨h1,h2,h3,h4⟩:=hv;obtain⟨f1,f2⟩:=h.form h2 (eq_of_beq h1)
 obtain⟨s1,s2,_⟩:=h.small;exact⟨by rw[f2]; rfl,f1,by omega,by omega⟩
def zRA (t:Nd) (p:List Int) (r:Nd):Nd×Int:=if zBb t=true then (match zBc t p with
 | some _=>if zBb r=true then (if zBb (putL t p r)=true then (putL t p r,0) else (zDg,6)) else (zDg,4)
 | none=>(zDg,8)) else (zDg,1)
theorem zNw (n:Nat) (t:Nd) (p:List Int) (r:Nd) (hv:zAv n t=some (zBb t)) (hr:zAv n r=some (zBb r)) (hp:∀ z,Fd t p z->zAv n (putL t p r)=some (zBb (putL t p r))) (hc:t.cnt<=1000000000) (hcr:r.cnt<=1000000000) :
  zBW n t p r=some (zRA t p r):=by
 unfold zBW zRA;rw[hv,zOj hc,hr,zOj hcr]
 simp only[obs]
 split
 ·cases hf:zBc t p with
  | none=>rfl
  | some z =>
   dsimp only;rw[hp z (zSO hf)]
   simp only[obs]
   split
   ·split <;> rfl
   ·rfl
 ·rfl
theorem zSc {t r:Nd}{p:List Int} (hv:zBb t=true) (h:zBc t p=some r):rowS t p=(r,0):=by unfold rowS; rw[if_pos hv,h]
theorem zRB {t z r:Nd}{p:List Int} (hv:zBb t=true) (h:zBc t p=some z) (hr:zBb r=true) (hp:zBb (putL t p r)=true):zRA t p r=(putL t p r,0):=by unfold zRA; rw[if_pos hv,h]; dsimp only; rw[if_pos hr,if_pos hp]
abbrev Op8:=Int×List Int×Int×Int×List Nd×Int×List UInt8×List UInt8
def Op8.nodes (o:Op8):List Nd:=o.2.2.2.2.1
theorem take3 {α:Type} (l:List α){p q:Nat} (h:p<=q):(l.take p++(l.take q).drop p)++l.drop q=l:=by
 have:l.take p=(l.take q).take p :=(by rw[List.take_take,Nat.min_eq_left h]);rw[this,List.take_append_drop,List.take_append_drop]
theorem zQP (l by':List Nd){p q:Nat} (h:p<=q):Nd.ws ((l.take p++by')++l.drop q)+Nd.ws ((l.take q).drop p)=Nd.ws l+Nd.ws by':=by
 have:=congrArg Nd.ws (take3 l h)
 rw[Nd.ws_append,Nd.ws_append]at this ⊢
 omega
theorem zKv (t:Nd):t.w=t.text.length+Nd.ws t.kids+1:=by cases t; rfl
theorem zQM (l:List Nd){p:Nat} (h:p<l.length):(l.take (p+1)).drop p=[l[p]]:=by
 rw[List.take_succ_eq_append_getElem h,List.drop_append_of_le_length (by simp; omega),List.drop_take]
 simp
def splS (l:List Nd) (p q:Nat) (b:List Nd):List Nd:=(l.take p++b)++l.drop q
def segS (l:List Nd) (p q:Nat):List Nd:=(l.take q).drop p
def rowN (l:List Nd):Nd:=.mk 1 [] 0 l
def zPm (v:Nd) (s:Nat) (l:List Nd):Nd:=.mk v.kind v.text v.cols (v.kids.set s (rowN l))
def zSC (k:Int):Bool:=(k == 2)||((k == 3)||((k == 4)||((k == 10)||(k == 11))))
def zSR (k m:Int) (nodes:List Nd):Int:=if k=1 then 0 else if k=2 then nodes.length else if k=3 then m else 1
def zSq (nodes:List Nd) (slot:Int):Prop:=∃ (v:Nd) (s:Nat) (z:Nd),nodes=[v]/\slot=(s:Int)/\zBb (rowN [v])=true/\v.kids[s]? = some z/\z.kids=[]
def zPL:Op8->Prop
 | (k,_,_,m,nodes,slot,old,text) =>
  ((k=1∨k=2)/\nodes ≠ []/\zBb (rowN nodes)=true/\m=0/\slot=0/\old=[]/\text=[]) ∨
  ((k=3∨k=4)/\0<=m/\zSq nodes slot/\old=[]/\text=[]) ∨
  (k=5/\old ≠ text/\nodes=[]/\m=0/\slot=0)
inductive Chg (l:List Nd):Op8->List Nd->Int->Prop
 | range {k:Int} {row:List Int} {a m:Int} {nodes:List Nd} {slot:Int} {old text:List UInt8} (h:a<0∨(l.length:Int)<a∨(l.length:Int) - a<zSR k m nodes):Chg l (k,row,a,m,nodes,slot,old,text) [] 2
 | ins {row:List Int} {p:Nat} {m:Int} {nodes:List Nd} {slot:Int} {old text:List UInt8} (h:p<=l.length):Chg l (1,row,(p:Int),m,nodes,slot,old,text) (splS l p p nodes) 0
 | del {row:List Int} {p:Nat} {m:Int} {nodes:List Nd} {slot:Int} {old text:List UInt8} (h:p+nodes.length<=l.length) (he:segS l p (p+nodes.length)=nodes):Chg l (2,row,(p:Int),m,nodes,slot,old,text) (splS l p (p+nodes.length) []) 0
 | del_no {row:List Int} {p:Nat} {m:Int} {nodes:List Nd} {slot:Int} {old text:List UInt8} (h:p+nodes.length<=l.length) (he:segS l p (p+nodes.length) ≠ nodes):Chg l (2,row,(p:Int),m,nodes,slot,old,text) [] 7
 | wrap {row:List Int} {p m:Nat} {v:Nd} {s:Nat} {old text:List UInt8} (h:p+m<=l.length):Chg l (3,row,(p:Int),(m:Int),[v],(s:Int),old,text) (splS l p (p+m) [zPm v s (segS l p (p+m))]) 0
 | unwrap {row:List Int} {p:Nat} {m:Int} {v it z:Nd} {s:Nat} {old text:List UInt8} (h:l[p]? = some it) (hz:it.kids[s]? = some z) (hm:(z.kids.length:Int)=m) (he:it=zPm v s z.kids):Chg l (4,row,(p:Int),m,[v],(s:Int),old,text) (splS l p (p+1) z.kids) 0
 | unwrap_no {row:List Int} {p:Nat} {m:Int} {v it:Nd} {s:Nat} {old text:List UInt8} (h:l[p]? = some it) (hz:∀ z,it.kids[s]? = some z->(z.kids.length:Int)=m->it ≠ zPm v s z.kids):Chg l (4,row,(p:Int),m,[v],(s:Int),old,text) [] 7
 | set {row:List Int} {p:Nat} {m:Int} {nodes:List Nd} {it:Nd} {slot:Int} {old text:List UInt8} (h:l[p]? = some it) (hl:zSC it.kind=true) (he:it.text=old):Chg l (5,row,(p:Int),m,nodes,slot,old,text) (splS l p (p+1) [.mk it.kind text it.cols it.kids]) 0
 | set_no {row:List Int} {p:Nat} {m:Int} {nodes:List Nd} {it:Nd} {slot:Int} {old text:List UInt8} (h:l[p]? = some it) (hl:¬ (zSC it.kind=true/\it.text=old)):Chg l (5,row,(p:Int),m,nodes,slot,old,text) [] 7
inductive App (t:Nd):Op8->Nd->Int->Prop
 | arg {o:Op8} (h:zBb t=false):App t o zDg 1
 | form {o:Op8} (h:zBb t=true) (hf:¬ zPL o):App t o zDg 4
 | none {o:Op8} (h:zBb t=true) (hf:zPL o) (hn:zBc t o.2.1=Option.none):App t o zDg 8
 | chg {o:Op8} {r:Nd} {l:List Nd} {e:Int} (h:zBb t=true) (hf:zPL o) (hr:Fd t o.2.1 r) (hc:Chg r.kids o l e) (he:e ≠ 0):App t o zDg e
 | limit {o:Op8} {r:Nd} {l:List Nd} (h:zBb t=true) (hf:zPL o) (hr:Fd t o.2.1 r) (hc:Chg r.kids o l 0) (hv:zBb (putL t o.2.1 (rowN l))=false):App t o zDg 6
 | ok {o:Op8} {r:Nd} {l:List Nd} (h:zBb t=true) (hf:zPL o) (hr:Fd t o.2.1 r) (hc:Chg r.kids o l 0) (hv:zBb (putL t o.2.1 (rowN l))=true):App t o (putL t o.2.1 (rowN l)) 0
theorem Chg.w {l l':List Nd}{k:Int}{row:List Int}{a m:Int}{nodes:List Nd}{slot:Int}{old text:List UInt8}{e:Int} (h:Chg l (k,row,a,m,nodes,slot,old,text) l' e):Nd.ws l'<=Nd.ws l+Nd.ws nodes+text.length+3/\l'.length<=l.length+Nd.ws nodes+Nd.ws l+1:=by
 have key:∀ p q b,p<=q->Nd.ws (splS l p q b)+Nd.ws (segS l p q)=Nd.ws l+Nd.ws b:=fun p q b h=>zQP l b h
 have hlen:∀ l':List Nd,l'.length<=Nd.ws l':=Nd.ws_len
 have h1:Nd.ws l'<=Nd.ws l+Nd.ws nodes+text.length+3:=by
  cases h with
  | range=>simp only[Nd.ws]; omega
  | @ins _ p _ _ _ _ _ h=>have:=key p p nodes (Nat.le_refl _); omega
  | @del _ p _ _ _ _ _ h he=>have:=key p (p+nodes.length) [] (Nat.le_add_right _ _); simp only[Nd.ws]at this; omega
  | del_no=>simp only[Nd.ws]; omega
  | @wrap _ p m v s _ _ h =>
   have:=key p (p+m) [zPm v s (segS l p (p+m))] (Nat.le_add_right _ _)
   have hf:(zPm v s (segS l p (p+m))).w<=v.w+Nd.ws (segS l p (p+m))+1:=by
    rw[zKv v]
    simp only[zPm,rowN,Nd.w]
    by_cases hs:s<v.kids.length
    ·have:=zMF (ks:=v.kids) (i:=s) (y:=.mk 1 [] 0 (segS l p (p+m))) (List.getElem?_eq_getElem hs)
     simp only[Nd.w,List.length_nil]at this
     omega
    ·rw[List.set_eq_of_length_le (by omega)]; omega
   simp only[Nd.ws]at this ⊢
   omega
  | @unwrap _ p _ v it z s _ _ h hz hm he =>
   have:=key p (p+1) z.kids (Nat.le_add_right _ _)
   have hsg:segS l p (p+1)=[it]:=by
    have:=zQM l (List.getElem?_eq_some_iff.1 h).1;rw[segS,this,(List.getElem?_eq_some_iff.1 h).2]
   have w1:=Nd.w_mem (List.mem_of_getElem? hz)
   have w2:=zKv z;have w3:=zKv it;rw[hsg]at this;simp only[Nd.ws]at this
   omega
  | unwrap_no=>simp only[Nd.ws]; omega
  | @set _ p _ _ it _ _ _ h hl he =>
   have:=key p (p+1) [.mk it.kind text it.cols it.kids] (Nat.le_add_right _ _)
   have hsg:segS l p (p+1)=[it]:=by
    have:=zQM l (List.getElem?_eq_some_iff.1 h).1;rw[segS,this,(List.getElem?_eq_some_iff.1 h).2]
   have w3:=zKv it;rw[hsg]at this;simp only[Nd.ws,Nd.w]at this
   omega
  | set_no=>simp only[Nd.ws]; omega
 refine⟨h1,?_⟩
 cases h with
 | range=>simp
 | @ins _ p _ _ _ _ _ h=>have:=hlen nodes; simp only[splS,List.length_append,List.length_take,List.length_drop]; omega
 | @del _ p _ _ _ _ _ h he=>simp only[splS,List.length_append,List.length_take,List.length_drop,List.length_nil]; omega
 | del_no=>simp
 | @wrap _ p m v s _ _ h=>simp only[splS,List.length_append,List.length_take,List.length_drop,List.length_cons,List.length_nil]; omega
 | @unwrap _ p _ v it z s _ _ h hz hm he =>
  have w1:=Nd.w_mem (List.mem_of_getElem? hz)
  have w4:=Nd.w_mem (List.mem_of_getElem? h)
  have w2:=zKv z;have w3:=zKv it;have:=hlen z.kids;simp only[splS,List.length_append,List.length_take,List.length_drop]; omega
 | unwrap_no=>simp
 | @set _ p _ _ it _ _ _ h hl he=>simp only[splS,List.length_append,List.length_take,List.length_drop,List.length_cons,List.length_nil]; omega
 | set_no=>simp
theorem App.w {t t':Nd}{o:Op8}{e:Int} (h:App t o t' e):t'.w<=t.w+Nd.ws o.nodes+o.2.2.2.2.2.2.2.length+4:=by
 have hz:zDg.w=1:=rfl;obtain⟨k,row,a,m,nodes,slot,old,text⟩:=o;simp only[Op8.nodes]
 cases h with
 | arg=>omega
 | form=>omega
 | none=>omega
 | chg=>omega
 | limit=>omega
 | @ok r l h hf hr hc hv =>
  have h1:=hr.w (rowN l)
  have h2:=hc.w;have h3:=zKv r;have h4:(rowN l).w=Nd.ws l+1 :=(by simp[rowN,Nd.w]);dsimp only at h1 ⊢
  omega
def Op8.row (o:Op8):List Int:=o.2.1
def Op8.text (o:Op8):List UInt8:=o.2.2.2.2.2.2.2
theorem zPl (n:Nat) (t:Nd) (h:2 * t.cnt<n) (hc:t.cnt<=67108864):zBr n t t=some true:=by
 obtain⟨r,h1,h2⟩:=(zOL n).1 t t h hc;obtain rfl:=h2.2 rfl;exact h1
def zE9:Nd:=.mk 3 [49] 0 []
def opN:Int×List Int×Int×Int×List Nd×Int×List UInt8×List UInt8:=(1,[],0,0,[.mk 3 [49] 0 []],0,[],[])
theorem zPn (k:Nat):zBD (k+60) opN=some true:=by
 with_unfolding_all rfl
theorem zQ5 (m:Int) (h:m<=200):zEA 1 0 m=true:=by
 have h2:zEA 1 0 m=(((0:Int) == 0)&&decide (m<=200)):=rfl;rw[h2,decide_eq_true h]; rfl
theorem zQf:zEa zE9=true:=by
 with_unfolding_all rfl
structure CopF (f:Nat) (ks:List Nd):Prop where
 len:ks.length<=200
 valid:zAv f (.mk 1 [] 0 ks)=some true
 deep:zAE (.mk 1 [] 0 ks)=some (.mk 1 [] 0 ks)
 same:zBr f (.mk 1 [] 0 ks) (.mk 1 [] 0 ks)=some true
 more:ks.length<200->zBD f opN=some true/\zCs f (.mk 1 [] 0 ks) []=some (.mk 1 [] 0 ks,0) /\
  zBW f (.mk 1 [] 0 ks) [] (.mk 1 [] 0 (zE9::ks))=some (.mk 1 [] 0 (zE9::ks),0)/\zBN (.mk 1 [] 0 (zE9::ks))=some (.mk 1 [] 0 (zE9::ks)) /\
  ∃ s,zCy f (.mk 1 [] 0 (zE9::ks))=some s
def CopA (f:Nat) (a:Nd):Prop :=
 ∃ b,zGb f a 100=some b/\(b=true->∃ b',zED f a=some b'/\(b'=true->a.kids ≠ []->∃ ks,a = .mk 1 [] 0 ks/\CopF f ks))
theorem zSa {k c:Int}{t:List UInt8}{ks:List Nd} (h:(Nd.mk k t c ks).rng):(Nd.mk 1 [] 0 (zE9::ks)).rng:=by
 simp only[Nd.rng,Nd.rngs,zE9]at h ⊢;refine⟨by unfold zIg; omega,by unfold zIg; omega,⟨by unfold zIg; omega,by unfold zIg; omega,trivial⟩,h.2.2⟩
theorem zSm (a:Nd) (ha:a.w<=1048576) (ra:a.rng):zEB 200000100=some true/\CopA 200000100 a:=by
 generalize hf:(200000100:Nat)=f;refine⟨by rw[← hf]; exact zPe 200000040,?_⟩
 obtain⟨b,hb,hc⟩:=zSn f a 100 (by omega) (by decide)
 refine⟨b,hb,fun e=>?_⟩
 have hcnt:=hc e;refine⟨zBb a,zNS f a (by omega) (by omega),fun hv hk=>?_⟩
 have hv0:=hv;simp only[zBb,Bool.and_eq_true,beq_iff_eq,decide_eq_true_eq]at hv0;obtain⟨k1,k2,k3,k4⟩:=hv0;obtain⟨hr,hfs⟩:=zQ3 k2 k1;obtain⟨k,t,c,ks⟩:=a;simp only[Nd.kids]at hr hk hfs;obtain⟨rfl,rfl,rfl,_⟩:=Nd.mk.inj hr;simp only[Nd.cnt]at hcnt k3;simp only[Nd.dep]at k4;have hw:(Nd.mk 1 [] 0 (zE9::ks)).w<=(Nd.mk 1 [] 0 ks).w+4:=by
  simp only[Nd.w,Nd.ws,zE9,List.length_nil,List.length_cons]; omega
 have hlen:ks.length<=200 :=(by have:=Nd.cnts_len ks; omega);refine⟨ks,rfl,⟨hlen,?_,zDh (by simp only[Nd.cnt]; omega),zPl f _ (by simp only[Nd.cnt]; omega) (by simp only[Nd.cnt]; omega),fun hl=>?_⟩⟩
 ·rw[zFC f _ (by omega) (by omega),hv]
 have hcy:(Nd.mk 1 [] 0 (zE9::ks)).cnt<=1000:=by
  simp only[Nd.cnt,Nd.cnts,zE9]; omega
 have hdy:(Nd.mk 1 [] 0 (zE9::ks)).dep<=24:=by
  simp only[Nd.dep,Nd.deps,zE9]
  have:Nat.max (0+1) (Nd.deps ks)<=23:=Nat.max_le.2 ⟨by omega,by omega⟩
  omega
 have hvy:zBb (.mk 1 [] 0 (zE9::ks))=true:=by
  have k2':=k2;simp only[zEa,Bool.and_eq_true]at k2';have h0:zEA 1 0 (((zE9::ks).length:Nat):Int)=true:=zQ5 _ (by simp only[List.length_cons]; omega)
  have h1:zEa (.mk 1 [] 0 (zE9::ks))=true:=by
   have h3:((zE9.kind == 1) == ((1:Int) == 1))=false :=(by simp[zE9,Nd.kind]);rw[zEa,zEY,zQf,hfs,h0,k2'.1.1,h3]
   rfl
  simp only[zBb,h1,Bool.and_eq_true,decide_eq_true_eq]
  exact⟨rfl,trivial,hcy,hdy⟩
 have hva:zAv f (.mk 1 [] 0 ks)=some (zBb (.mk 1 [] 0 ks)):=zFC f _ (by omega) (by omega)
 have hva2:zAv f (.mk 1 [] 0 (zE9::ks))=some (zBb (.mk 1 [] 0 (zE9::ks))):=zFC f _ (by omega) (by omega)
 have hfn:zBc (.mk 1 [] 0 ks) []=some (.mk 1 [] 0 ks) :=(by rw[zBc]);refine⟨by rw[← hf]; exact zPn 200000040,?_,?_,zDh ⟨by omega,by simp[Nd.kids]⟩,_,zKh f _ (by omega) (by omega) (zSa ra)⟩
 ·rw[zOo f _ _ hva (by simp only[Nd.cnt]; omega),zSc hv hfn]
 ·rw[zNw f _ _ _ hva hva2 (fun z _=>by rw[zDS]; exact hva2) (by simp only[Nd.cnt]; omega) (by omega),zRB hv hfn hvy (by rw[zDS]; exact hvy),zDS]
end Go.Proofs.Ytffhjiplcfncdaa
