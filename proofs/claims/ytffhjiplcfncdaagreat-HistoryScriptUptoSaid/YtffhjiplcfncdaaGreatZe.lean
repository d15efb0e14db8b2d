/-
  Joined out of: LibV, LibK, RwA, HzHA, HzHB.
-/
import Derived.Test.YtffhjiplcfncdaaGreatZd
set_option linter.unusedVariables false
set_option linter.unusedSimpArgs false
set_option maxHeartbeats 2000000
set_option maxRecDepth 100000
namespace Go.Proofs.YtffhjiplcfncdaaGreat
open Go.Abs
def zJH (xs:List AV) (r:Ret):Prop:=∃ rows,xs=[.s (.sl 8 rows)]/\r = .val (.clo 92 [.s (.pt [.sl 8 rows])])
set_option maxHeartbeats 600000 in
theorem zNn:PSound Tryz.prog 60 (zAs zJH):=by
 have gok:∀ f s,look? f []=some s->PSound Tryz.prog f s:=zAo (by simp)
 refine zAr tokW Tryz.call60 Tryz.func60 rfl (fun xs r h=>by obtain⟨_,rfl,_⟩:=h; show 1<=4; decide) 4 rfl ?_;rintro xs r w0 G0 ⟨rows,rfl,rfl⟩ _;refine zYV ?_;refine zYV ?_;refine zAe ?_;unfold zBC;exact⟨_,Le.refl _ _,rfl,rfl⟩
theorem zPa (a:Act) (t:Nat):a.eval (.tmp t)=a.tmps.getD t undef:=rfl
theorem zYR {α:Type}:∀ {l:List α},l.length=8->∃ a b c d e f g h,l=[a,b,c,d,e,f,g,h]
 | [a,b,c,d,e,f,g,h],_=>⟨a,b,c,d,e,f,g,h,rfl⟩
theorem zXN:zOJ Tryz.prog 92 8:=by
 intro G w0 v rows hlt hgl hv hrl hlen l J W hsz hk hJ hY h0;have hrep:∀ w:World,(∀ b,G b->w.heap[b]? = w0.heap[b]?)->Rep G w (.pt [.sl 8 rows]) v:=fun w hw=>hv.keep ⟨fun _ h=>h,hw⟩
 have hlt':∀ w:World,w0.heap.size<=w.heap.size->∀ b,G b->b<w.heap.size:=fun w hw b hb=>Nat.lt_of_lt_of_le (hlt b hb) hw
 have hgl':∀ w:World,(∀ b,G b->w.heap[b]? = w0.heap[b]?)->GlobOk G w:=fun w hw=>hgl.keep ⟨fun _ h=>h,hw⟩
 have step:∀ {N:Nat} {G':Nat->Prop} {β:Nat->Value} {σ:St} {a:Act} {wa wb:World} (i:Nat),Conc (zFp Tryz.prog wa G N) G' β σ a wb->wb.heap.size=wa.heap.size->J i wa->w0.heap.size<=wa.heap.size->(∀ b,G b->wa.heap[b]? = w0.heap[b]?) ->
   J i wb/\w0.heap.size<=wb.heap.size/\(∀ b,G b->wb.heap[b]? = w0.heap[b]?):=fun {N G' β σ a wa wb} i hc hs hj h1 h2=>by
  obtain⟨g1,g2⟩:=hc.back hs;exact⟨hJ i wa wb hj ⟨hc.fr.os,hc.fr.tape,hc.fr.output,hc.fr.size,g2⟩,by rw[hs]; exact h1,fun b hb=>(g2 b (hlt' wa h1 b hb)).trans (h2 b hb)⟩
 let St:Nat->Act->World->Prop:=fun i a w=>a.defers=[]/\a.tmps.size=19/\a.tmps.getD 0 undef = .func (.yield l) #[] #[]/\a.tmps.getD 1 undef=v/\a.tmps.getD 3 undef = .int .i64 ((rows.length:Int) - 1 - i)/\J i w/\w0.heap.size<=w.heap.size/\(∀ b,G b->w.heap[b]? = w0.heap[b]?)
 refine callsIn_of_wp Tryz.func92 rfl trivial ?_;generalize ha:({ tmps:=#[Value.func (.yield l) #[] #[],v]++Array.replicate _ undef,defers:=[] }:Act)=a;have a0:a.tmps.getD 0 undef = .func (.yield l) #[] #[] :=(by rw[← ha]; rfl);have a1:a.tmps.getD 1 undef=v :=(by rw[← ha]; rfl);have az:a.tmps.size=19 :=(by rw[← ha]; rfl);have ad:a.defers=[]:=by rw[← ha]
 clear ha
 refine wpIn_seq ?_;refine wpIn_region_lit ?_;refine zO9 tokW (N:=19) (K:=fun σ=>σ.env 3 = .s (.int .i64 (IntKind.i64.wrap ((rows.length:Int) - 1)))) [0,1] ?_ (zUe (G:=G) [(1,.s (.pt [.sl 8 rows]))] ad az (hlt' W hsz) (hgl' W hk) rfl (fun p hp=>by
  obtain rfl:=List.mem_singleton.1 hp;dsimp only;rw[a1]
  simp only[AVal]
  exact hrep W hk)) rfl ?_
 ·show _=_
  rfl
 intro σ1 G1 β1 b w1 hK hc hs hfr;have b0:=(hfr 0 (by simp)).trans a0;have b1:=(hfr 1 (by simp)).trans a1;have b3:=hc.env 3;rw[hK]at b3;simp only[AVal,Rep]at b3;rw[wrap64_in (n:=(rows.length:Int) - 1) (by omega) (by omega)]at b3;have hst:=step 0 hc hs h0 hsz hk;have hS:St 0 b w1:=⟨hc.defers,hc.size,b0,b1,by rw[b3]; congr 1; omega,hst⟩
 clear hst b0 b1 b3 hK hfr hc hs a0 a1 az ad
 refine wpIn_block ?_;refine wpIn_loop (fun a w=>∃ i,i<=rows.length/\St i a w) (fun a _=>match a.tmps.getD 3 undef with | .int _ z=>(z+1).toNat | _=>0) ⟨0,Nat.zero_le _,hS⟩ ?_;rintro a w ⟨i,hi,ad,az,a0,a1,a3,hj,hw1,hw2⟩
 refine wpIn_seq ?_;refine wpIn_seq ?_;refine wpIn_region_lit ?_;refine zO9 tokW (N:=19) (K:=fun σ=>σ.env 8 = .s (.bool (decide (0<=(rows.length:Int) - 1 - i)))) [0,1,3] ?_ (zUe (G:=G) [(3,.s (.int .i64 ((rows.length:Int) - 1 - i)))] ad az (hlt' w hw1) (hgl' w hw2) rfl (fun p hp=>by
  obtain rfl:=List.mem_singleton.1 hp;dsimp only;rw[a3]
  simp[AVal,Rep])) rfl ?_
 ·show _=_
  rfl
 intro σ1 G1 β1 b w1 hK hc hs hfr;have b0:=(hfr 0 (by simp)).trans a0;have b1:=(hfr 1 (by simp)).trans a1;have b3:=(hfr 3 (by simp)).trans a3;have b8:=hc.env 8;rw[hK]at b8;simp only[AVal,Rep]at b8;obtain⟨hj1,hw3,hw4⟩:=step i hc hs hj hw1 hw2;have bd:b.defers=[]:=hc.defers;have bs:b.tmps.size=19:=hc.size
 clear hc hK hfr hs a0 a1 ad az hj hw1 hw2
 refine wpIn_cond_split (t:=decide (0<=(rows.length:Int) - 1 - i)) b8 (fun hb=>?_) (fun hb=>?_)
 ·have hb:=of_decide_eq_true hb;refine wpIn_skip ?_;obtain⟨j,hij⟩:∃ j,i+j+1=rows.length:=⟨rows.length - 1 - i,by omega⟩
  have hz:(rows.length:Int) - 1 - i=(j:Int) :=(by omega);rw[hz]at b3;have hjl:j<rows.length :=(by omega);have hrow:rows[j]? = some rows[j]:=List.getElem?_eq_getElem hjl;have hr8:=hrl _ (List.getElem_mem hjl)
  have hgd:rows.getD ((j:Int).toNat) []=rows[j] :=(by rw[Int.toNat_natCast,List.getD_eq_getElem?_getD,hrow]; rfl);generalize rows[j]=row at hrow hr8 hgd;refine wpIn_seq ?_;refine wpIn_block ?_;refine wpIn_seq ?_;refine wpIn_region_lit ?_;refine zLt rfl ?_;refine zWR (ro:=none) (K:=fun a' w'=>a'=b.put (some 11) (.func (.yield l) #[] #[])/\w'=w1) (by intro c e; cases e) ?_ (zA5 (v:=.func (.yield l) #[] #[]) (w':=w1) (by simp[execOp,zPa,b0]) ⟨rfl,rfl⟩)
  rintro a' w' ⟨ha',hw'⟩
  rw[ha',hw']
  clear ha' hw' a' w'
  have c0:(b.put (some 11) (.func (.yield l) #[] #[])).tmps.getD 0 undef = .func (.yield l) #[] #[]:=(zMM (by decide)).trans b0;have c1:(b.put (some 11) (.func (.yield l) #[] #[])).tmps.getD 1 undef=v:=(zMM (by decide)).trans b1;have c3:(b.put (some 11) (.func (.yield l) #[] #[])).tmps.getD 3 undef = .int .i64 (j:Int):=(zMM (by decide)).trans b3;have c11:(b.put (some 11) (.func (.yield l) #[] #[])).tmps.getD 11 undef = .func (.yield l) #[] #[]:=by
   simp only[Act.put]
   rw[zLI (by rw[bs]; decide),if_pos rfl]
  have cd:(b.put (some 11) (.func (.yield l) #[] #[])).defers=[]:=(put_defers ..).trans bd;have cs:(b.put (some 11) (.func (.yield l) #[] #[])).tmps.size=19:=(zPJ ..).trans bs;generalize b.put (some 11) (.func (.yield l) #[] #[])=c at c0 c1 c3 c11 cd cs
  clear b0 b1 b3 b8 bd bs
  refine zTg tokW (N:=19) 4 (K:=fun σ=>σ.env 12 = .s (.int .i64 (j:Int))/\σ.env 15 = .s (.pt (rows.getD ((j:Int).toNat) []))) [0,1,3,11] ?_ (zUe (G:=G) [(1,.s (.pt [.sl 8 rows])),(3,.s (.int .i64 (j:Int)))] cd cs (hlt' w1 hw3) (hgl' w1 hw4) rfl (fun p hp=>by
   rcases List.mem_cons.1 hp with rfl | hp
   ·dsimp only;rw[c1]
    simp only[AVal]
    exact hrep w1 hw4
   ·obtain rfl:=List.mem_singleton.1 hp;dsimp only;rw[c3]
    simp[AVal,Rep])) rfl ?_
  ·exact⟨⟨by omega,by omega⟩,rfl,rfl⟩
  intro σ2 G2 β2 d w2 hK hc hs hfr;have d0:=(hfr 0 (by simp)).trans c0;have d1:=(hfr 1 (by simp)).trans c1;have d3:=(hfr 3 (by simp)).trans c3;have d11:=(hfr 11 (by simp)).trans c11;have d12:=hc.env 12;have d15:=hc.env 15;obtain⟨hgb,_⟩:=hc.back hs;rw[hK.1]at d12;rw[hK.2,hgd]at d15;simp only[AVal,Rep]at d12;have d15:=d15.keep (⟨hgb,fun _ _=>rfl⟩:Keep G2 G w2 w2)
  simp only[AVal]at d15;obtain⟨hj2,hw5,hw6⟩:=step i hc hs hj1 hw3 hw4;have dd:d.defers=[]:=hc.defers;have ds:d.tmps.size=19:=hc.size
  clear hc hK hfr hs c0 c1 c3 c11 cd cs hj1 hw3 hw4 hgb
  obtain⟨r1,r2,r3,r4,r5,r6,r7,r8,rfl⟩:=zYR hr8;refine zTg tokW (N:=19) 1 (K:=fun σ=>σ.env 16 = .agg ([r1,r2,r3,r4,r5,r6,r7,r8].map .s)) [0,1,3,11,12] ?_ (zUe (G:=G) [(15,.s (.pt [r1,r2,r3,r4,r5,r6,r7,r8]))] dd ds (hlt' w2 hw5) (hgl' w2 hw6) rfl (fun p hp=>by
   obtain rfl:=List.mem_singleton.1 hp;dsimp only;simp only[AVal]
   exact d15)) rfl ?_
  ·show _=_
   rfl
  intro σ3 G3 β3 e w3 hK hc hs hfr;have e0:=(hfr 0 (by simp)).trans d0;have e1:=(hfr 1 (by simp)).trans d1;have e3:=(hfr 3 (by simp)).trans d3;have e11:=(hfr 11 (by simp)).trans d11;have e12:=(hfr 12 (by simp)).trans d12;have e16:=hc.env 16;obtain⟨hgb,_⟩:=hc.back hs;rw[hK]at e16;have e16:=e16.keep (⟨hgb,fun _ _=>rfl⟩:Keep G3 G w3 w3)
  obtain⟨hj3,hw7,hw8⟩:=step i hc hs hj2 hw5 hw6;have ed:e.defers=[]:=hc.defers;have es:e.tmps.size=19:=hc.size
  clear hc hK hfr hs d0 d1 d3 d11 d12 d15 dd ds hj2 hw5 hw6 hgb
  refine zLt rfl ?_;have hYY:=hY i j _ (e.tmps.getD 16 undef) w3 hij hrow hj3 hw7 hw8 (fun β=>e16.beta (n:=0) (fun k hk=>by cases hk) (zSj _))
  refine zXr (u:=.bool true) (f:=.tmp 11) (x:=.tmp 12) (y:=.tmp 16) (l:=l) rfl e11 (by rw[zPa,zPa,e12]; exact hYY) ?_;rintro ee w4 ⟨rfl,hj4,hw9,hw10⟩
  refine⟨rfl,?_⟩
  have f0:(e.put (some 17) (.bool true)).tmps.getD 0 undef = .func (.yield l) #[] #[]:=(zMM (by decide)).trans e0;have f1:(e.put (some 17) (.bool true)).tmps.getD 1 undef=v:=(zMM (by decide)).trans e1;have f3:(e.put (some 17) (.bool true)).tmps.getD 3 undef = .int .i64 (j:Int):=(zMM (by decide)).trans e3;have f17:(e.put (some 17) (.bool true)).tmps.getD 17 undef = .bool true:=by
   simp only[Act.put]
   rw[zLI (by rw[es]; decide),if_pos rfl]
  have fd:(e.put (some 17) (.bool true)).defers=[]:=(put_defers ..).trans ed;have fs:(e.put (some 17) (.bool true)).tmps.size=19:=(zPJ ..).trans es;show wpListIn _ _ _ _ _ _ (e.put (some 17) (.bool true)) _;generalize e.put (some 17) (.bool true)=f at f0 f1 f3 f17 fd fs
  clear e0 e1 e3 e11 e12 e16 ed es hj3 hw7 hw8 hYY
  refine zO9 tokW (N:=19) (K:=fun σ=>σ.env 18 = .s (.bool false)) [0,1,3] ?_ (zUe (G:=G) [(17,.s (.bool true))] fd fs (hlt' w4 hw9) (hgl' w4 hw10) rfl (fun p hp=>by
   obtain rfl:=List.mem_singleton.1 hp;dsimp only;rw[f17]
   simp[AVal,Rep])) rfl ?_
  ·show _=_
   rfl
  intro σ5 G5 β5 g w5 hK hc hs hfr;have g0:=(hfr 0 (by simp)).trans f0;have g1:=(hfr 1 (by simp)).trans f1;have g3:=(hfr 3 (by simp)).trans f3;have g18:=hc.env 18;rw[hK]at g18;simp only[AVal,Rep]at g18;obtain⟨hj5,hw11,hw12⟩:=step (i+1) hc hs hj4 hw9 hw10;have gd:g.defers=[]:=hc.defers;have gs:g.tmps.size=19:=hc.size
  clear hc hK hfr hs f0 f1 f3 f17 fd fs hj4 hw9 hw10
  refine wpIn_cond_false g18 ?_;refine wpIn_skip ?_;refine wpIn_region_lit ?_;refine zO9 tokW (N:=19) (K:=fun σ=>σ.env 3 = .s (.int .i64 (IntKind.i64.wrap ((j:Int) - 1)))) [0,1] ?_ (zUe (G:=G) [(3,.s (.int .i64 (j:Int)))] gd gs (hlt' w5 hw11) (hgl' w5 hw12) rfl (fun p hp=>by
   obtain rfl:=List.mem_singleton.1 hp;dsimp only;rw[g3]
   simp[AVal,Rep])) rfl ?_
  ·show _=_
   rfl
  intro σ6 G6 β6 h w6 hK hc hs hfr;have h0':=(hfr 0 (by simp)).trans g0;have h1':=(hfr 1 (by simp)).trans g1;have h3':=hc.env 3;rw[hK]at h3';simp only[AVal,Rep]at h3';rw[wrap64_in (n:=(j:Int) - 1) (by omega) (by omega)]at h3';have hst:=step (i+1) hc hs hj5 hw11 hw12;refine⟨⟨i+1,by omega,hc.defers,hc.size,h0',h1',by rw[h3']; congr 1; omega,hst⟩,?_⟩
  rw[h3',a3]
  show((j:Int) - 1+1).toNat<((rows.length:Int) - 1 - i+1).toNat
  omega
 ·have hb:=of_decide_eq_false hb;refine wpIn_exit ?_;obtain rfl:i=rows.length :=(by omega);simp only[Exit.then,Exit.inBlock,if_true]
  exact⟨bd,_,results_none rfl _ _ _,⟨_,rfl⟩,hj1⟩
theorem zYg {c:Cx}{σ σ':Go.Abs.St}{x:Code}{Φ:Exit->Act->World->Prop} (hle:Le c σ σ') (h:TriX c x σ' Φ):TriX c x σ Φ:=fun G β a w hc=>by
 unfold Le at hle;obtain⟨G',β',h'⟩:=hle G β a w hc;exact h G' β' a w h'
theorem zIX {n:Nat}{ops:List zO8}:∀ {N:Nat}{y0:List zO8},zBd n ops N=some y0->∀ i,i<N ->
  ∃ acc o y,zBd n ops i=some acc/\ops[ops.length - 1 - i]? = some o/\zB0 n o=some y/\acc.length+1<=4294967296/\zBd n ops (i+1)=some (acc++[y])
 | 0,_,_,i,hi=>by omega
 | N+1,y0,h,i,hi=>by
  have h':=h;unfold zBd at h;obtain⟨acc,h1,h⟩:=zAc h;obtain⟨o,h2,h⟩:=zAc h;obtain⟨y,h3,h⟩:=zAc h;obtain⟨h4,h5⟩:=zAw h
  by_cases e:i=N
  ·subst e;exact⟨acc,o,y,h1,h2,h3,h4,h'.trans h5.symm⟩
  ·exact zIX h1 i (by omega)
def zLw (n:Nat) (xs:List AV) (r:Ret):Prop:=∃ (a0:List zO8) (y0:List zO8),zCm n a0=some y0/\xs=[.s (.sl 8 ((List.map zAk) a0))]/\r = .val (.s (.sl 8 ((List.map zAk) y0)))
def zHA:zAq:=zAs fun xs r=>∃ n,zLw n xs r
theorem zKB:PSound Tryz.prog 34 zHA:=by
 have gok:∀ f s,look? f [(60,zAs zJH),(61,zJO)]=some s->PSound Tryz.prog f s:=zAo (by
  simp only[List.forall_mem_cons]
  exact⟨zNn,zNp,by simp⟩)
 refine zX3 Tryz.call34 Tryz.func34 rfl (fun xs r h=>by obtain⟨n,_,_,_,rfl,_⟩:=h; show 1<=16; decide) 16 rfl ?_;rintro xs r w0 G0 ⟨n,ops,y0,h,rfl,rfl⟩ _;rw[zCm]at h;obtain⟨hl,h⟩:=zAw h;obtain⟨acc,hacc⟩:∃ acc:Nat->List zO8,acc=fun i=>(zBd n ops i).getD []:=⟨_,rfl⟩
 have hfin:acc ops.length=y0 :=(by rw[hacc]; dsimp only; rw[h]; rfl);have h0:acc 0=[] :=(by rw[hacc]; rfl);have hst:∀ i,i<ops.length->∃ o y,ops[ops.length - 1 - i]? = some o/\zB0 n o=some y/\(acc i).length+1<=4294967296/\acc (i+1)=acc i++[y]:=fun i hi=>by
  obtain⟨a,o,y,h1,h2,h3,h4,h5⟩:=zIX h i hi;rw[hacc]
  exact⟨o,y,h2,h3,by dsimp only; rw[h1]; exact h4,by dsimp only; rw[h1,h5]; rfl⟩
 clear hacc
 refine zPV rfl ?_;refine zYU ?_;refine⟨rfl,?_⟩
 refine zPV rfl ?_;refine zAb [3] [] rfl ?_;refine⟨rfl,?_⟩
 refine zXm ?_;refine zPV rfl ?_;refine zYU ?_;refine⟨_,⟨_,rfl,rfl⟩,?_⟩
 refine⟨rfl,?_⟩
 refine zYg (Le.trans (Le.takeNil 0 0 65 rfl rfl (by decide)) (Le.rnm [(0,0),(1,1)] [(3,.op 0 0),(7,.clo 92 [.s (.pt [.sl 8 ((List.map zAk) ops)])])] [(0,.box 26 [.orow 1]),(1,.row 65 8 [])] 2 ⟨rfl,rfl,trivial⟩ ⟨rfl,⟨_,rfl,rfl⟩,rfl,⟨_,rfl,rfl⟩,trivial⟩)) ?_;refine zUI ?_;refine zUJ rfl rfl (sz:=8) (rows:=(List.map zAk) ops) zXN Tryz.call92 rfl (fun r hr=>by obtain⟨o,_,rfl⟩:=List.mem_map.1 hr; rfl) (by rw[List.length_map]; omega)
  (fun i=>(ofH [(0,.box 26 [.orow 1]),(1,.row 65 8 ((List.map zAk) (acc i)))],2)) (by dsimp only; rw[h0]; rfl) 1 (zLK rfl) (Nat.zero_le _) (fun _=>by show 1<=2; decide) (by show 8<16; decide) (by show 9<16; decide) ?_ ?_
 ·intro i j row hij hrow l w X G B _;rw[List.length_map]at hij;obtain⟨o,y,h1,h2,h3,h4⟩:=hst i (by omega)
  rw[show ops.length - 1 - i=j by omega]at h1;rw[List.getElem?_map,h1]at hrow;obtain rfl:=Option.some.inj hrow;obtain⟨op_kind,op_row,op_at,op_n,op_nodes,op_slot,op_old,op_text⟩:=o;refine zAb [5] [] rfl ?_;refine⟨rfl,fun w X G B _=>?_⟩
  refine zAl ?_;refine zKn (by exact tokW) (by exact gok) (by exact mixed) [] [] [0,1,4,5] rfl (by decide +kernel) ?_;refine⟨_,⟨n,_,_,h2,rfl,rfl⟩,?_⟩
  obtain⟨z_kind,z_row,z_at,z_n,z_nodes,z_slot,z_old,z_text⟩:=y;refine And.intro (by simp only[List.length_map,List.length_cons,List.length_nil]; omega) ?_;refine⟨rfl,_,Le.rename [(0,0),(3,1)] [] [(0,.box 26 [.orow 1]),(1,.row 65 8 ((List.map zAk) (acc (i+1))))] 2 trivial ⟨rfl,⟨_,rfl,rfl⟩,rfl,⟨_,rfl,by rw[h4,List.map_append]; rfl⟩,trivial⟩ rfl rfl rfl rfl rfl,rfl,rfl⟩
 ·intro D w2 X G2 G' β' a2 hsw hc;rw[List.length_map,hfin]at hc;show(Code.seq _ _).wpIn _ _ _ _ a2 w2;refine zVu (c:=zFp Tryz.prog w0 G0 16) tokW hsw (fun _ h=>h) rfl rfl ?_ G' β' a2 w2 hc;refine zYV ?_;refine zAe ?_;unfold zBC;exact⟨_,Le.giveRow 1 (e:=65) (sz:=8) (rows:=(List.map zAk) y0) rfl,rfl,rfl⟩
end Go.Proofs.YtffhjiplcfncdaaGreat
namespace Go.Abs
variable {c:Cx} {σ:St}
theorem Le.ofA (k:Nat){e sz:Nat}{rows:List (List AV)} (rs:List (List S)) (hk:σ.hp k=some (.arow e sz rows)) (hs:zHi rows=some rs):Le c σ (zFq σ k (.row e sz rs)):=by
 unfold Le;intro G β a w hc;obtain⟨s1,s2,s3⟩:=zOx hs;have hget:∀ {j o},(zFq σ k (.row e sz rs)).hp j=some o->(j=k/\o = .row e sz rs)∨(j ≠ k/\σ.hp j=some o):=fun {j o} h=>by
  simp only[zFq]at h;cases hq:Nat.beq j k with
  | true=>rw[hq,cond_true]at h; cases h; exact .inl ⟨Nat.eq_of_beq_eq_true hq,rfl⟩
  | false=>rw[hq,cond_false]at h; exact .inr ⟨Nat.ne_of_beq_eq_false hq,h⟩
 have hget':∀ {j o},(zFq σ k (.row e sz rs)).hp j=some o->∃ o',σ.hp j=some o':=fun {j o} h=>by
  rcases hget h with ⟨rfl,_⟩ | ⟨_,h⟩
  ·exact⟨_,hk⟩
  ·exact⟨_,h⟩
 refine⟨G,β,{ hc with hp:=fun j o hj=>?_,hplt:=fun j o hj=>?_,inj:=fun j j' o o' hj hj'=>(let ⟨_,h1⟩:=hget' hj; let ⟨_,h2⟩:=hget' hj'; hc.inj j j' _ _ h1 h2) }⟩
 ·rcases hget hj with ⟨rfl,rfl⟩ | ⟨_,h⟩
  ·obtain⟨hlen,hsz,ho⟩:=hc.hp j _ hk;refine⟨fun r hr=>s3 sz hlen r hr,hsz,ho.imp (fun h=>⟨h.1,by have:=h.2; subst this; exact List.length_eq_zero_iff.1 (by simpa using s2.symm)⟩) ?_⟩
   rintro⟨b,cap,cur,h1,h2,h3,h4,h5,h6,h7⟩
   refine⟨b,cap,cur,by rw[← s2]; exact h1,by rw[← s2]; exact h2,h3,h4,h5,h6,fun i s hi=>?_⟩
   have hm:(rows.flatten.map AV.sc)[i]? = some (some s) :=(by rw[s1,List.getElem?_map,hi]; rfl);rw[List.getElem?_map]at hm;obtain⟨x,hx,hxs⟩:=Option.map_eq_some_iff.1 hm;obtain⟨u,hu,hr,_⟩:=h7 i x hx;exact⟨u,hu,AV.sc_rep hxs hr⟩
  ·exact hc.hp j o h
 ·rcases hget hj with ⟨rfl,rfl⟩ | ⟨_,h⟩
  ·exact⟨(hc.hplt j _ hk).1,rfl⟩
  ·exact hc.hplt j o h
theorem Le.dropNil (k off:Nat){bt:Nat}{cells:List AV}{sz:Nat} (hk:σ.hp k=some (.box bt cells)) (ho:cells[off]? = some (.nl sz)):Le c σ (zFq σ k (.box bt (cells.set off (.s (.sl sz []))))):=by
 unfold Le;intro G β a w hc;obtain⟨b,e0,cur,h1,h2,h3,h4,h5,h6⟩:=hc.hp k _ hk;have hcl:AV.ltAll σ.nx cells=true:=(hc.hplt k _ hk).2;have hset:AVals G w β (cells.set off (.s (.sl sz []))) cur.toList:=by
  refine AVals.mk (by rw[List.length_set]; exact h5.length) fun i x v hx hv=>?_
  rw[List.getElem?_set]at hx;split at hx
  ·rename_i hio
   subst hio;split at hx
   ·cases hx;obtain⟨u,hu,hn⟩:=h5.get ho;rw[hu]at hv; cases hv
    simp only[AVal]at hn ⊢;simp only[Rep]
    exact .inl ⟨trivial,none,0,hn⟩
   ·cases hx
  ·obtain⟨u,hu,hn⟩:=h5.get hx;rw[hu]at hv; cases hv; exact hn
 have hlt2:AV.ltAll σ.nx (cells.set off (.s (.sl sz [])))=true:=zDE fun q y hq=>by
  rw[List.getElem?_set]at hq;split at hq
  ·split at hq
   ·cases hq; rfl
   ·cases hq
  ·exact zBl hcl hq
 exact⟨G,β,hc.write (j:=k) (ob:=.box bt cells) (ob':=.box bt (cells.set off (.s (.sl sz [])))) (w':=w) hk (b:=b) (by rw[h1]; rfl) h3 h4 rfl rfl rfl rfl (fun _ _=>rfl) (fun _=>⟨b,e0,cur,h1,h2,h3,h4,hset,h6⟩) hlt2⟩
theorem zWa:∀ r:List S,zKL (r.map AV.s)=some r
 | []=>rfl
 | x::r=>by simp[zKL,AV.sc,zWa r]
theorem zTF:∀ rows:List (List S),zHi (rows.map (·.map AV.s))=some rows
 | []=>rfl
 | r::rows=>by simp[zHi,zWa r,zTF rows]
theorem zKl:∀ {a b:List (List AV)}{x y:List (List S)},zHi a=some x->zHi b=some y->zHi (a++b)=some (x++y)
 | [],b,x,y,h,h'=>by
  simp only[zHi,Option.some.injEq]at h;subst h;exact h'
 | r::a,b,x,y,h,h'=>by
  simp only[zHi]at h;split at h
  ·rename_i z zs h1 h2
   cases h;simp[zHi,h1,zKl h2 h']
  ·cases h
theorem zTk {k:Nat}{r:AV}{p:Nat->AV}:∀ l:List S,AV.frzAll k r p (l.map AV.s)=l.map AV.s
 | []=>rfl
 | x::l=>by simp[AV.frzAll,AV.frz,zTk l]
theorem zUh {k:Nat}{r:AV}{p:Nat->AV} (rows:List (List S)):(rows.map (·.map AV.s)).map (AV.frzAll k r p)=rows.map (·.map AV.s):=by
 rw[List.map_map]
 exact List.map_congr_left fun l _=>zTk l
end Go.Abs
namespace Go.Proofs.YtffhjiplcfncdaaGreat
open Go.Abs
def zAd (p:zRc):List S:=[.sl 8 ((List.map zAk) p.1),.sl 1 ((List.map (irow .i64)) p.2.1.1),.sl 1 ((List.map (irow .i64)) p.2.1.2),.sl 1 ((List.map (irow .i64)) p.2.2.1),.sl 1 ((List.map (irow .i64)) p.2.2.2)]
def zBD:(Nd×Nd×List zRc×Int)->List S
| ⟨⟨p_origin_kind,p_origin_text,p_origin_cols,p_origin_kids⟩,⟨p_tree_kind,p_tree_text,p_tree_cols,p_tree_kids⟩,p_records,p_done⟩=>[.int .i64 p_origin_kind,.str p_origin_text,.int .i64 p_origin_cols,.sl 4 (Nd.encs p_origin_kids),.int .i64 p_tree_kind,.str p_tree_text,.int .i64 p_tree_cols,.sl 4 (Nd.encs p_tree_kids),.sl 5 ((List.map zAd) p_records),.int .i64 p_done]
def zOO (n:Nat) (xs:List AV) (os:List Ob) (x:AV) (os':List (Option Ob)):Prop:=∃ (a0:Nd) (y0:Option (Nd×Nd×List zRc×Int)) (y1:Int),zDG n a0=some (y0,y1)/\xs=[.agg ((Nd.enc a0).map .s)]/\os=[]/\x = .tup [(match y0 with | none=>.s .np | some _=>.op 0 0),.s (.int .i64 y1)]/\os'=(match y0 with | none=>[] | some ⟨⟨o_origin_kind,o_origin_text,o_origin_cols,o_origin_kids⟩,⟨o_tree_kind,o_tree_text,o_tree_cols,o_tree_kids⟩,o_records,o_done⟩=>[some (.box 71 [.s (.int .i64 o_origin_kind),.s (.str o_origin_text),.s (.int .i64 o_origin_cols),.s (.sl 4 (Nd.encs o_origin_kids)),.s (.int .i64 o_tree_kind),.s (.str o_tree_text),.s (.int .i64 o_tree_cols),.s (.sl 4 (Nd.encs o_tree_kids)),.orow 1,.s (.int .i64 o_done)]),some (.row 31 5 ((List.map zAd) o_records))])
def zHl:zAq:=zD5 (fun xs os x os'=>∃ n,zOO n xs os x os')
theorem zI8:PSound Tryz.prog 20 zHl:=by
 have gok:∀ f s,look? f [(38,zDj),(29,zDi)]=some s->PSound Tryz.prog f s:=zAo (by
  simp only[List.forall_mem_cons]
  exact⟨zDR,zDy,by simp⟩)
 refine PSound.withNil (zGB tokW Tryz.call20 Tryz.func20 rfl (fun xs os x os' h=>by obtain⟨n,_,_,_,_,rfl,rfl,_,rfl⟩:=h; exact⟨by show 1<=13; decide,Nat.zero_le _⟩) 13 rfl ?_) _;rintro xs os x os' w0 G0 B0 ⟨n,⟨n1A,n1C,n1D,n1B⟩,y0,y1,h,rfl,rfl,rfl,rfl⟩ _;rw[zDG]at h;refine zYV ?_;refine zAa ?_;refine zYV ?_;obtain⟨y2,hy2,h⟩:=zAc h;refine⟨_,⟨_,_,_,hy2,rfl,rfl⟩,?_⟩
 refine zAg rfl h (fun hb h=>?_) (fun hb h=>?_)
 ·refine zYV ?_;refine zAe ?_;obtain⟨hj1,hk1⟩:=pij h;subst hj1 hk1;unfold zBN;exact⟨_,(Le.rnm [] [(2,.s (.np)),(3,.s (.int .i64 1))] [] 0 ⟨rfl,rfl,trivial⟩ trivial),rfl,rfl,trivial⟩
 ·refine zAf ?_;refine zAa ?_;refine zCi [12] [] [5] [] rfl (by decide +kernel) ?_;obtain⟨⟨y3A,y3C,y3D,y3B⟩,hy3,h⟩:=zAc h;refine⟨_,⟨_,_,hy3,rfl,rfl⟩,?_⟩
  obtain⟨⟨y4A,y4C,y4D,y4B⟩,hy4,h⟩:=zAc h;refine⟨_,⟨_,_,hy4,rfl,rfl⟩,?_⟩
  refine zAh (Le.trans (Le.rnm [(0,0)] [(2,.op 0 0),(3,.s (.int .i64 0))] [(0,.box 71 [.s (.int .i64 y3A),.s (.str y3C),.s (.int .i64 y3D),.s (.sl 4 (Nd.encs y3B)),.s (.int .i64 y4A),.s (.str y4C),.s (.int .i64 y4D),.s (.sl 4 (Nd.encs y4B)),.nl 5,.s (.int .i64 0)])] 1 ⟨rfl,rfl,trivial⟩ ⟨rfl,⟨_,rfl,rfl⟩,trivial⟩) (Le.takeNil 0 8 31 rfl rfl (by decide))) ?_;refine zAe ?_;obtain⟨hj1,hk1⟩:=pij h;subst hj1 hk1;unfold zBN
  exact⟨_,(Le.rnm [(0,0),(1,1)] [(2,.op 0 0),(3,.s (.int .i64 0))] [(0,.box 71 [.s (.int .i64 y3A),.s (.str y3C),.s (.int .i64 y3D),.s (.sl 4 (Nd.encs y3B)),.s (.int .i64 y4A),.s (.str y4C),.s (.int .i64 y4D),.s (.sl 4 (Nd.encs y4B)),.orow 1,.s (.int .i64 0)]),(1,.row 31 5 ((List.map zAd) []))] 2 ⟨rfl,rfl,trivial⟩ ⟨rfl,⟨_,rfl,rfl⟩,rfl,⟨_,rfl,rfl⟩,trivial⟩),rfl,rfl,rfl,rfl,rfl,rfl,trivial⟩
def zTK (n:Nat) (xs:List AV) (r:Ret):Prop:=∃ (a0:List zO8) (y0:List zO8),zIB n a0=some y0/\xs=[.s (.sl 8 ((List.map zAk) a0))]/\r = .row 65 8 ((List.map zAk) y0)
def zNG:zAq:=zAs fun xs r=>∃ n,zTK n xs r
theorem zX7 {α:Type}{a b:α} (h:a=b:=by simp[List.map_append,List.map_take,List.map_drop,irow,brow,zEw,List.map_cons,List.map_nil,zD1,Nd.encs_eq,Nd.enc,zA4,zAK,zBy,zAI,zAG,zAk,zAd,zBD]):a=b :=
 h
theorem zSo:PSound Tryz.prog 59 zNG:=by
 have gok:∀ f s,look? f [(91,zLW)]=some s->PSound Tryz.prog f s:=zAo (by
  simp only[List.forall_mem_cons]
  exact⟨zOj,by simp⟩)
 refine zAr tokW Tryz.call59 Tryz.func59 rfl (fun xs r h=>by obtain⟨n,_,_,_,rfl,_⟩:=h; show 1<=19; decide) 19 rfl ?_;rintro xs r w0 G0 ⟨n,l1,y0,h,rfl,rfl⟩ _;rw[zIB]at h;refine zYf [2] [] rfl ?_;refine zAh (Le.rnm [] [(0,.s (.sl 8 ((List.map zAk) l1)))] [] 0 ⟨rfl,trivial⟩ trivial) ?_;refine zYf [3] [] rfl ?_;show Tri ..
 refine zAh (Le.rnm [(0,0)] [(0,.s (.sl 8 ((List.map zAk) l1))),(3,.orow 0)] [(0,.row 65 8 ((List.map zAk) []))] 1 ⟨rfl,rfl,trivial⟩ ⟨rfl,⟨_,rfl,congrArg (Ob.row 65 8) zX7⟩,trivial⟩) ?_;refine zAa ?_;refine zYf [] [7] rfl ?_;intro n2 hn2;obtain rfl:(l1.length:Int)=n2:=(hn2.trans (congrArg (fun m:Nat=>(m:Int)) (rlen (fun _=>rfl) l1))).symm;show Tri ..
 obtain⟨l6,hl,h⟩:=zAc h;refine zAm ⟨ofL [(3,.orow 0)],ofH [(0,.row 65 8 ((List.map zAk) l6))],1⟩ ?_ (fun σ' hle=>?_)
 ·refine zAl (zAy (X:=Nat×Int×(List zO8)) (fun y=>match y with | (k,x4,l5)=>⟨ofL [(3,.orow 0),(6,.s (.sl 8 ((List.map zAk) l1))),(7,.s (.int .i64 (l1.length:Int))),(8,.s (.int .i64 x4))],ofH [(0,.row 65 8 ((List.map zAk) l5))],1⟩) (fun y=>zCR n l1 y.1 y.2.1 y.2.2=some l6) (fun y=>y.1) (n,0,[]) hl ?_ ?_)
  ·exact(Le.rnm [(0,0)] _ _ _ ⟨rfl,rfl,rfl,rfl,trivial⟩ ⟨rfl,⟨_,rfl,rfl⟩,trivial⟩)
  ·rintro⟨k,x4,l5⟩ h;cases k with
   | zero=>cases h
   | succ k =>
    replace h:zCR n l1 (k+1) x4 l5=some l6:=h;rw[zCR]at h;refine zYV ?_;refine zAa ?_;refine zAg rfl h (fun hb h=>?_) (fun hb h=>?_)
    ·refine zAf ?_;refine zAa ?_;refine zAl ?_;refine zYf [5] [10] rfl ?_;obtain⟨⟨e7A,e7G,e7L,e7S,e7R,e7V,e7Ac,e7C⟩,he7,h⟩:=zAc h;refine And.intro (zAp (fun _=>rfl) he7).1 ?_;intro r8 hr8;obtain rfl:[.int .i64 e7A,.sl 1 ((List.map (irow .i64)) e7G),.int .i64 e7L,.int .i64 e7S,.sl 4 (Nd.encs e7R),.int .i64 e7V,.str e7Ac,.str e7C]=r8:=(hr8.trans (zAp (fun _=>rfl) he7).2.1).symm;show Tri ..
     refine zAh (Le.giveBox 1 [.int .i64 e7A,.sl 1 ((List.map (irow .i64)) e7G),.int .i64 e7L,.int .i64 e7S,.sl 4 (Nd.encs e7R),.int .i64 e7V,.str e7Ac,.str e7C] rfl rfl) ?_;refine zAb [16] [15] rfl ?_;obtain⟨⟨y9A,y9G,y9L,y9S,y9R,y9V,y9Ac,y9C⟩,hy9,h⟩:=zAc h;refine⟨_,⟨_,_,_,hy9,rfl,rfl⟩,?_⟩
     intro r10 hr10;obtain rfl:(List.map zAk) [(y9A,y9G,y9L,y9S,y9R,y9V,y9Ac,y9C)]=r10:=(hr10.trans zX7).symm;obtain⟨hq,h⟩:=zAw h
     refine And.intro (show(((List.map zAk) l5).length+((List.map zAk) [(y9A,y9G,y9L,y9S,y9R,y9V,y9Ac,y9C)]).length) * 112<=140737488355328/\((List.map zAk) l5).length+((List.map zAk) [(y9A,y9G,y9L,y9S,y9R,y9V,y9Ac,y9C)]).length<=9223372036854775807 from by simp only[List.length_append,List.length_cons,List.length_nil,List.length_map,rlen (fun _=>rfl)]at hq ⊢; omega) ?_;show Tri ..
     refine zAh (Le.rnm [(2,0)] [(3,.orow 0),(6,.s (.sl 8 ((List.map zAk) l1))),(7,.s (.int .i64 (l1.length:Int))),(8,.s (.int .i64 x4))] [(0,.row 65 8 ((List.map zAk) (l5++[(y9A,y9G,y9L,y9S,y9R,y9V,y9Ac,y9C)])))] 1 ⟨rfl,rfl,rfl,rfl,trivial⟩ ⟨rfl,⟨_,rfl,congrArg (Ob.row 65 8) zX7⟩,trivial⟩) ?_;refine zYU ?_
     refine⟨(k,IntKind.i64.wrap (x4+1),l5++[(y9A,y9G,y9L,y9S,y9R,y9V,y9Ac,y9C)]),h,(Le.rnm [(0,0)] _ _ _ ⟨rfl,rfl,rfl,rfl,trivial⟩ ⟨rfl,⟨_,rfl,rfl⟩,trivial⟩),Nat.lt_succ_self k⟩
    ·refine zAC ?_;cases h;exact(Le.rnm [(0,0)] _ _ _ ⟨rfl,trivial⟩ ⟨rfl,⟨_,rfl,rfl⟩,trivial⟩)
 ·refine zAh hle ?_;refine zYV ?_;refine zAe ?_;have hy:=osi h;subst hy;unfold zBC;exact⟨_,Le.refl _ _,0,rfl,rfl⟩
def zAz (p:zCu):List S:=[.sl 1 ((List.map (irow .i64)) p.1),.sl 1 ((List.map (irow .i64)) p.2)]
def zOK (xs:List AV) (r:Ret):Prop:=∃ (a0:zCu) (y0:zCu),zBH a0=some y0/\xs=[.agg ((zAz a0).map .s)]/\r = .val (.agg ((zAz y0).map .s))
def zFA:zAq:=zAs fun xs r=>zOK xs r
theorem zGO:PSound Tryz.prog 35 zFA:=by
 have gok:∀ f s,look? f [(62,zJk)]=some s->PSound Tryz.prog f s:=zAo (by
  simp only[List.forall_mem_cons]
  exact⟨zLf,by simp⟩)
 refine zAr tokW Tryz.call35 Tryz.func35 rfl (fun xs r h=>by obtain⟨_,_,_,rfl,_⟩:=h; show 1<=10; decide) 10 rfl ?_;rintro xs r w0 G0 ⟨⟨c1Q,c1Ab⟩,y0,h,rfl,rfl⟩ _;rw[zBH]at h;refine zYf [2] [] rfl ?_;refine zAa ?_;refine zAA [] [] [7] rfl (by decide +kernel) ?_;obtain⟨y2,hy2,h⟩:=zAc h;refine⟨_,⟨_,_,hy2,rfl,rfl⟩,?_⟩
 obtain⟨y3,hy3,h⟩:=zAc h;refine⟨_,⟨_,_,hy3,rfl,rfl⟩,?_⟩
 refine zAe ?_;have hy:=osi h;subst hy;exact fin0 rfl rfl
def zOL (n:Nat) (xs:List AV) (r:Ret):Prop:=∃ (a0:zRc) (y0:zRc),zCS n a0=some y0/\xs=[.agg ((zAd a0).map .s)]/\r = .val (.agg ((zAd y0).map .s))
def zHk:zAq:=zAs fun xs r=>∃ n,zOL n xs r
theorem zI7:PSound Tryz.prog 32 zHk:=by
 have gok:∀ f s,look? f [(59,zNG),(35,zFA)]=some s->PSound Tryz.prog f s:=zAo (by
  simp only[List.forall_mem_cons]
  exact⟨zSo,zGO,by simp⟩)
 refine zAr tokW Tryz.call32 Tryz.func32 rfl (fun xs r h=>by obtain⟨n,_,_,_,rfl,_⟩:=h; show 1<=13; decide) 13 rfl ?_;rintro xs r w0 G0 ⟨n,⟨r1W,⟨r1X,r1Y⟩,⟨r1Z,r1Aa⟩⟩,y0,h,rfl,rfl⟩ _;rw[zCS]at h;refine zYf [2] [] rfl ?_;refine zAa ?_;refine zAA [] [] [10] rfl (by decide +kernel) ?_;obtain⟨y2,hy2,h⟩:=zAc h;refine⟨_,⟨_,_,_,hy2,rfl,rfl⟩,?_⟩
 obtain⟨⟨y3Q,y3Ab⟩,hy3,h⟩:=zAc h;refine⟨_,⟨_,_,hy3,rfl,rfl⟩,?_⟩
 obtain⟨⟨y4Q,y4Ab⟩,hy4,h⟩:=zAc h;refine⟨_,⟨_,_,hy4,rfl,rfl⟩,?_⟩
 refine zAe ?_;have hy:=osi h;subst hy;exact fin0 rfl rfl
def zIL (n:Nat) (xs:List AV) (os:List Ob) (x:AV) (os':List (Option Ob)):Prop:=∃ (a0H:Int) (a0I:List UInt8) (a0J:Int) (a0K:List Nd) (a0M:Int) (a0N:List UInt8) (a0O:Int) (a0P:List Nd) (a0E:List zRc) (a0F:Int) (a1:zRc) (y0:Int) (z0H:Int) (z0I:List UInt8) (z0J:Int) (z0K:List Nd) (z0M:Int) (z0N:List UInt8) (z0O:Int) (z0P:List Nd) (z0E:List zRc) (z0F:Int),zAU n (Nd.mk a0H a0I a0J a0K,Nd.mk a0M a0N a0O a0P,a0E,a0F) a1=some (y0,(Nd.mk z0H z0I z0J z0K,Nd.mk z0M z0N z0O z0P,z0E,z0F))/\xs=[.op 0 0,.agg ((zAd a1).map .s)]/\os=[.box 71 [.s (.int .i64 a0H),.s (.str a0I),.s (.int .i64 a0J),.s (.sl 4 (Nd.encs a0K)),.s (.int .i64 a0M),.s (.str a0N),.s (.int .i64 a0O),.s (.sl 4 (Nd.encs a0P)),.orow 1,.s (.int .i64 a0F)],.row 31 5 ((List.map zAd) a0E)]/\x = .s (.int .i64 y0)/\os'=[some (.box 71 [.s (.int .i64 z0H),.s (.str z0I),.s (.int .i64 z0J),.s (.sl 4 (Nd.encs z0K)),.s (.int .i64 z0M),.s (.str z0N),.s (.int .i64 z0O),.s (.sl 4 (Nd.encs z0P)),.orow 2,.s (.int .i64 z0F)]),none,some (.row 31 5 ((List.map zAd) z0E))]
def zDX:zAq:=zD5 (fun xs os x os'=>∃ n,zIL n xs os x os')
theorem zSR {α:Type}{a b:α} (h:a=b:=by simp[List.map_append,List.map_take,List.map_drop,irow,brow,zEw,List.map_cons,List.map_nil,zD1,Nd.encs_eq,Nd.enc,zA4,zAK,zBy,zAI,zAG,zAk,zAd,zBD,zAz]):a=b :=
 h
theorem zFo:PSound Tryz.prog 12 zDX:=by
 have gok:∀ f s,look? f [(31,zEu),(32,zHk)]=some s->PSound Tryz.prog f s:=zAo (by
  simp only[List.forall_mem_cons]
  exact⟨zFt,zI7,by simp⟩)
 refine PSound.withNil (zGB tokW Tryz.call12 Tryz.func12 rfl (fun xs os x os' h=>by obtain⟨n,_,_,_,_,_,_,_,_,_,_,_,_,_,_,_,_,_,_,_,_,_,_,_,rfl,rfl,_,rfl⟩:=h; exact⟨by show 2<=57; decide,by show 2<=3; decide⟩) 57 rfl ?_) _;rintro xs os x os' w0 G0 B0 ⟨n,o1H,o1I,o1J,o1K,o1M,o1N,o1O,o1P,o1E,o1F,⟨r2W,⟨r2X,r2Y⟩,⟨r2Z,r2Aa⟩⟩,y0,z0H,z0I,z0J,z0K,z0M,z0N,z0O,z0P,z0E,z0F,h,rfl,rfl,rfl,rfl⟩ _
 rw[zAU]at h;refine zYV ?_;refine zAa ?_;refine zYV ?_;refine zAE rfl (fun h=>by cases h) (fun _=>?_)
 refine zAf ?_;refine zAa ?_;refine zCi [5] [] [3,11,12] [3] rfl (by decide +kernel) ?_;obtain⟨⟨⟨y3A,y3C,y3D,y3B⟩,y4,y5⟩,hy3,h⟩:=zAc h;refine⟨_,⟨_,_,_,_,_,_,hy3,rfl,rfl⟩,?_⟩
 refine zAh (Le.giveBox 2 [.int .i64 y3A,.str y3C,.int .i64 y3D,.sl 4 (Nd.encs y3B)] rfl rfl) ?_;refine zAa ?_;refine zYV ?_;refine zAg rfl h (fun hb h=>?_) (fun hb h=>?_)
 ·refine zYV ?_;refine zAe ?_;have hj0:=osi h;obtain⟨hv0,hw0⟩:=Prod.mk.inj hj0;subst hv0;obtain⟨he1T,hr1T⟩:=Prod.mk.inj hw0;obtain⟨he1U,hr1U⟩:=Prod.mk.inj hr1T;obtain⟨he1Ad,he1Ae⟩:=Prod.mk.inj hr1U;obtain⟨he2T,he2U,he2Ad,he2Ae⟩:=Nd.mk.inj he1T;subst he2T;subst he2U;subst he2Ad;subst he2Ae;obtain⟨he3T,he3U,he3Ad,he3Ae⟩:=Nd.mk.inj he1U;subst he3T;subst he3U;subst he3Ad;subst he3Ae;subst he1Ad;subst he1Ae;unfold zBN
  exact⟨_,(Le.rnm [(0,0),(1,2)] [(4,.s (.int .i64 y5))] [(0,.box 71 [.s (.int .i64 o1H),.s (.str o1I),.s (.int .i64 o1J),.s (.sl 4 (Nd.encs o1K)),.s (.int .i64 o1M),.s (.str o1N),.s (.int .i64 o1O),.s (.sl 4 (Nd.encs o1P)),.orow 2,.s (.int .i64 o1F)]),(2,.row 31 5 ((List.map zAd) o1E))] 3 ⟨rfl,trivial⟩ ⟨rfl,⟨_,rfl,rfl⟩,rfl,⟨_,rfl,rfl⟩,trivial⟩),rfl,rfl,rfl,rfl,rfl,rfl,trivial⟩
 ·refine zAf ?_;refine zAa ?_;refine zYV ?_;refine zAg rfl h (fun hb h=>?_) (fun hb h=>?_)
  ·refine zYV ?_;refine zAe ?_;have hj0:=osi h;obtain⟨hv0,hw0⟩:=Prod.mk.inj hj0;subst hv0;obtain⟨he1T,hr1T⟩:=Prod.mk.inj hw0;obtain⟨he1U,hr1U⟩:=Prod.mk.inj hr1T;obtain⟨he1Ad,he1Ae⟩:=Prod.mk.inj hr1U;obtain⟨he2T,he2U,he2Ad,he2Ae⟩:=Nd.mk.inj he1T;subst he2T;subst he2U;subst he2Ad;subst he2Ae;obtain⟨he3T,he3U,he3Ad,he3Ae⟩:=Nd.mk.inj he1U;subst he3T;subst he3U;subst he3Ad;subst he3Ae;subst he1Ad;subst he1Ae;unfold zBN
   exact⟨_,(Le.rnm [(0,0),(1,2)] [(4,.s (.int .i64 6))] [(0,.box 71 [.s (.int .i64 o1H),.s (.str o1I),.s (.int .i64 o1J),.s (.sl 4 (Nd.encs o1K)),.s (.int .i64 o1M),.s (.str o1N),.s (.int .i64 o1O),.s (.sl 4 (Nd.encs o1P)),.orow 2,.s (.int .i64 o1F)]),(2,.row 31 5 ((List.map zAd) o1E))] 3 ⟨rfl,trivial⟩ ⟨rfl,⟨_,rfl,rfl⟩,rfl,⟨_,rfl,rfl⟩,trivial⟩),rfl,rfl,rfl,rfl,rfl,rfl,trivial⟩
  ·refine zAf ?_;refine zAa ?_;refine zAA [38,42] [41] [4,8,9,13,16] rfl (by decide +kernel) ?_;obtain⟨hq,h⟩:=zAw h;refine And.intro ⟨hq.1,Int.le_trans hq.2 (Int.ofNat_le.2 (Nat.le_of_eq (rlen (fun _=>rfl) _).symm))⟩ ?_;obtain⟨⟨y6W,⟨y6X,y6Y⟩,⟨y6Z,y6Aa⟩⟩,hy6,h⟩:=zAc h;refine⟨_,⟨_,_,_,hy6,rfl,rfl⟩,?_⟩
   intro r7 hr7;obtain rfl:(List.map zAd) [(y6W,(y6X,y6Y),(y6Z,y6Aa))]=r7:=(hr7.trans zSR).symm;obtain⟨hq,h⟩:=zAw h
   refine And.intro (show(((((List.map zAd) o1E)).take o1F.toNat).length+((List.map zAd) [(y6W,(y6X,y6Y),(y6Z,y6Aa))]).length) * 120<=140737488355328/\((((List.map zAd) o1E)).take o1F.toNat).length+((List.map zAd) [(y6W,(y6X,y6Y),(y6Z,y6Aa))]).length<=9223372036854775807 from by simp only[List.length_append,List.length_cons,List.length_nil,List.length_map,List.length_take,rlen (fun _=>rfl)]at hq ⊢; omega) ?_;show Tri ..
   refine zAh (Le.rnm [(0,0),(4,2)] [(0,.op 0 0),(5,.s (.pt [.int .i64 y3A,.str y3C,.int .i64 y3D,.sl 4 (Nd.encs y3B)]))] [(0,.box 71 [.s (.int .i64 o1H),.s (.str o1I),.s (.int .i64 o1J),.s (.sl 4 (Nd.encs o1K)),.s (.int .i64 o1M),.s (.str o1N),.s (.int .i64 o1O),.s (.sl 4 (Nd.encs o1P)),.orow 2,.s (.int .i64 o1F)]),(2,.row 31 5 ((List.map zAd) ((o1E.take o1F.toNat)++[(y6W,(y6X,y6Y),(y6Z,y6Aa))])))] 3 ⟨rfl,rfl,trivial⟩ ⟨rfl,⟨_,rfl,rfl⟩,rfl,⟨_,rfl,congrArg (Ob.row 31 5) zSR⟩,trivial⟩) ?_
   refine zAa ?_;refine zAA [] [] [6,10,13] rfl (by decide +kernel) ?_;refine zYV ?_;refine zAe ?_;have hj0:=osi h;obtain⟨hv0,hw0⟩:=Prod.mk.inj hj0;subst hv0;obtain⟨he1T,hr1T⟩:=Prod.mk.inj hw0;obtain⟨he1U,hr1U⟩:=Prod.mk.inj hr1T;obtain⟨he1Ad,he1Ae⟩:=Prod.mk.inj hr1U;obtain⟨he2T,he2U,he2Ad,he2Ae⟩:=Nd.mk.inj he1T;subst he2T;subst he2U;subst he2Ad;subst he2Ae;obtain⟨he3T,he3U,he3Ad,he3Ae⟩:=Nd.mk.inj he1U;subst he3T;subst he3U;subst he3Ad;subst he3Ae;subst he1Ad;subst he1Ae;unfold zBN
   exact⟨_,(Le.rnm [(0,0),(2,2)] [(4,.s (.int .i64 0))] [(0,.box 71 [.s (.int .i64 o1H),.s (.str o1I),.s (.int .i64 o1J),.s (.sl 4 (Nd.encs o1K)),.s (.int .i64 y3A),.s (.str y3C),.s (.int .i64 y3D),.s (.sl 4 (Nd.encs y3B)),.orow 2,.s (.int .i64 (IntKind.i64.wrap (o1F+1)))]),(2,.row 31 5 ((List.map zAd) ((o1E.take o1F.toNat)++[(y6W,(y6X,y6Y),(y6Z,y6Aa))])))] 3 ⟨rfl,trivial⟩ ⟨rfl,⟨_,rfl,rfl⟩,rfl,⟨_,rfl,rfl⟩,trivial⟩),rfl,rfl,rfl,rfl,rfl,rfl,trivial⟩
def zHH (xs:List AV) (os:List Ob) (x:AV) (os':List (Option Ob)):Prop:=∃ (a0H:Int) (a0I:List UInt8) (a0J:Int) (a0K:List Nd) (a0M:Int) (a0N:List UInt8) (a0O:Int) (a0P:List Nd) (a0E:List zRc) (a0F:Int) (y0:Nd) (z0H:Int) (z0I:List UInt8) (z0J:Int) (z0K:List Nd) (z0M:Int) (z0N:List UInt8) (z0O:Int) (z0P:List Nd) (z0E:List zRc) (z0F:Int),zA9 (Nd.mk a0H a0I a0J a0K,Nd.mk a0M a0N a0O a0P,a0E,a0F)=some (y0,(Nd.mk z0H z0I z0J z0K,Nd.mk z0M z0N z0O z0P,z0E,z0F))/\xs=[.op 0 0]/\os=[.box 71 [.s (.int .i64 a0H),.s (.str a0I),.s (.int .i64 a0J),.s (.sl 4 (Nd.encs a0K)),.s (.int .i64 a0M),.s (.str a0N),.s (.int .i64 a0O),.s (.sl 4 (Nd.encs a0P)),.orow 1,.s (.int .i64 a0F)],.row 31 5 ((List.map zAd) a0E)]/\x = .agg ((Nd.enc y0).map .s)/\os'=[some (.box 71 [.s (.int .i64 z0H),.s (.str z0I),.s (.int .i64 z0J),.s (.sl 4 (Nd.encs z0K)),.s (.int .i64 z0M),.s (.str z0N),.s (.int .i64 z0O),.s (.sl 4 (Nd.encs z0P)),.orow 2,.s (.int .i64 z0F)]),none,some (.row 31 5 ((List.map zAd) z0E))]
def zDc:zAq:=zD5 (fun xs os x os'=>zHH xs os x os')
theorem zEE:PSound Tryz.prog 10 zDc:=by
 have gok:∀ f s,look? f [(29,zDi)]=some s->PSound Tryz.prog f s:=zAo (by
  simp only[List.forall_mem_cons]
  exact⟨zDy,by simp⟩)
 refine PSound.withNil (zGB tokW Tryz.call10 Tryz.func10 rfl (fun xs os x os' h=>by obtain⟨_,_,_,_,_,_,_,_,_,_,_,_,_,_,_,_,_,_,_,_,_,_,rfl,rfl,_,rfl⟩:=h; exact⟨by show 1<=11; decide,by show 2<=3; decide⟩) 11 rfl ?_) _;rintro xs os x os' w0 G0 B0 ⟨o1H,o1I,o1J,o1K,o1M,o1N,o1O,o1P,o1E,o1F,y0,z0H,z0I,z0J,z0K,z0M,z0N,z0O,z0P,z0E,z0F,h,rfl,rfl,rfl,rfl⟩ _;rw[zA9]at h;refine zYf [2] [] rfl ?_;show Tri ..
 refine zAa ?_;refine zYV ?_;refine zAE rfl (fun h=>by cases h) (fun _=>?_)
 refine zAf ?_;refine zYV ?_;obtain⟨⟨y2A,y2C,y2D,y2B⟩,hy2,h⟩:=zAc h;refine⟨_,⟨_,_,hy2,rfl,rfl⟩,?_⟩
 refine zAe ?_;have hj0:=osi h;obtain⟨hv0,hw0⟩:=Prod.mk.inj hj0;subst hv0;obtain⟨he1T,hr1T⟩:=Prod.mk.inj hw0;obtain⟨he1U,hr1U⟩:=Prod.mk.inj hr1T;obtain⟨he1Ad,he1Ae⟩:=Prod.mk.inj hr1U;obtain⟨he2T,he2U,he2Ad,he2Ae⟩:=Nd.mk.inj he1T;subst he2T;subst he2U;subst he2Ad;subst he2Ae;obtain⟨he3T,he3U,he3Ad,he3Ae⟩:=Nd.mk.inj he1U;subst he3T;subst he3U;subst he3Ad;subst he3Ae;subst he1Ad;subst he1Ae;unfold zBN
 exact⟨_,(Le.rnm [(0,0),(1,2),(2,3)] [(2,.op 3 0)] [(0,.box 71 [.s (.int .i64 o1H),.s (.str o1I),.s (.int .i64 o1J),.s (.sl 4 (Nd.encs o1K)),.s (.int .i64 o1M),.s (.str o1N),.s (.int .i64 o1O),.s (.sl 4 (Nd.encs o1P)),.orow 2,.s (.int .i64 o1F)]),(2,.row 31 5 ((List.map zAd) o1E)),(3,.box 24 [.s (.int .i64 y2A),.s (.str y2C),.s (.int .i64 y2D),.s (.sl 4 (Nd.encs y2B))])] 4 ⟨rfl,trivial⟩ ⟨rfl,⟨_,rfl,rfl⟩,rfl,⟨_,rfl,rfl⟩,rfl,⟨_,rfl,rfl⟩,trivial⟩),rfl,rfl,rfl,rfl,rfl,rfl,trivial⟩
def zHI (n:Nat) (xs:List AV) (os:List Ob) (x:AV) (os':List (Option Ob)):Prop:=∃ (a0H:Int) (a0I:List UInt8) (a0J:Int) (a0K:List Nd) (a0M:Int) (a0N:List UInt8) (a0O:Int) (a0P:List Nd) (a0E:List zRc) (a0F:Int) (y0:zCu) (y1:Int) (z0H:Int) (z0I:List UInt8) (z0J:Int) (z0K:List Nd) (z0M:Int) (z0N:List UInt8) (z0O:Int) (z0P:List Nd) (z0E:List zRc) (z0F:Int),zAN n (Nd.mk a0H a0I a0J a0K,Nd.mk a0M a0N a0O a0P,a0E,a0F)=some (y0,y1,(Nd.mk z0H z0I z0J z0K,Nd.mk z0M z0N z0O z0P,z0E,z0F))/\xs=[.op 0 0]/\os=[.box 71 [.s (.int .i64 a0H),.s (.str a0I),.s (.int .i64 a0J),.s (.sl 4 (Nd.encs a0K)),.s (.int .i64 a0M),.s (.str a0N),.s (.int .i64 a0O),.s (.sl 4 (Nd.encs a0P)),.orow 1,.s (.int .i64 a0F)],.row 31 5 ((List.map zAd) a0E)]/\x = .tup [.agg ((zAz y0).map .s),.s (.int .i64 y1)]/\os'=[some (.box 71 [.s (.int .i64 z0H),.s (.str z0I),.s (.int .i64 z0J),.s (.sl 4 (Nd.encs z0K)),.s (.int .i64 z0M),.s (.str z0N),.s (.int .i64 z0O),.s (.sl 4 (Nd.encs z0P)),.orow 2,.s (.int .i64 z0F)]),none,some (.row 31 5 ((List.map zAd) z0E))]
def zCg:zAq:=zD5 (fun xs os x os'=>∃ n,zHI n xs os x os')
theorem zC2:PSound Tryz.prog 14 zCg:=by
 have gok:∀ f s,look? f [(34,zHA),(31,zEu),(35,zFA)]=some s->PSound Tryz.prog f s:=zAo (by
  simp only[List.forall_mem_cons]
  exact⟨zKB,zFt,zGO,by simp⟩)
 refine PSound.withNil (zGB tokW Tryz.call14 Tryz.func14 rfl (fun xs os x os' h=>by obtain⟨n,_,_,_,_,_,_,_,_,_,_,_,_,_,_,_,_,_,_,_,_,_,_,_,rfl,rfl,_,rfl⟩:=h; exact⟨by show 1<=59; decide,by show 2<=3; decide⟩) 59 rfl ?_) _;rintro xs os x os' w0 G0 B0 ⟨n,o1H,o1I,o1J,o1K,o1M,o1N,o1O,o1P,o1E,o1F,y0,y1,z0H,z0I,z0J,z0K,z0M,z0N,z0O,z0P,z0E,z0F,h,rfl,rfl,rfl,rfl⟩ _;rw[zAN]at h;refine zYf [2] [] rfl ?_
 refine zAa ?_;refine zYV ?_;refine zAE rfl (fun h=>by cases h) (fun _=>?_)
 refine zAf ?_;refine zAa ?_;refine zYV ?_;refine zAg rfl h (fun hb h=>?_) (fun hb h=>?_)
 ·refine zYV ?_;refine zAe ?_;have hj0:=osi h;obtain⟨hv0,hw0⟩:=Prod.mk.inj hj0;subst hv0;obtain⟨hv1,hw1⟩:=Prod.mk.inj hw0;subst hv1;obtain⟨he1T,hr1T⟩:=Prod.mk.inj hw1;obtain⟨he1U,hr1U⟩:=Prod.mk.inj hr1T;obtain⟨he1Ad,he1Ae⟩:=Prod.mk.inj hr1U;obtain⟨he2T,he2U,he2Ad,he2Ae⟩:=Nd.mk.inj he1T;subst he2T;subst he2U;subst he2Ad;subst he2Ae;obtain⟨he3T,he3U,he3Ad,he3Ae⟩:=Nd.mk.inj he1U;subst he3T;subst he3U;subst he3Ad;subst he3Ae;subst he1Ad;subst he1Ae;unfold zBN
  exact⟨_,(Le.rnm [(0,0),(1,2),(2,3)] [(2,.op 3 0),(3,.s (.int .i64 8))] [(0,.box 71 [.s (.int .i64 o1H),.s (.str o1I),.s (.int .i64 o1J),.s (.sl 4 (Nd.encs o1K)),.s (.int .i64 o1M),.s (.str o1N),.s (.int .i64 o1O),.s (.sl 4 (Nd.encs o1P)),.orow 2,.s (.int .i64 o1F)]),(2,.row 31 5 ((List.map zAd) o1E)),(3,.box 29 [.nl 1,.nl 1])] 4 ⟨rfl,rfl,trivial⟩ ⟨rfl,⟨_,rfl,rfl⟩,rfl,⟨_,rfl,rfl⟩,rfl,⟨_,rfl,rfl⟩,trivial⟩),rfl,rfl,rfl,rfl,rfl,rfl,trivial⟩
 ·refine zAf ?_;refine zAa ?_;refine zCi [4] [] [3,7,9,10,11,12] [3,7,9,10] rfl (by decide +kernel) ?_;obtain⟨⟨e2W,⟨e2X,e2Y⟩,⟨e2Z,e2Aa⟩⟩,he2,h⟩:=zAc h;refine And.intro (zAp (fun _=>rfl) he2).1 ?_;refine And.intro (zAp (fun _=>rfl) he2).2.2 ?_;refine⟨_,(zAp (fun _=>rfl) he2).2.1,?_⟩
  refine zAh (Le.giveBox 3 [.sl 8 ((List.map zAk) e2W),.sl 1 ((List.map (irow .i64)) e2X),.sl 1 ((List.map (irow .i64)) e2Y),.sl 1 ((List.map (irow .i64)) e2Z),.sl 1 ((List.map (irow .i64)) e2Aa)] rfl rfl) ?_;refine zAa ?_;refine zCi [5] [] [3,12,13] [3] rfl (by decide +kernel) ?_;obtain⟨y3,hy3,h⟩:=zAc h;refine⟨_,⟨_,_,_,hy3,rfl,rfl⟩,?_⟩
  obtain⟨⟨⟨y4A,y4C,y4D,y4B⟩,y5,y6⟩,hy4,h⟩:=zAc h;refine⟨_,⟨_,_,_,_,_,_,hy4,rfl,rfl⟩,?_⟩
  refine zAh (Le.giveBox 4 [.int .i64 y4A,.str y4C,.int .i64 y4D,.sl 4 (Nd.encs y4B)] rfl rfl) ?_;refine zAa ?_;refine zYV ?_;refine zAg rfl h (fun hb h=>?_) (fun hb h=>?_)
  ·refine zYV ?_;refine zAe ?_;have hj0:=osi h;obtain⟨hv0,hw0⟩:=Prod.mk.inj hj0;subst hv0;obtain⟨hv1,hw1⟩:=Prod.mk.inj hw0;subst hv1;obtain⟨he1T,hr1T⟩:=Prod.mk.inj hw1;obtain⟨he1U,hr1U⟩:=Prod.mk.inj hr1T;obtain⟨he1Ad,he1Ae⟩:=Prod.mk.inj hr1U;obtain⟨he2T,he2U,he2Ad,he2Ae⟩:=Nd.mk.inj he1T;subst he2T;subst he2U;subst he2Ad;subst he2Ae;obtain⟨he3T,he3U,he3Ad,he3Ae⟩:=Nd.mk.inj he1U;subst he3T;subst he3U;subst he3Ad;subst he3Ae;subst he1Ad;subst he1Ae;unfold zBN
   exact⟨_,(Le.rnm [(0,0),(1,2),(2,3)] [(2,.op 3 0),(3,.s (.int .i64 y6))] [(0,.box 71 [.s (.int .i64 o1H),.s (.str o1I),.s (.int .i64 o1J),.s (.sl 4 (Nd.encs o1K)),.s (.int .i64 o1M),.s (.str o1N),.s (.int .i64 o1O),.s (.sl 4 (Nd.encs o1P)),.orow 2,.s (.int .i64 o1F)]),(2,.row 31 5 ((List.map zAd) o1E)),(3,.box 29 [.nl 1,.nl 1])] 4 ⟨rfl,rfl,trivial⟩ ⟨rfl,⟨_,rfl,rfl⟩,rfl,⟨_,rfl,rfl⟩,rfl,⟨_,rfl,rfl⟩,trivial⟩),rfl,rfl,rfl,rfl,rfl,rfl,trivial⟩
  ·refine zAf ?_;refine zAa ?_;refine zAA [] [] [6,10,13] rfl (by decide +kernel) ?_;refine zYV ?_;obtain⟨⟨y7Q,y7Ab⟩,hy7,h⟩:=zAc h;refine⟨_,⟨_,_,hy7,rfl,rfl⟩,?_⟩
   refine zAe ?_;have hj0:=osi h;obtain⟨hv0,hw0⟩:=Prod.mk.inj hj0;subst hv0;obtain⟨hv1,hw1⟩:=Prod.mk.inj hw0;subst hv1;obtain⟨he1T,hr1T⟩:=Prod.mk.inj hw1;obtain⟨he1U,hr1U⟩:=Prod.mk.inj hr1T;obtain⟨he1Ad,he1Ae⟩:=Prod.mk.inj hr1U;obtain⟨he2T,he2U,he2Ad,he2Ae⟩:=Nd.mk.inj he1T;subst he2T;subst he2U;subst he2Ad;subst he2Ae;obtain⟨he3T,he3U,he3Ad,he3Ae⟩:=Nd.mk.inj he1U;subst he3T;subst he3U;subst he3Ad;subst he3Ae;subst he1Ad;subst he1Ae;unfold zBN
   exact⟨_,(Le.rnm [(0,0),(1,2),(2,3)] [(2,.op 3 0),(3,.s (.int .i64 0))] [(0,.box 71 [.s (.int .i64 o1H),.s (.str o1I),.s (.int .i64 o1J),.s (.sl 4 (Nd.encs o1K)),.s (.int .i64 y4A),.s (.str y4C),.s (.int .i64 y4D),.s (.sl 4 (Nd.encs y4B)),.orow 2,.s (.int .i64 (IntKind.i64.wrap (o1F - 1)))]),(2,.row 31 5 ((List.map zAd) o1E)),(3,.box 29 [.s (.sl 1 ((List.map (irow .i64)) y7Q)),.s (.sl 1 ((List.map (irow .i64)) y7Ab))])] 4 ⟨rfl,rfl,trivial⟩ ⟨rfl,⟨_,rfl,rfl⟩,rfl,⟨_,rfl,rfl⟩,rfl,⟨_,rfl,rfl⟩,trivial⟩),rfl,rfl,rfl,rfl,rfl,rfl,trivial⟩
def zJI (n:Nat) (xs:List AV) (os:List Ob) (x:AV) (os':List (Option Ob)):Prop:=∃ (a0:List zRc) (y0:List zRc),zDg n a0=some y0/\xs=[.orow 0]/\os=[.row 31 5 ((List.map zAd) a0)]/\x = .orow 1/\os'=[some (.row 31 5 ((List.map zAd) a0)),some (.row 31 5 ((List.map zAd) y0))]
def zGt:zAq:=zD5 (fun xs os x os'=>∃ n,zJI n xs os x os')
theorem zJx:PSound Tryz.prog 37 zGt:=by
 have gok:∀ f s,look? f [(32,zHk)]=some s->PSound Tryz.prog f s:=zAo (by
  simp only[List.forall_mem_cons]
  exact⟨zI7,by simp⟩)
 refine PSound.withNil (zGB tokW Tryz.call37 Tryz.func37 rfl (fun xs os x os' h=>by obtain⟨n,_,_,_,rfl,rfl,_,rfl⟩:=h; exact⟨by show 1<=19; decide,by show 1<=2; decide⟩) 19 rfl ?_) _;rintro xs os x os' w0 G0 B0 ⟨n,o1,y0,h,rfl,rfl,rfl,rfl⟩ _;rw[zDg]at h;refine zYf [2] [] rfl ?_;refine zAh (Le.rnm [(0,0)] [(0,.orow 0)] [(0,.row 31 5 ((List.map zAd) o1))] 1 ⟨rfl,trivial⟩ ⟨rfl,⟨_,rfl,rfl⟩,trivial⟩) ?_;refine zYf [3] [] rfl ?_;show Tri ..
 refine zAh (Le.rnm [(0,0),(1,1)] [(0,.orow 0),(3,.orow 1)] [(0,.row 31 5 ((List.map zAd) o1)),(1,.row 31 5 ((List.map zAd) []))] 2 ⟨rfl,rfl,trivial⟩ ⟨rfl,⟨_,rfl,rfl⟩,rfl,⟨_,rfl,congrArg (Ob.row 31 5) zSR⟩,trivial⟩) ?_;refine zAa ?_;refine zYf [] [7] rfl ?_;intro n2 hn2
 obtain rfl:(o1.length:Int)=n2:=(hn2.trans (congrArg (fun m:Nat=>(m:Int)) (rlen (fun _=>rfl) o1))).symm;show Tri ..;obtain⟨l6,hl,h⟩:=zAc h;refine zAm ⟨ofL [(3,.orow 1)],ofH [(0,.row 31 5 ((List.map zAd) o1)),(1,.row 31 5 ((List.map zAd) l6))],2⟩ ?_ (fun σ' hle=>?_)
 ·refine zAl (zAy (X:=Nat×Int×(List zRc)) (fun y=>match y with | (k,x4,l5)=>⟨ofL [(3,.orow 1),(6,.orow 0),(7,.s (.int .i64 (o1.length:Int))),(8,.s (.int .i64 x4))],ofH [(0,.row 31 5 ((List.map zAd) o1)),(1,.row 31 5 ((List.map zAd) l5))],2⟩) (fun y=>zBg n o1 y.1 y.2.1 y.2.2=some l6) (fun y=>y.1) (n,0,[]) hl ?_ ?_)
  ·exact(Le.rnm [(0,0),(1,1)] _ _ _ ⟨rfl,rfl,rfl,rfl,trivial⟩ ⟨rfl,⟨_,rfl,rfl⟩,rfl,⟨_,rfl,rfl⟩,trivial⟩)
  ·rintro⟨k,x4,l5⟩ h;cases k with
   | zero=>cases h
   | succ k =>
    replace h:zBg n o1 (k+1) x4 l5=some l6:=h;rw[zBg]at h;refine zYV ?_;refine zAa ?_;refine zAg rfl h (fun hb h=>?_) (fun hb h=>?_)
    ·refine zAf ?_;refine zAa ?_;refine zAl ?_;refine zYf [5] [] rfl ?_;obtain⟨⟨e7W,⟨e7X,e7Y⟩,⟨e7Z,e7Aa⟩⟩,he7,h⟩:=zAc h;refine And.intro (zAp (fun _=>rfl) he7).1 ?_;refine And.intro (zAp (fun _=>rfl) he7).2.2 ?_;refine⟨_,(zAp (fun _=>rfl) he7).2.1,?_⟩
     refine zAh (Le.giveBox 2 [.sl 8 ((List.map zAk) e7W),.sl 1 ((List.map (irow .i64)) e7X),.sl 1 ((List.map (irow .i64)) e7Y),.sl 1 ((List.map (irow .i64)) e7Z),.sl 1 ((List.map (irow .i64)) e7Aa)] rfl rfl) ?_;refine zAb [16] [15] rfl ?_;obtain⟨⟨y8W,⟨y8X,y8Y⟩,⟨y8Z,y8Aa⟩⟩,hy8,h⟩:=zAc h;refine⟨_,⟨_,_,_,hy8,rfl,rfl⟩,?_⟩
     intro r9 hr9;obtain rfl:(List.map zAd) [(y8W,(y8X,y8Y),(y8Z,y8Aa))]=r9:=(hr9.trans zSR).symm;obtain⟨hq,h⟩:=zAw h
     refine And.intro (show(((List.map zAd) l5).length+((List.map zAd) [(y8W,(y8X,y8Y),(y8Z,y8Aa))]).length) * 120<=140737488355328/\((List.map zAd) l5).length+((List.map zAd) [(y8W,(y8X,y8Y),(y8Z,y8Aa))]).length<=9223372036854775807 from by simp only[List.length_append,List.length_cons,List.length_nil,List.length_map,rlen (fun _=>rfl)]at hq ⊢; omega) ?_;show Tri ..
     refine zAh (Le.rnm [(0,0),(3,1)] [(3,.orow 1),(6,.orow 0),(7,.s (.int .i64 (o1.length:Int))),(8,.s (.int .i64 x4))] [(0,.row 31 5 ((List.map zAd) o1)),(1,.row 31 5 ((List.map zAd) (l5++[(y8W,(y8X,y8Y),(y8Z,y8Aa))])))] 2 ⟨rfl,rfl,rfl,rfl,trivial⟩ ⟨rfl,⟨_,rfl,rfl⟩,rfl,⟨_,rfl,congrArg (Ob.row 31 5) zSR⟩,trivial⟩) ?_
     refine zYU ?_;refine⟨(k,IntKind.i64.wrap (x4+1),l5++[(y8W,(y8X,y8Y),(y8Z,y8Aa))]),h,(Le.rnm [(0,0),(1,1)] _ _ _ ⟨rfl,rfl,rfl,rfl,trivial⟩ ⟨rfl,⟨_,rfl,rfl⟩,rfl,⟨_,rfl,rfl⟩,trivial⟩),Nat.lt_succ_self k⟩
    ·refine zAC ?_;cases h;exact(Le.rnm [(0,0),(1,1)] _ _ _ ⟨rfl,trivial⟩ ⟨rfl,⟨_,rfl,rfl⟩,rfl,⟨_,rfl,rfl⟩,trivial⟩)
 ·refine zAh hle ?_;refine zYV ?_;refine zAe ?_;have hy:=osi h;subst hy;unfold zBN;exact⟨_,(Le.rnm [(0,0),(1,1)] [(2,.orow 1)] [(0,.row 31 5 ((List.map zAd) o1)),(1,.row 31 5 ((List.map zAd) l6))] 2 ⟨rfl,trivial⟩ ⟨rfl,⟨_,rfl,rfl⟩,rfl,⟨_,rfl,rfl⟩,trivial⟩),rfl,rfl,rfl,rfl,rfl,rfl,trivial⟩
def zGG (n:Nat) (xs:List AV) (os:List Ob) (x:AV) (os':List (Option Ob)):Prop:=∃ (a0H:Int) (a0I:List UInt8) (a0J:Int) (a0K:List Nd) (a0M:Int) (a0N:List UInt8) (a0O:Int) (a0P:List Nd) (a0E:List zRc) (a0F:Int) (y0:List zRc) (z0H:Int) (z0I:List UInt8) (z0J:Int) (z0K:List Nd) (z0M:Int) (z0N:List UInt8) (z0O:Int) (z0P:List Nd) (z0E:List zRc) (z0F:Int),zA7 n (Nd.mk a0H a0I a0J a0K,Nd.mk a0M a0N a0O a0P,a0E,a0F)=some (y0,(Nd.mk z0H z0I z0J z0K,Nd.mk z0M z0N z0O z0P,z0E,z0F))/\xs=[.op 0 0]/\os=[.box 71 [.s (.int .i64 a0H),.s (.str a0I),.s (.int .i64 a0J),.s (.sl 4 (Nd.encs a0K)),.s (.int .i64 a0M),.s (.str a0N),.s (.int .i64 a0O),.s (.sl 4 (Nd.encs a0P)),.orow 1,.s (.int .i64 a0F)],.row 31 5 ((List.map zAd) a0E)]/\x = .s (.sl 5 ((List.map zAd) y0))/\os'=[some (.box 71 [.s (.int .i64 z0H),.s (.str z0I),.s (.int .i64 z0J),.s (.sl 4 (Nd.encs z0K)),.s (.int .i64 z0M),.s (.str z0N),.s (.int .i64 z0O),.s (.sl 4 (Nd.encs z0P)),.orow 2,.s (.int .i64 z0F)]),none,some (.row 31 5 ((List.map zAd) z0E))]
def zCx:zAq:=zD5 (fun xs os x os'=>∃ n,zGG n xs os x os')
theorem zDW:PSound Tryz.prog 17 zCx:=by
 have gok:∀ f s,look? f [(37,zGt)]=some s->PSound Tryz.prog f s:=zAo (by
  simp only[List.forall_mem_cons]
  exact⟨zJx,by simp⟩)
 refine PSound.withNil (zGB tokW Tryz.call17 Tryz.func17 rfl (fun xs os x os' h=>by obtain⟨n,_,_,_,_,_,_,_,_,_,_,_,_,_,_,_,_,_,_,_,_,_,_,rfl,rfl,_,rfl⟩:=h; exact⟨by show 1<=10; decide,by show 2<=3; decide⟩) 10 rfl ?_) _;rintro xs os x os' w0 G0 B0 ⟨n,o1H,o1I,o1J,o1K,o1M,o1N,o1O,o1P,o1E,o1F,y0,z0H,z0I,z0J,z0K,z0M,z0N,z0O,z0P,z0E,z0F,h,rfl,rfl,rfl,rfl⟩ _;rw[zA7]at h;refine zYV ?_;show Tri ..
 refine zAa ?_;refine zYV ?_;refine zAE rfl (fun h=>by cases h) (fun _=>?_)
 refine zAf ?_;refine zYV ?_;obtain⟨y2,hy2,h⟩:=zAc h;refine⟨_,_,⟨_,_,_,hy2,rfl,rfl,rfl,rfl⟩,?_⟩
 refine zAe ?_;have hj0:=osi h;obtain⟨hv0,hw0⟩:=Prod.mk.inj hj0;subst hv0;obtain⟨he1T,hr1T⟩:=Prod.mk.inj hw0;obtain⟨he1U,hr1U⟩:=Prod.mk.inj hr1T;obtain⟨he1Ad,he1Ae⟩:=Prod.mk.inj hr1U;obtain⟨he2T,he2U,he2Ad,he2Ae⟩:=Nd.mk.inj he1T;subst he2T;subst he2U;subst he2Ad;subst he2Ae;obtain⟨he3T,he3U,he3Ad,he3Ae⟩:=Nd.mk.inj he1U;subst he3T;subst he3U;subst he3Ad;subst he3Ae;subst he1Ad;subst he1Ae;unfold zBN
 exact⟨_,(Le.trans (Le.rnm [(0,0),(1,2),(2,3)] [(2,.orow 3)] [(0,.box 71 [.s (.int .i64 o1H),.s (.str o1I),.s (.int .i64 o1J),.s (.sl 4 (Nd.encs o1K)),.s (.int .i64 o1M),.s (.str o1N),.s (.int .i64 o1O),.s (.sl 4 (Nd.encs o1P)),.orow 2,.s (.int .i64 o1F)]),(2,.row 31 5 ((List.map zAd) o1E)),(3,.row 31 5 ((List.map zAd) y2))] 4 ⟨rfl,trivial⟩ ⟨rfl,⟨_,rfl,rfl⟩,rfl,⟨_,rfl,rfl⟩,rfl,⟨_,rfl,rfl⟩,trivial⟩) (Le.giveRow 3 rfl)),rfl,rfl,rfl,rfl,rfl,rfl,trivial⟩
def zRS (n:Nat) (xs:List AV) (r:Ret):Prop:=∃ (y0:Bool),zEP n=some y0/\xs=[]/\r = .val (.s (.bool y0))
def zLX:zAq:=zAs fun xs r=>∃ n,zRS n xs r
theorem zRe:PSound Tryz.prog 7 zLX:=by
 have gok:∀ f s,look? f [(20,zHl),(12,zDX),(10,zDc),(14,zCg),(17,zCx)]=some s->PSound Tryz.prog f s:=zAo (by
  simp only[List.forall_mem_cons]
  exact⟨zI8,zFo,zEE,zC2,zDW,by simp⟩)
 refine zAr tokW Tryz.call7 Tryz.func7 rfl (fun xs r h=>by obtain⟨n,_,_,rfl,_⟩:=h; show 0<=57; decide) 57 rfl ?_;rintro xs r w0 G0 ⟨n,y0,h,rfl,rfl⟩ _;rw[zEP]at h;refine zYV ?_;refine zYV ?_;obtain⟨⟨y1,y2⟩,hy1,h⟩:=zAc h;cases y1 with
 | none =>
  obtain⟨hq,h⟩:=zAw h;subst hq;refine⟨_,_,⟨_,_,_,_,hy1,rfl,rfl,rfl,rfl⟩,?_⟩
  refine zAh (Le.rnm [] [(1,.s (.np)),(2,.s (.int .i64 1))] [] 0 ⟨rfl,rfl,trivial⟩ trivial) ?_;refine zAa ?_;refine zYV ?_;refine zAE rfl (fun _=>?_) (fun h=>by cases h)
  refine zYV ?_;refine zAe ?_;have hy:=osi h;subst hy;exact fin0 rfl rfl
 | some w3 =>
  obtain⟨⟨w3H,w3I,w3J,w3K⟩,⟨w3M,w3N,w3O,w3P⟩,w3E,w3F⟩:=w3;obtain⟨hq,h⟩:=zAw h;subst hq;refine⟨_,_,⟨_,_,_,_,hy1,rfl,rfl,rfl,rfl⟩,?_⟩
  refine zAh (Le.rnm [(0,0),(1,1)] [(1,.op 0 0),(2,.s (.int .i64 0))] [(0,.box 71 [.s (.int .i64 w3H),.s (.str w3I),.s (.int .i64 w3J),.s (.sl 4 (Nd.encs w3K)),.s (.int .i64 w3M),.s (.str w3N),.s (.int .i64 w3O),.s (.sl 4 (Nd.encs w3P)),.orow 1,.s (.int .i64 w3F)]),(1,.row 31 5 ((List.map zAd) w3E))] 2 ⟨rfl,rfl,trivial⟩ ⟨rfl,⟨_,rfl,rfl⟩,rfl,⟨_,rfl,rfl⟩,trivial⟩) ?_;refine zAa ?_;refine zYV ?_;refine zAE rfl (fun h=>by cases h) (fun _=>?_)
  refine zAf ?_;refine zYf [] [20,22] rfl ?_;intro r4 hr4;obtain rfl:Nd.encs [Nd.mk 2 [120] 0 []]=r4:=(hr4.trans zSR).symm;intro r5 hr5
  obtain rfl:(List.map zAk) [(1,[],0,0,[Nd.mk 2 [120] 0 []],0,[],[])]=r5:=(hr5.trans zSR).symm;obtain⟨⟨y6,⟨⟨w7H,w7I,w7J,w7K⟩,⟨w7M,w7N,w7O,w7P⟩,w7E,w7F⟩⟩,hy6,h⟩:=zAc h;refine⟨_,_,⟨_,_,_,_,_,_,_,_,_,_,_,_,_,_,_,_,_,_,_,_,_,_,_,hy6,rfl,rfl,rfl,rfl⟩,?_⟩
  refine zAh (Le.rnm [(0,0),(2,1)] [(1,.op 0 0),(3,.s (.int .i64 y6))] [(0,.box 71 [.s (.int .i64 w7H),.s (.str w7I),.s (.int .i64 w7J),.s (.sl 4 (Nd.encs w7K)),.s (.int .i64 w7M),.s (.str w7N),.s (.int .i64 w7O),.s (.sl 4 (Nd.encs w7P)),.orow 1,.s (.int .i64 w7F)]),(1,.row 31 5 ((List.map zAd) w7E))] 2 ⟨rfl,rfl,trivial⟩ ⟨rfl,⟨_,rfl,rfl⟩,rfl,⟨_,rfl,rfl⟩,trivial⟩) ?_;refine zYf [] [28] rfl ?_
  obtain⟨⟨⟨y8A,y8C,y8D,y8B⟩,⟨⟨w9H,w9I,w9J,w9K⟩,⟨w9M,w9N,w9O,w9P⟩,w9E,w9F⟩⟩,hy8,h⟩:=zAc h;refine⟨_,_,⟨_,_,_,_,_,_,_,_,_,_,_,_,_,_,_,_,_,_,_,_,_,hy8,rfl,rfl,rfl,rfl⟩,?_⟩
  intro n10 hn10;obtain rfl:(y8B.length:Int)=n10:=(hn10.trans (congrArg (fun m:Nat=>(m:Int)) (rlen Nd.encs_eq y8B))).symm;show Tri ..
  refine zAh (Le.rnm [(0,0),(2,1)] [(1,.op 0 0),(3,.s (.int .i64 y6)),(4,.s (.int .i64 (y8B.length:Int)))] [(0,.box 71 [.s (.int .i64 w9H),.s (.str w9I),.s (.int .i64 w9J),.s (.sl 4 (Nd.encs w9K)),.s (.int .i64 w9M),.s (.str w9N),.s (.int .i64 w9O),.s (.sl 4 (Nd.encs w9P)),.orow 1,.s (.int .i64 w9F)]),(1,.row 31 5 ((List.map zAd) w9E))] 2 ⟨rfl,rfl,rfl,trivial⟩ ⟨rfl,⟨_,rfl,rfl⟩,rfl,⟨_,rfl,rfl⟩,trivial⟩) ?_;refine zYf [5] [] rfl ?_
  obtain⟨⟨⟨y11Q,y11Ab⟩,y12,⟨⟨w13H,w13I,w13J,w13K⟩,⟨w13M,w13N,w13O,w13P⟩,w13E,w13F⟩⟩,hy11,h⟩:=zAc h;refine⟨_,_,⟨_,_,_,_,_,_,_,_,_,_,_,_,_,_,_,_,_,_,_,_,_,_,_,hy11,rfl,rfl,rfl,rfl⟩,?_⟩
  refine zAh (Le.giveBox 3 [.sl 1 ((List.map (irow .i64)) y11Q),.sl 1 ((List.map (irow .i64)) y11Ab)] rfl rfl) ?_;refine zAa ?_;obtain⟨x14,hj,h⟩:=zAc h;refine zAm ⟨ofL [(0,.s (.bool x14))],fun _=>none,0⟩ ?_ (fun σ' hle=>?_)
  ·replace h:=hj;refine zAb [] [36,40,44,48,51,54] rfl ?_;intro b hb;cases b with
   | true =>
    replace h:=zAu hb.symm h;intro b hb;cases b with
    | true =>
     replace h:=zAu hb.symm h;intro b hb;cases b with
     | true =>
      replace h:=zAu hb.symm h;obtain⟨⟨⟨y15A,y15C,y15D,y15B⟩,⟨⟨w16H,w16I,w16J,w16K⟩,⟨w16M,w16N,w16O,w16P⟩,w16E,w16F⟩⟩,hy15,h⟩:=zAc h;refine⟨_,_,⟨_,_,_,_,_,_,_,_,_,_,_,_,_,_,_,_,_,_,_,_,_,hy15,rfl,rfl,rfl,rfl⟩,?_⟩
      intro n17 hn17;obtain rfl:(y15B.length:Int)=n17:=(hn17.trans (congrArg (fun m:Nat=>(m:Int)) (rlen Nd.encs_eq y15B))).symm;intro b hb;cases b with
      | true =>
       replace h:=zAu hb.symm h;obtain⟨⟨y18,⟨⟨w19H,w19I,w19J,w19K⟩,⟨w19M,w19N,w19O,w19P⟩,w19E,w19F⟩⟩,hy18,h⟩:=zAc h;refine⟨_,_,⟨_,_,_,_,_,_,_,_,_,_,_,_,_,_,_,_,_,_,_,_,_,_,hy18,rfl,rfl,rfl,rfl⟩,?_⟩
       intro n20 hn20;obtain rfl:(y18.length:Int)=n20:=(hn20.trans (congrArg (fun m:Nat=>(m:Int)) (rlen (fun _=>rfl) y18))).symm;cases h;exact(Le.rnm [] _ [] 0 ⟨rfl,trivial⟩ trivial)
      | false =>
       replace h:=zAt hb.symm h;cases h;exact(Le.rnm [] _ [] 0 ⟨rfl,trivial⟩ trivial)
     | false =>
      replace h:=zAt hb.symm h;intro b hb;subst hb;cases h;exact(Le.rnm [] _ [] 0 ⟨rfl,trivial⟩ trivial)
    | false =>
     replace h:=zAt hb.symm h;intro b hb;subst hb;intro b hb;subst hb;cases h;exact(Le.rnm [] _ [] 0 ⟨rfl,trivial⟩ trivial)
   | false =>
    replace h:=zAt hb.symm h;intro b hb;subst hb;intro b hb;subst hb;intro b hb;subst hb;cases h;exact(Le.rnm [] _ [] 0 ⟨rfl,trivial⟩ trivial)
  ·refine zAh hle ?_;refine zAe ?_;have hy:=osi h;subst hy;exact fin0 rfl rfl
def zRW (xs:List AV) (r:Ret):Prop:=∃ (a0:List Nd) (y0:Nd),zA3 a0=some y0/\xs=[.s (.sl 4 (Nd.encs a0))]/\r = .val (.agg ((Nd.enc y0).map .s))
def zCO:zAq:=zAs fun xs r=>zRW xs r
theorem zCN:PSound Tryz.prog 48 zCO:=by
 have gok:=@gok0 Tryz.prog;refine zAr tokW Tryz.call48 Tryz.func48 rfl (fun xs r h=>by obtain⟨_,_,_,rfl,_⟩:=h; show 1<=5; decide) 5 rfl ?_;rintro xs r w0 G0 ⟨l1,y0,h,rfl,rfl⟩ _;rw[zA3]at h;refine zYf [2] [] rfl ?_;refine zYV ?_;refine zAe ?_;have hy:=osi h;subst hy;exact fin0 rfl rfl
def zGV (n:Nat) (xs:List AV) (r:Ret):Prop:=∃ (a0:Nd) (a1:Int) (y0:Int),zDM n a0 a1=some y0/\xs=[.agg ((Nd.enc a0).map .s),.s (.int .i64 a1)]/\r = .val (.s (.int .i64 y0))
theorem zPT (n:Nat) (ih:PSound Tryz.prog 49 (zAs (zGV n))):PSound Tryz.prog 49 (zAs (zGV (n+1))):=by
 have gok:∀ f s,look? f [(49,zAs (zGV n))]=some s->PSound Tryz.prog f s:=zAo (by
  simp only[List.forall_mem_cons]
  exact⟨ih,by simp⟩)
 refine zAr tokW Tryz.call49 Tryz.func49 rfl (fun xs r h=>by obtain⟨_,_,_,_,rfl,_⟩:=h; show 2<=27; decide) 27 rfl ?_;rintro xs r w0 G0 ⟨⟨n1A,n1C,n1D,n1B⟩,most2,y0,h,rfl,rfl⟩ _;rw[zDM]at h;refine zYV ?_;refine zYV ?_;refine zAa ?_;refine zYV ?_;show Tri ..;obtain⟨most5,hl,h⟩:=zAc h;refine zAm ⟨ofL [(1,.s (.int .i64 most5))],fun _=>none,0⟩ ?_ (fun σ' hle=>?_)
 ·refine zAl (zAy (X:=Nat×Int×Int) (fun y=>match y with | (k,most3,i4)=>⟨ofL [(1,.s (.int .i64 most3)),(2,.s (.pt [.int .i64 n1A,.str n1C,.int .i64 n1D,.sl 4 (Nd.encs n1B)])),(5,.s (.int .i64 i4))],fun _=>none,0⟩) (fun y=>zCq (zDM n) n1B y.1 y.2.1 y.2.2=some most5) (fun y=>y.1) (n,IntKind.i64.wrap (most2 - 1),0) hl ?_ ?_)
  ·exact(Le.forget _ ⟨rfl,rfl,rfl,trivial⟩)
  ·rintro⟨k,most3,i4⟩ h;cases k with
   | zero=>cases h
   | succ k =>
    replace h:zCq (zDM n) n1B (k+1) most3 i4=some most5:=h;rw[zCq]at h;refine zAa ?_;refine zAa ?_;obtain⟨x6,hj,h⟩:=zAc h;refine zAm ⟨ofL [(1,.s (.int .i64 most3)),(2,.s (.pt [.int .i64 n1A,.str n1C,.int .i64 n1D,.sl 4 (Nd.encs n1B)])),(5,.s (.int .i64 i4)),(16,.s (.bool x6))],fun _=>none,0⟩ ?_ (fun σ' hle=>?_)
    ·replace h:=hj;refine zAb [] [11,13] rfl ?_;intro n7 hn7;obtain rfl:(n1B.length:Int)=n7:=(hn7.trans (congrArg (fun m:Nat=>(m:Int)) (rlen Nd.encs_eq n1B))).symm;intro b hb;cases b with
     | true =>
      replace h:=zAu hb.symm h;cases h;exact(Le.forget _ ⟨rfl,rfl,rfl,rfl,trivial⟩)
     | false =>
      replace h:=zAt hb.symm h;cases h;exact(Le.forget _ ⟨rfl,rfl,rfl,rfl,trivial⟩)
    ·refine zAh hle ?_;refine zAg rfl h (fun hb h=>?_) (fun hb h=>?_)
     ·refine zAf ?_;refine zAa ?_;refine zAl ?_;refine zAb [] [22] rfl ?_;obtain⟨⟨e8A,e8C,e8D,e8B⟩,he8,h⟩:=zAc h;refine And.intro (zAp Nd.encs_eq he8).1 ?_;intro r9 hr9;obtain rfl:[.int .i64 e8A,.str e8C,.int .i64 e8D,.sl 4 (Nd.encs e8B)]=r9:=(hr9.trans (zAp Nd.encs_eq he8).2.1).symm;obtain⟨y10,hy10,h⟩:=zAc h;refine⟨_,⟨_,_,_,hy10,rfl,rfl⟩,?_⟩
      refine zYU ?_;refine⟨(k,y10,IntKind.i64.wrap (i4+1)),h,(Le.forget _ ⟨rfl,rfl,rfl,trivial⟩),Nat.lt_succ_self k⟩
     ·refine zAC ?_;cases h;exact(Le.forget _ ⟨rfl,trivial⟩)
 ·refine zAh hle ?_;refine zYV ?_;refine zAe ?_;have hy:=osi h;subst hy;exact fin0 rfl rfl
theorem zQE:∀ n,PSound Tryz.prog 49 (zAs (zGV n)):=by
 intro n
 induction n with
 | zero=>exact zCC Tryz.call49 (fun xs r h=>by obtain⟨_,_,_,h,_⟩:=h; cases h)
 | succ n ih=>exact zPT n ih
def zNN:zAq:=zAs fun xs r=>∃ n,zGV n xs r
theorem zSv:PSound Tryz.prog 49 zNN:=zC9 zQE
def zUU (n:Nat) (xs:List AV) (r:Ret):Prop:=∃ (a0:Nd) (a1:Int) (y0:Bool),zGd n a0 a1=some y0/\xs=[.agg ((Nd.enc a0).map .s),.s (.int .i64 a1)]/\r = .val (.s (.bool y0))
def zJS:zAq:=zAs fun xs r=>∃ n,zUU n xs r
theorem zKD:PSound Tryz.prog 28 zJS:=by
 have gok:∀ f s,look? f [(49,zNN)]=some s->PSound Tryz.prog f s:=zAo (by
  simp only[List.forall_mem_cons]
  exact⟨zSv,by simp⟩)
 refine zAr tokW Tryz.call28 Tryz.func28 rfl (fun xs r h=>by obtain⟨n,_,_,_,_,rfl,_⟩:=h; show 2<=9; decide) 9 rfl ?_;rintro xs r w0 G0 ⟨n,⟨n1A,n1C,n1D,n1B⟩,most2,y0,h,rfl,rfl⟩ _;rw[zGd]at h;refine zYV ?_;refine zYV ?_;obtain⟨y3,hy3,h⟩:=zAc h;refine⟨_,⟨_,_,_,_,hy3,rfl,rfl⟩,?_⟩
 refine zAe ?_;have hy:=osi h;subst hy;exact fin0 rfl rfl
def zA6 (p:(Int×List Nd×Int×List UInt8×Bool)):List S:=[.int .i64 p.1,.sl 4 (Nd.encs p.2.1),.int .i64 p.2.2.1,.str p.2.2.2.1,.bool p.2.2.2.2]
def zU0 (n:Nat) (xs:List AV) (r:Ret):Prop:=∃ (a0:(Int×List Nd×Int×List UInt8×Bool)) (y0:Bool),zId n a0=some y0/\xs=[.agg ((zA6 a0).map .s)]/\r = .val (.s (.bool y0))
def zQv:zAq:=zAs fun xs r=>∃ n,zU0 n xs r
theorem zUx:PSound Tryz.prog 26 zQv:=by
 have gok:∀ f s,look? f [(48,zCO),(28,zJS)]=some s->PSound Tryz.prog f s:=zAo (by
  simp only[List.forall_mem_cons]
  exact⟨zCN,zKD,by simp⟩)
 refine zAr tokW Tryz.call26 Tryz.func26 rfl (fun xs r h=>by obtain⟨n,_,_,_,rfl,_⟩:=h; show 1<=13; decide) 13 rfl ?_;rintro xs r w0 G0 ⟨n,⟨x1A,x1Ai,x1V,x1C,x1Bh⟩,y0,h,rfl,rfl⟩ _;rw[zId]at h;refine zYV ?_;refine zAa ?_;obtain⟨x2,hj,h⟩:=zAc h;refine zAm ⟨ofL [(2,.s (.bool x2))],fun _=>none,0⟩ ?_ (fun σ' hle=>?_)
 ·replace h:=hj;refine zAb [] [7] rfl ?_;obtain⟨⟨y3A,y3C,y3D,y3B⟩,hy3,h⟩:=zAc h;refine⟨_,⟨_,_,hy3,rfl,rfl⟩,?_⟩
  obtain⟨y4,hy4,h⟩:=zAc h;refine⟨_,⟨_,_,_,_,hy4,rfl,rfl⟩,?_⟩
  intro b hb;cases b with
  | true =>
   replace h:=zAu hb.symm h;cases h;exact(Le.forget _ ⟨rfl,trivial⟩)
  | false =>
   replace h:=zAt hb.symm h;cases h;exact(Le.forget _ ⟨rfl,trivial⟩)
 ·refine zAh hle ?_;refine zAe ?_;have hy:=osi h;subst hy;exact fin0 rfl rfl
def zUY (n:Nat) (xs:List AV) (r:Ret):Prop:=∃ (a0:zO8) (y0:Bool),zIa n a0=some y0/\xs=[.agg ((zAk a0).map .s)]/\r = .val (.s (.bool y0))
def zQs:zAq:=zAs fun xs r=>∃ n,zUY n xs r
theorem zUu:PSound Tryz.prog 27 zQs:=by
 have gok:∀ f s,look? f [(48,zCO),(28,zJS)]=some s->PSound Tryz.prog f s:=zAo (by
  simp only[List.forall_mem_cons]
  exact⟨zCN,zKD,by simp⟩)
 refine zAr tokW Tryz.call27 Tryz.func27 rfl (fun xs r h=>by obtain⟨n,_,_,_,rfl,_⟩:=h; show 1<=13; decide) 13 rfl ?_;rintro xs r w0 G0 ⟨n,⟨op1A,op1G,op1L,op1S,op1R,op1V,op1Ac,op1C⟩,y0,h,rfl,rfl⟩ _;rw[zIa]at h;refine zYV ?_;refine zAa ?_;obtain⟨x2,hj,h⟩:=zAc h;refine zAm ⟨ofL [(2,.s (.bool x2))],fun _=>none,0⟩ ?_ (fun σ' hle=>?_)
 ·replace h:=hj;refine zAb [] [7,10] rfl ?_;obtain⟨⟨y3A,y3C,y3D,y3B⟩,hy3,h⟩:=zAc h;refine⟨_,⟨_,_,hy3,rfl,rfl⟩,?_⟩
  obtain⟨y4,hy4,h⟩:=zAc h;refine⟨_,⟨_,_,_,_,hy4,rfl,rfl⟩,?_⟩
  intro b hb;cases b with
  | true =>
   replace h:=zAu hb.symm h;intro n5 hn5;obtain rfl:(op1G.length:Int)=n5:=(hn5.trans (congrArg (fun m:Nat=>(m:Int)) (rlen (fun _=>rfl) op1G))).symm;cases h;exact(Le.forget _ ⟨rfl,trivial⟩)
  | false =>
   replace h:=zAt hb.symm h;cases h;exact(Le.forget _ ⟨rfl,trivial⟩)
 ·refine zAh hle ?_;refine zAe ?_;have hy:=osi h;subst hy;exact fin0 rfl rfl
def zAn (p:(Int×zRc×zCu×(Int×List Nd×Int×List UInt8×Bool)×Int)):List S:=[.int .i64 p.1,.sl 8 ((List.map zAk) p.2.1.1),.sl 1 ((List.map (irow .i64)) p.2.1.2.1.1),.sl 1 ((List.map (irow .i64)) p.2.1.2.1.2),.sl 1 ((List.map (irow .i64)) p.2.1.2.2.1),.sl 1 ((List.map (irow .i64)) p.2.1.2.2.2),.sl 1 ((List.map (irow .i64)) p.2.2.1.1),.sl 1 ((List.map (irow .i64)) p.2.2.1.2),.int .i64 p.2.2.2.1.1,.sl 4 (Nd.encs p.2.2.2.1.2.1),.int .i64 p.2.2.2.1.2.2.1,.str p.2.2.2.1.2.2.2.1,.bool p.2.2.2.1.2.2.2.2,.int .i64 p.2.2.2.2]
def zUT (n:Nat) (xs:List AV) (r:Ret):Prop:=∃ (a0:Nd) (a1:List (Int×zRc×zCu×(Int×List Nd×Int×List UInt8×Bool)×Int)) (y0:Bool),zH9 n a0 a1=some y0/\xs=[.agg ((Nd.enc a0).map .s),.s (.sl 14 ((List.map zAn) a1))]/\r = .val (.s (.bool y0))
def zQq:zAq:=zAs fun xs r=>∃ n,zUT n xs r
theorem zUs:PSound Tryz.prog 8 zQq:=by
 have gok:∀ f s,look? f [(26,zQv),(27,zQs),(28,zJS)]=some s->PSound Tryz.prog f s:=zAo (by
  simp only[List.forall_mem_cons]
  exact⟨zUx,zUu,zKD,by simp⟩)
 refine zAr tokW Tryz.call8 Tryz.func8 rfl (fun xs r h=>by obtain⟨n,_,_,_,_,rfl,_⟩:=h; show 2<=73; decide) 73 rfl ?_;rintro xs r w0 G0 ⟨n,⟨a1A,a1C,a1D,a1B⟩,a2,y0,h,rfl,rfl⟩ _;rw[zH9]at h;refine zYV ?_;refine zAa ?_;refine zYf [] [9] rfl ?_;intro n3 hn3;obtain rfl:(a2.length:Int)=n3:=(hn3.trans (congrArg (fun m:Nat=>(m:Int)) (rlen (fun _=>rfl) a2))).symm;show Tri ..;obtain⟨fl,hl,ho1⟩:=zAc h
 refine zBA (fl:=fl) (fun z=>match z with | _=>⟨ofL [(1,.s (.sl 14 ((List.map zAn) a2))),(2,.s (.pt [.int .i64 a1A,.str a1C,.int .i64 a1D,.sl 4 (Nd.encs a1B)]))],fun _=>none,0⟩) ?_ (fun z σ' hz hle=>?_)
 ·refine zAl (zAy (X:=Nat×Int) (fun y=>match y with | (k,x4)=>⟨ofL [(1,.s (.sl 14 ((List.map zAn) a2))),(2,.s (.pt [.int .i64 a1A,.str a1C,.int .i64 a1D,.sl 4 (Nd.encs a1B)])),(9,.s (.int .i64 (a2.length:Int))),(10,.s (.int .i64 x4))],fun _=>none,0⟩) (fun y=>zCK n a2 y.1 y.2=some fl) (fun y=>y.1) (n,0) hl ?_ ?_)
  ·exact(Le.forget _ ⟨rfl,rfl,rfl,rfl,trivial⟩)
  ·rintro⟨k,x4⟩ h;cases k with
   | zero=>cases h
   | succ k =>
    replace h:zCK n a2 (k+1) x4=some fl:=h;rw[zCK]at h;refine zYV ?_;refine zAa ?_;refine zAg rfl h (fun hb h=>?_) (fun hb h=>?_)
    ·refine zAf ?_;refine zAa ?_;refine zAl ?_;refine zYV ?_;refine zAa ?_;refine zAa ?_;obtain⟨x5,hj,h⟩:=zAc h;refine zAm ⟨ofL [(1,.s (.sl 14 ((List.map zAn) a2))),(2,.s (.pt [.int .i64 a1A,.str a1C,.int .i64 a1D,.sl 4 (Nd.encs a1B)])),(5,.s (.int .i64 x4)),(9,.s (.int .i64 (a2.length:Int))),(10,.s (.int .i64 x4)),(49,.s (.bool x5))],fun _=>none,0⟩ ?_ (fun σ' hle=>?_)
     ·replace h:=hj;refine zAb [] [15,19,21,24,30,33,37,40,43,47] rfl ?_;obtain⟨⟨e6A,⟨e6Ar,⟨e6Bd,e6Be⟩,⟨e6Bf,e6Bg⟩⟩,⟨e6Aw,e6Ax⟩,⟨e6Ay,e6Az,e6Ba,e6Bb,e6Bc⟩,e6S⟩,he6,h⟩:=zAc h;refine And.intro (zAp (fun _=>rfl) he6).1 ?_;intro r7 hr7
      obtain rfl:[.int .i64 e6A,.sl 8 ((List.map zAk) e6Ar),.sl 1 ((List.map (irow .i64)) e6Bd),.sl 1 ((List.map (irow .i64)) e6Be),.sl 1 ((List.map (irow .i64)) e6Bf),.sl 1 ((List.map (irow .i64)) e6Bg),.sl 1 ((List.map (irow .i64)) e6Aw),.sl 1 ((List.map (irow .i64)) e6Ax),.int .i64 e6Ay,.sl 4 (Nd.encs e6Az),.int .i64 e6Ba,.str e6Bb,.bool e6Bc,.int .i64 e6S]=r7:=(hr7.trans (zAp (fun _=>rfl) he6).2.1).symm;intro n8 hn8
      obtain rfl:(e6Ar.length:Int)=n8:=(hn8.trans (congrArg (fun m:Nat=>(m:Int)) (rlen (fun _=>rfl) e6Ar))).symm;intro b hb;cases b with
      | true =>
       replace h:=zAu hb.symm h;intro b hb;subst hb;intro b hb;subst hb;cases h;exact(Le.forget _ ⟨rfl,rfl,rfl,rfl,rfl,rfl,trivial⟩)
      | false =>
       replace h:=zAt hb.symm h;obtain⟨⟨e9A,⟨e9Ar,⟨e9Bd,e9Be⟩,⟨e9Bf,e9Bg⟩⟩,⟨e9Aw,e9Ax⟩,⟨e9Ay,e9Az,e9Ba,e9Bb,e9Bc⟩,e9S⟩,he9,h⟩:=zAc h;refine And.intro (zAp (fun _=>rfl) he9).1 ?_;intro r10 hr10
       obtain rfl:[.int .i64 e9A,.sl 8 ((List.map zAk) e9Ar),.sl 1 ((List.map (irow .i64)) e9Bd),.sl 1 ((List.map (irow .i64)) e9Be),.sl 1 ((List.map (irow .i64)) e9Bf),.sl 1 ((List.map (irow .i64)) e9Bg),.sl 1 ((List.map (irow .i64)) e9Aw),.sl 1 ((List.map (irow .i64)) e9Ax),.int .i64 e9Ay,.sl 4 (Nd.encs e9Az),.int .i64 e9Ba,.str e9Bb,.bool e9Bc,.int .i64 e9S]=r10:=(hr10.trans (zAp (fun _=>rfl) he9).2.1).symm;obtain⟨y11,hy11,h⟩:=zAc h;refine⟨_,⟨_,_,_,hy11,rfl,rfl⟩,?_⟩
       intro b hb;cases b with
       | true =>
        replace h:=zAu hb.symm h;intro b hb;subst hb;cases h;exact(Le.forget _ ⟨rfl,rfl,rfl,rfl,rfl,rfl,trivial⟩)
       | false =>
        replace h:=zAt hb.symm h;obtain⟨⟨e12A,⟨e12Ar,⟨e12Bd,e12Be⟩,⟨e12Bf,e12Bg⟩⟩,⟨e12Aw,e12Ax⟩,⟨e12Ay,e12Az,e12Ba,e12Bb,e12Bc⟩,e12S⟩,he12,h⟩:=zAc h;refine And.intro (zAp (fun _=>rfl) he12).1 ?_;intro r13 hr13
        obtain rfl:[.int .i64 e12A,.sl 8 ((List.map zAk) e12Ar),.sl 1 ((List.map (irow .i64)) e12Bd),.sl 1 ((List.map (irow .i64)) e12Be),.sl 1 ((List.map (irow .i64)) e12Bf),.sl 1 ((List.map (irow .i64)) e12Bg),.sl 1 ((List.map (irow .i64)) e12Aw),.sl 1 ((List.map (irow .i64)) e12Ax),.int .i64 e12Ay,.sl 4 (Nd.encs e12Az),.int .i64 e12Ba,.str e12Bb,.bool e12Bc,.int .i64 e12S]=r13:=(hr13.trans (zAp (fun _=>rfl) he12).2.1).symm;intro n14 hn14
        obtain rfl:(e12Aw.length:Int)=n14:=(hn14.trans (congrArg (fun m:Nat=>(m:Int)) (rlen (fun _=>rfl) e12Aw))).symm;intro b hb;cases b with
        | true =>
         replace h:=zAu hb.symm h;cases h;exact(Le.forget _ ⟨rfl,rfl,rfl,rfl,rfl,rfl,trivial⟩)
        | false =>
         replace h:=zAt hb.symm h;obtain⟨⟨e15A,⟨e15Ar,⟨e15Bd,e15Be⟩,⟨e15Bf,e15Bg⟩⟩,⟨e15Aw,e15Ax⟩,⟨e15Ay,e15Az,e15Ba,e15Bb,e15Bc⟩,e15S⟩,he15,h⟩:=zAc h;refine And.intro (zAp (fun _=>rfl) he15).1 ?_;intro r16 hr16
         obtain rfl:[.int .i64 e15A,.sl 8 ((List.map zAk) e15Ar),.sl 1 ((List.map (irow .i64)) e15Bd),.sl 1 ((List.map (irow .i64)) e15Be),.sl 1 ((List.map (irow .i64)) e15Bf),.sl 1 ((List.map (irow .i64)) e15Bg),.sl 1 ((List.map (irow .i64)) e15Aw),.sl 1 ((List.map (irow .i64)) e15Ax),.int .i64 e15Ay,.sl 4 (Nd.encs e15Az),.int .i64 e15Ba,.str e15Bb,.bool e15Bc,.int .i64 e15S]=r16:=(hr16.trans (zAp (fun _=>rfl) he15).2.1).symm;intro n17 hn17
         obtain rfl:(e15Ax.length:Int)=n17:=(hn17.trans (congrArg (fun m:Nat=>(m:Int)) (rlen (fun _=>rfl) e15Ax))).symm;cases h;exact(Le.forget _ ⟨rfl,rfl,rfl,rfl,rfl,rfl,trivial⟩)
     ·refine zAh hle ?_;refine zAg rfl h (fun hb h=>?_) (fun hb h=>?_)
      ·refine zYV ?_;refine zAe ?_;cases h;replace h:some _=some _:=ho1;have hy:=osi h;subst hy;exact fin0 rfl rfl
      ·refine zAf ?_;refine zYf [] [52,56] rfl ?_;obtain⟨⟨e18A,⟨e18Ar,⟨e18Bd,e18Be⟩,⟨e18Bf,e18Bg⟩⟩,⟨e18Aw,e18Ax⟩,⟨e18Ay,e18Az,e18Ba,e18Bb,e18Bc⟩,e18S⟩,he18,h⟩:=zAc h;refine And.intro (zAp (fun _=>rfl) he18).1 ?_;intro r19 hr19
       obtain rfl:[.int .i64 e18A,.sl 8 ((List.map zAk) e18Ar),.sl 1 ((List.map (irow .i64)) e18Bd),.sl 1 ((List.map (irow .i64)) e18Be),.sl 1 ((List.map (irow .i64)) e18Bf),.sl 1 ((List.map (irow .i64)) e18Bg),.sl 1 ((List.map (irow .i64)) e18Aw),.sl 1 ((List.map (irow .i64)) e18Ax),.int .i64 e18Ay,.sl 4 (Nd.encs e18Az),.int .i64 e18Ba,.str e18Bb,.bool e18Bc,.int .i64 e18S]=r19:=(hr19.trans (zAp (fun _=>rfl) he18).2.1).symm;intro n20 hn20
       obtain rfl:(e18Ar.length:Int)=n20:=(hn20.trans (congrArg (fun m:Nat=>(m:Int)) (rlen (fun _=>rfl) e18Ar))).symm;show Tri ..;obtain⟨fl,hl,ho2⟩:=zAc h;refine zBA (fl:=fl) (fun z=>match z with | _=>⟨ofL [(1,.s (.sl 14 ((List.map zAn) a2))),(2,.s (.pt [.int .i64 a1A,.str a1C,.int .i64 a1D,.sl 4 (Nd.encs a1B)])),(9,.s (.int .i64 (a2.length:Int))),(10,.s (.int .i64 x4))],fun _=>none,0⟩) ?_ (fun z σ' hz hle=>?_)
       ·refine zAl (zAy (X:=Nat×Int) (fun y=>match y with | (k,x21)=>⟨ofL [(1,.s (.sl 14 ((List.map zAn) a2))),(2,.s (.pt [.int .i64 a1A,.str a1C,.int .i64 a1D,.sl 4 (Nd.encs a1B)])),(9,.s (.int .i64 (a2.length:Int))),(10,.s (.int .i64 x4)),(55,.s (.sl 8 ((List.map zAk) e18Ar))),(56,.s (.int .i64 (e18Ar.length:Int))),(57,.s (.int .i64 x21))],fun _=>none,0⟩) (fun y=>zDo n e18Ar y.1 y.2=some fl) (fun y=>y.1) (n,0) hl ?_ ?_)
        ·exact(Le.forget _ ⟨rfl,rfl,rfl,rfl,rfl,rfl,rfl,trivial⟩)
        ·rintro⟨k,x21⟩ h;cases k with
         | zero=>cases h
         | succ k =>
          replace h:zDo n e18Ar (k+1) x21=some fl:=h;rw[zDo]at h;refine zYV ?_;refine zAa ?_;refine zAg rfl h (fun hb h=>?_) (fun hb h=>?_)
          ·refine zAf ?_;refine zAa ?_;refine zAl ?_;refine zYf [7] [59] rfl ?_;obtain⟨⟨e22A,e22G,e22L,e22S,e22R,e22V,e22Ac,e22C⟩,he22,h⟩:=zAc h;refine And.intro (zAp (fun _=>rfl) he22).1 ?_;intro r23 hr23;obtain rfl:[.int .i64 e22A,.sl 1 ((List.map (irow .i64)) e22G),.int .i64 e22L,.int .i64 e22S,.sl 4 (Nd.encs e22R),.int .i64 e22V,.str e22Ac,.str e22C]=r23:=(hr23.trans (zAp (fun _=>rfl) he22).2.1).symm;show Tri ..
           refine zAh (Le.giveBox 0 [.int .i64 e22A,.sl 1 ((List.map (irow .i64)) e22G),.int .i64 e22L,.int .i64 e22S,.sl 4 (Nd.encs e22R),.int .i64 e22V,.str e22Ac,.str e22C] rfl rfl) ?_;refine zYV ?_;obtain⟨y24,hy24,h⟩:=zAc h;refine⟨_,⟨_,_,_,hy24,rfl,rfl⟩,?_⟩
           refine zAg rfl h (fun hb h=>?_) (fun hb h=>?_)
           ·refine zYV ?_;refine zAe ?_;cases h;replace h:some _=some _:=ho2;cases h;replace h:some _=some _:=ho1;have hy:=osi h;subst hy;exact fin0 rfl rfl
           ·refine zAf ?_;refine zYU ?_;refine⟨(k,IntKind.i64.wrap (x21+1)),h,(Le.rnm [] _ [] 0 ⟨rfl,rfl,rfl,rfl,rfl,rfl,rfl,trivial⟩ trivial),Nat.lt_succ_self k⟩
          ·refine zAC ?_;cases h;exact⟨_,rfl,(Le.forget _ ⟨rfl,rfl,rfl,rfl,trivial⟩)⟩
       ·subst hz;obtain _:=z;replace h:=ho2;refine zAh hle ?_;refine zYU ?_;refine⟨(k,IntKind.i64.wrap (x4+1)),h,(Le.forget _ ⟨rfl,rfl,rfl,rfl,trivial⟩),Nat.lt_succ_self k⟩
    ·refine zAC ?_;cases h;exact⟨_,rfl,(Le.forget _ ⟨rfl,rfl,trivial⟩)⟩
 ·subst hz;obtain _:=z;replace h:=ho1;refine zAh hle ?_;refine zAa ?_;obtain⟨x25,hj,h⟩:=zAc h;refine zAm ⟨ofL [(4,.s (.bool x25))],fun _=>none,0⟩ ?_ (fun σ' hle=>?_)
  ·replace h:=hj;refine zAb [] [68,70] rfl ?_;obtain⟨y26,hy26,h⟩:=zAc h;refine⟨_,⟨_,_,_,_,hy26,rfl,rfl⟩,?_⟩
   intro b hb;cases b with
   | true =>
    replace h:=zAu hb.symm h;intro n27 hn27;obtain rfl:(a2.length:Int)=n27:=(hn27.trans (congrArg (fun m:Nat=>(m:Int)) (rlen (fun _=>rfl) a2))).symm;cases h;exact(Le.forget _ ⟨rfl,trivial⟩)
   | false =>
    replace h:=zAt hb.symm h;cases h;exact(Le.forget _ ⟨rfl,trivial⟩)
  ·refine zAh hle ?_;refine zAe ?_;have hy:=osi h;subst hy;exact fin0 rfl rfl
def zLy (n:Nat) (xs:List AV) (r:Ret):Prop:=∃ (a0:List Nd) (y0:Bool),zBR n a0=some y0/\xs=[.s (.sl 4 (Nd.encs a0))]/\r = .val (.s (.bool y0))
def zD6:zAq:=zAs fun xs r=>∃ n,zLy n xs r
theorem zEX:PSound Tryz.prog 70 zD6:=by
 have gok:∀ f s,look? f [(48,zCO),(25,zCy)]=some s->PSound Tryz.prog f s:=zAo (by
  simp only[List.forall_mem_cons]
  exact⟨zCN,zCv,by simp⟩)
 refine zAr tokW Tryz.call70 Tryz.func70 rfl (fun xs r h=>by obtain⟨n,_,_,_,rfl,_⟩:=h; show 1<=6; decide) 6 rfl ?_;rintro xs r w0 G0 ⟨n,l1,y0,h,rfl,rfl⟩ _;rw[zBR]at h;refine zYV ?_;refine zYV ?_;obtain⟨⟨y2A,y2C,y2D,y2B⟩,hy2,h⟩:=zAc h;refine⟨_,⟨_,_,hy2,rfl,rfl⟩,?_⟩
 obtain⟨y3,hy3,h⟩:=zAc h;refine⟨_,⟨_,_,_,hy3,rfl,rfl⟩,?_⟩
 refine zAe ?_;have hy:=osi h;subst hy;exact fin0 rfl rfl
def zBb (p:List Int):List S:=[.sl 1 ((List.map (irow .i64)) p)]
def zHP (n:Nat) (xs:List AV) (r:Ret):Prop:=∃ (a0:Nd) (a1:List Int) (y0:List (List Int)),zDt n a0 a1=some y0/\xs=[.agg ((Nd.enc a0).map .s),.s (.sl 1 ((List.map (irow .i64)) a1))]/\r = .row 27 1 ((List.map zBb) y0)
theorem zSS {α:Type}{a b:α} (h:a=b:=by simp[List.map_append,List.map_take,List.map_drop,irow,brow,zEw,List.map_cons,List.map_nil,zD1,Nd.encs_eq,Nd.enc,zA4,zAK,zBy,zAI,zAG,zAk,zAd,zBD,zAz,zA6,zAn,zBb]):a=b :=
 h
theorem zRH (n:Nat) (ih:PSound Tryz.prog 152 (zAs (zHP n))):PSound Tryz.prog 152 (zAs (zHP (n+1))):=by
 have gok:∀ f s,look? f [(152,zAs (zHP n))]=some s->PSound Tryz.prog f s:=zAo (by
  simp only[List.forall_mem_cons]
  exact⟨ih,by simp⟩)
 refine zAr tokW Tryz.call152 Tryz.func152 rfl (fun xs r h=>by obtain⟨_,_,_,_,rfl,_⟩:=h; show 2<=60; decide) 60 rfl ?_;rintro xs r w0 G0 ⟨⟨row1A,row1C,row1D,row1B⟩,path2,y0,h,rfl,rfl⟩ _;rw[zDt]at h;refine zYf [4] [] rfl ?_;refine zAh (Le.rnm [] [(1,.s (.sl 1 ((List.map (irow .i64)) path2))),(2,.s (.pt [.int .i64 row1A,.str row1C,.int .i64 row1D,.sl 4 (Nd.encs row1B)]))] [] 0 ⟨rfl,rfl,trivial⟩ trivial) ?_;refine zYf [5] [] rfl ?_;show Tri ..
 refine zAh (Le.rnm [(0,0)] [(1,.s (.sl 1 ((List.map (irow .i64)) path2))),(2,.s (.pt [.int .i64 row1A,.str row1C,.int .i64 row1D,.sl 4 (Nd.encs row1B)])),(5,.orow 0)] [(0,.row 27 1 ((List.map zBb) []))] 1 ⟨rfl,rfl,rfl,trivial⟩ ⟨rfl,⟨_,rfl,congrArg (Ob.row 27 1) zSS⟩,trivial⟩) ?_;refine zAa ?_
 refine zYV ?_;show Tri ..;obtain⟨l6,hl,h⟩:=zAc h;refine zAm ⟨ofL [(5,.orow 0)],ofH [(0,.row 27 1 ((List.map zBb) l6))],1⟩ ?_ (fun σ' hle=>?_)
 ·refine zAl (zAy (X:=Nat×Int×(List (List Int))) (fun y=>match y with | (k,i4,l5)=>⟨ofL [(1,.s (.sl 1 ((List.map (irow .i64)) path2))),(2,.s (.pt [.int .i64 row1A,.str row1C,.int .i64 row1D,.sl 4 (Nd.encs row1B)])),(5,.orow 0),(6,.s (.int .i64 i4))],ofH [(0,.row 27 1 ((List.map zBb) l5))],1⟩) (fun y=>zDu (zDt n) n row1B path2 y.1 y.2.1 y.2.2=some l6) (fun y=>y.1) (n,0,[]) hl ?_ ?_)
  ·exact(Le.rnm [(0,0)] _ _ _ ⟨rfl,rfl,rfl,rfl,trivial⟩ ⟨rfl,⟨_,rfl,rfl⟩,trivial⟩)
  ·rintro⟨k,i4,l5⟩ h;cases k with
   | zero=>cases h
   | succ k =>
    replace h:zDu (zDt n) n row1B path2 (k+1) i4 l5=some l6:=h;rw[zDu]at h;refine zAa ?_;refine zYf [] [11] rfl ?_;intro n7 hn7;obtain rfl:(row1B.length:Int)=n7:=(hn7.trans (congrArg (fun m:Nat=>(m:Int)) (rlen Nd.encs_eq row1B))).symm;refine zAg rfl h (fun hb h=>?_) (fun hb h=>?_)
    ·refine zAf ?_;refine zAa ?_;refine zAl ?_;refine zAa ?_;refine zAh (Le.toA 0 rfl) ?_;obtain⟨y9,hy9,h⟩:=zAc h;obtain⟨hqp,hyq⟩:=zAw hy9;replace hyq:=osi hyq;rw[List.length_singleton]at hqp;refine zAb [16,18,21,22,23] [20] rfl ?_;refine And.intro (show((0:Nat)+((List.map (irow .i64)) path2).length) * 8<=140737488355328/\(0:Nat)+((List.map (irow .i64)) path2).length<=9223372036854775807 by rw[List.length_map]; omega) ?_;intro r8 hr8;have hl1:r8.length=1:=by rw[hr8]; rfl
     refine And.intro (show(([]++((List.map (irow .i64)) path2)).length+r8.length) * 8<=140737488355328/\([]++((List.map (irow .i64)) path2)).length+r8.length<=9223372036854775807 by rw[hl1,List.nil_append,List.length_map]; omega) ?_
     clear hl1
     obtain rfl:(List.map (irow .i64)) [i4]=r8:=(hr8.trans zSS).symm;obtain⟨hq,h⟩:=zAw h
     refine And.intro (show((((List.map zBb) l5).map (·.map AV.s)).length+1) * 24<=140737488355328/\(((List.map zBb) l5).map (·.map AV.s)).length+1<=9223372036854775807 by rw[List.length_map,List.length_map]; simp only[List.length_cons,List.length_nil]at hq; omega) ?_;refine zAh (Le.giveRow 3 rfl) ?_;refine zAh (Le.ofA 5 ((List.map zBb) (l5++[y9])) rfl (by rw[← hyq,List.map_append,List.map_append,zUh]; exact zKl (zTF _) (show some [[S.sl 1 ([]++(List.map (irow .i64)) path2++(List.map (irow .i64)) [i4])]]=some ((List.map zBb) [path2++[i4]]) by simp[zBb]))) ?_
     refine zAh (Le.rnm [(5,0)] [(1,.s (.sl 1 ((List.map (irow .i64)) path2))),(2,.s (.pt [.int .i64 row1A,.str row1C,.int .i64 row1D,.sl 4 (Nd.encs row1B)])),(5,.orow 0),(6,.s (.int .i64 i4))] [(0,.row 27 1 ((List.map zBb) (l5++[y9])))] 1 ⟨rfl,rfl,rfl,rfl,trivial⟩ ⟨rfl,⟨_,rfl,congrArg (Ob.row 27 1) zSS⟩,trivial⟩) ?_
     refine zAa ?_;refine zYf [] [27] rfl ?_;intro n11 hn11;obtain rfl:(row1B.length:Int)=n11:=(hn11.trans (congrArg (fun m:Nat=>(m:Int)) (rlen Nd.encs_eq row1B))).symm;refine zAg rfl h (fun hb h=>?_) (fun hb h=>?_)
     ·refine zAC ?_;cases h;exact(Le.rnm [(0,0)] _ _ _ ⟨rfl,trivial⟩ ⟨rfl,⟨_,rfl,rfl⟩,trivial⟩)
     ·refine zAf ?_;refine zYV ?_;show Tri ..;obtain⟨l15,hl,h⟩:=zAc h;refine zAm ⟨ofL [(1,.s (.sl 1 ((List.map (irow .i64)) path2))),(2,.s (.pt [.int .i64 row1A,.str row1C,.int .i64 row1D,.sl 4 (Nd.encs row1B)])),(5,.orow 0),(6,.s (.int .i64 i4))],ofH [(0,.row 27 1 ((List.map zBb) l15))],1⟩ ?_ (fun σ' hle=>?_)
      ·refine zAl (zAy (X:=Nat×Int×(List (List Int))) (fun y=>match y with | (k,k13,l14)=>⟨ofL [(1,.s (.sl 1 ((List.map (irow .i64)) path2))),(2,.s (.pt [.int .i64 row1A,.str row1C,.int .i64 row1D,.sl 4 (Nd.encs row1B)])),(5,.orow 0),(6,.s (.int .i64 i4)),(7,.s (.int .i64 k13))],ofH [(0,.row 27 1 ((List.map zBb) l14))],1⟩) (fun y=>zDv (zDt n) row1B path2 i4 y.1 y.2.1 y.2.2=some l15) (fun y=>y.1) (n,0,l5++[y9]) hl ?_ ?_)
       ·exact(Le.rnm [(0,0)] _ _ _ ⟨rfl,rfl,rfl,rfl,rfl,trivial⟩ ⟨rfl,⟨_,rfl,rfl⟩,trivial⟩)
       ·rintro⟨k,k13,l14⟩ h;cases k with
        | zero=>cases h
        | succ k =>
         replace h:zDv (zDt n) row1B path2 i4 (k+1) k13 l14=some l15:=h;rw[zDv]at h;refine zAa ?_;refine zYf [] [33,36] rfl ?_;obtain⟨⟨e16A,e16C,e16D,e16B⟩,he16,h⟩:=zAc h;refine And.intro (zAp Nd.encs_eq he16).1 ?_;intro r17 hr17;obtain rfl:[.int .i64 e16A,.str e16C,.int .i64 e16D,.sl 4 (Nd.encs e16B)]=r17:=(hr17.trans (zAp Nd.encs_eq he16).2.1).symm;intro n18 hn18;obtain rfl:(e16B.length:Int)=n18:=(hn18.trans (congrArg (fun m:Nat=>(m:Int)) (rlen Nd.encs_eq e16B))).symm;refine zAg rfl h (fun hb h=>?_) (fun hb h=>?_)
         ·refine zAf ?_;refine zAa ?_;refine zAl ?_;refine zCi [50,52,56,58] [44,48,55] [10,12,16,17,18] [] rfl (by decide +kernel) ?_;obtain⟨⟨e19A,e19C,e19D,e19B⟩,he19,h⟩:=zAc h;refine And.intro (zAp Nd.encs_eq he19).1 ?_;intro r20 hr20;obtain rfl:[.int .i64 e19A,.str e19C,.int .i64 e19D,.sl 4 (Nd.encs e19B)]=r20:=(hr20.trans (zAp Nd.encs_eq he19).2.1).symm;obtain⟨⟨e21A,e21C,e21D,e21B⟩,he21,h⟩:=zAc h;refine And.intro (zAp Nd.encs_eq he21).1 ?_;intro r22 hr22
          obtain rfl:[.int .i64 e21A,.str e21C,.int .i64 e21D,.sl 4 (Nd.encs e21B)]=r22:=(hr22.trans (zAp Nd.encs_eq he21).2.1).symm;obtain⟨hq,h⟩:=zAw h;refine And.intro (show(([]:List (List S)).length+((List.map (irow .i64)) path2).length) * 8<=140737488355328/\([]:List (List S)).length+((List.map (irow .i64)) path2).length<=9223372036854775807 from by simp only[List.length_append,List.length_cons,List.length_nil,List.length_map,rlen (fun _=>rfl)]at hq ⊢; omega) ?_;intro r23 hr23;have hl2:r23.length=2 :=(by rw[hr23]; rfl);obtain⟨hq,h⟩:=zAw h
          refine And.intro (show((([]:List (List S))++((List.map (irow .i64)) path2)).length+r23.length) * 8<=140737488355328/\(([]:List (List S))++((List.map (irow .i64)) path2)).length+r23.length<=9223372036854775807 from by rw[hl2]; simp only[List.length_append,List.length_cons,List.length_nil,List.length_map]at hq ⊢; omega) ?_
          clear hl2
          obtain rfl:(List.map (irow .i64)) [i4,k13]=r23:=(hr23.trans zSS).symm;obtain⟨y24,hy24,h⟩:=zAc h
          refine⟨_,⟨_,_,_,hy24,(congrArg (fun r=>[(AV.agg [.s (.int .i64 e21A),.s (.str e21C),.s (.int .i64 e21D),.s (.sl 4 (Nd.encs e21B))]),AV.s (.sl 1 r)]) (show([]++((List.map (irow .i64)) path2))++((List.map (irow .i64)) [i4,k13])=(List.map (irow .i64)) (path2++[i4,k13]) from zSS)),rfl⟩,?_⟩
          obtain⟨hq,h⟩:=zAw h;refine And.intro (show(((List.map zBb) l14).length+((List.map zBb) y24).length) * 24<=140737488355328/\((List.map zBb) l14).length+((List.map zBb) y24).length<=9223372036854775807 from by simp only[List.length_append,List.length_cons,List.length_nil,List.length_map,rlen (fun _=>rfl)]at hq ⊢; omega) ?_;show Tri ..
          refine zAh (Le.rnm [(4,0)] [(1,.s (.sl 1 ((List.map (irow .i64)) path2))),(2,.s (.pt [.int .i64 row1A,.str row1C,.int .i64 row1D,.sl 4 (Nd.encs row1B)])),(5,.orow 0),(6,.s (.int .i64 i4)),(7,.s (.int .i64 k13))] [(0,.row 27 1 ((List.map zBb) (l14++y24)))] 1 ⟨rfl,rfl,rfl,rfl,rfl,trivial⟩ ⟨rfl,⟨_,rfl,congrArg (Ob.row 27 1) zSS⟩,trivial⟩) ?_
          refine zYU ?_;refine⟨(k,IntKind.i64.wrap (k13+1),l14++y24),h,(Le.rnm [(0,0)] _ _ _ ⟨rfl,rfl,rfl,rfl,rfl,trivial⟩ ⟨rfl,⟨_,rfl,rfl⟩,trivial⟩),Nat.lt_succ_self k⟩
         ·refine zAC ?_;cases h;exact(Le.rnm [(0,0)] _ _ _ ⟨rfl,rfl,rfl,rfl,trivial⟩ ⟨rfl,⟨_,rfl,rfl⟩,trivial⟩)
      ·refine zAh hle ?_;refine zYU ?_;refine⟨(k,IntKind.i64.wrap (i4+1),l15),h,(Le.rnm [(0,0)] _ _ _ ⟨rfl,rfl,rfl,rfl,trivial⟩ ⟨rfl,⟨_,rfl,rfl⟩,trivial⟩),Nat.lt_succ_self k⟩
    ·refine zAC ?_;cases h;exact(Le.rnm [(0,0)] _ _ _ ⟨rfl,trivial⟩ ⟨rfl,⟨_,rfl,rfl⟩,trivial⟩)
 ·refine zAh hle ?_;refine zYV ?_;refine zAe ?_;have hy:=osi h;subst hy;unfold zBC;exact⟨_,Le.refl _ _,0,rfl,rfl⟩
theorem zR9:∀ n,PSound Tryz.prog 152 (zAs (zHP n)):=by
 intro n
 induction n with
 | zero=>exact zCC Tryz.call152 (fun xs r h=>by obtain⟨_,_,_,h,_⟩:=h; cases h)
 | succ n ih=>exact zRH n ih
def zQr:zAq:=zAs fun xs r=>∃ n,zHP n xs r
theorem zUt:PSound Tryz.prog 152 zQr:=zC9 zR9
def zUX (n:Nat) (xs:List AV) (r:Ret):Prop:=∃ (a0:Nd) (y0:List (List Int)) (y1:Int),zG8 n a0=some (y0,y1)/\xs=[.agg ((Nd.enc a0).map .s)]/\r = .val (.tup [.s (.sl 1 ((List.map zBb) y0)),.s (.int .i64 y1)])
def zL4:zAq:=zAs fun xs r=>∃ n,zUX n xs r
theorem zOl:PSound Tryz.prog 139 zL4:=by
 have gok:∀ f s,look? f [(25,zCy),(152,zQr)]=some s->PSound Tryz.prog f s:=zAo (by
  simp only[List.forall_mem_cons]
  exact⟨zCv,zUt,by simp⟩)
 refine zAr tokW Tryz.call139 Tryz.func139 rfl (fun xs r h=>by obtain⟨n,_,_,_,_,rfl,_⟩:=h; show 1<=9; decide) 9 rfl ?_;rintro xs r w0 G0 ⟨n,⟨n1A,n1C,n1D,n1B⟩,y0,y1,h,rfl,rfl⟩ _;rw[zG8]at h;refine zYV ?_;refine zAa ?_;refine zYV ?_;obtain⟨y2,hy2,h⟩:=zAc h;refine⟨_,⟨_,_,_,hy2,rfl,rfl⟩,?_⟩
 refine zAg rfl h (fun hb h=>?_) (fun hb h=>?_)
 ·refine zYV ?_;refine zAe ?_;obtain⟨hj1,hk1⟩:=pij h;subst hj1 hk1;exact fin0 rfl rfl
 ·refine zAf ?_;refine zYV ?_;obtain⟨y3,hy3,h⟩:=zAc h;refine⟨_,⟨_,_,_,_,hy3,rfl,rfl⟩,?_⟩
  refine zAe ?_;obtain⟨hj1,hk1⟩:=pij h;subst hj1 hk1;exact fin0 rfl rfl
def zOU (n:Nat) (xs:List AV) (r:Ret):Prop:=∃ (a0:List Int) (a1:List Int) (y0:Int),zDN n a0 a1=some y0/\xs=[.s (.sl 1 ((List.map (irow .i64)) a0)),.s (.sl 1 ((List.map (irow .i64)) a1))]/\r = .val (.s (.int .i64 y0))
def zHo:zAq:=zAs fun xs r=>∃ n,zOU n xs r
theorem zJb:PSound Tryz.prog 63 zHo:=by
 have gok:=@gok0 Tryz.prog;refine zAr tokW Tryz.call63 Tryz.func63 rfl (fun xs r h=>by obtain⟨n,_,_,_,_,rfl,_⟩:=h; show 2<=48; decide) 48 rfl ?_;rintro xs r w0 G0 ⟨n,a1,b2,y0,h,rfl,rfl⟩ _;rw[zDN]at h;refine zYV ?_;refine zAa ?_;refine zYV ?_;show Tri ..;obtain⟨fl,hl,ho1⟩:=zAc h;refine zBA (fl:=fl) (fun z=>match z with | _=>⟨ofL [(0,.s (.sl 1 ((List.map (irow .i64)) a1))),(1,.s (.sl 1 ((List.map (irow .i64)) b2)))],fun _=>none,0⟩) ?_ (fun z σ' hz hle=>?_)
 ·refine zAl (zAy (X:=Nat×Int) (fun y=>match y with | (k,i3)=>⟨ofL [(0,.s (.sl 1 ((List.map (irow .i64)) a1))),(1,.s (.sl 1 ((List.map (irow .i64)) b2))),(5,.s (.int .i64 i3))],fun _=>none,0⟩) (fun y=>zBS a1 b2 y.1 y.2=some fl) (fun y=>y.1) (n,0) hl ?_ ?_)
  ·exact(Le.forget _ ⟨rfl,rfl,rfl,trivial⟩)
  ·rintro⟨k,i3⟩ h;cases k with
   | zero=>cases h
   | succ k =>
    replace h:zBS a1 b2 (k+1) i3=some fl:=h;rw[zBS]at h;refine zAa ?_;refine zAa ?_;obtain⟨x4,hj,h⟩:=zAc h;refine zAm ⟨ofL [(0,.s (.sl 1 ((List.map (irow .i64)) a1))),(1,.s (.sl 1 ((List.map (irow .i64)) b2))),(5,.s (.int .i64 i3)),(15,.s (.bool x4))],fun _=>none,0⟩ ?_ (fun σ' hle=>?_)
    ·replace h:=hj;refine zAb [] [8,10,13] rfl ?_;intro n5 hn5;obtain rfl:(a1.length:Int)=n5:=(hn5.trans (congrArg (fun m:Nat=>(m:Int)) (rlen (fun _=>rfl) a1))).symm;intro b hb;cases b with
     | true =>
      replace h:=zAu hb.symm h;intro n6 hn6;obtain rfl:(b2.length:Int)=n6:=(hn6.trans (congrArg (fun m:Nat=>(m:Int)) (rlen (fun _=>rfl) b2))).symm;cases h;exact(Le.forget _ ⟨rfl,rfl,rfl,rfl,trivial⟩)
     | false =>
      replace h:=zAt hb.symm h;cases h;exact(Le.forget _ ⟨rfl,rfl,rfl,rfl,trivial⟩)
    ·refine zAh hle ?_;refine zAg rfl h (fun hb h=>?_) (fun hb h=>?_)
     ·refine zAf ?_;refine zAa ?_;refine zAl ?_;refine zAa ?_;refine zAa ?_;refine zAA [] [20,24] [] rfl (by decide +kernel) ?_;obtain⟨e7,he7,h⟩:=zAc h;refine And.intro (zAp (fun _=>rfl) he7).1 ?_;intro r8 hr8;obtain rfl:[.int .i64 e7]=r8:=(hr8.trans (zAp (fun _=>rfl) he7).2.1).symm;obtain⟨e9,he9,h⟩:=zAc h;refine And.intro (zAp (fun _=>rfl) he9).1 ?_;intro r10 hr10;obtain rfl:[.int .i64 e9]=r10:=(hr10.trans (zAp (fun _=>rfl) he9).2.1).symm;refine zAg rfl h (fun hb h=>?_) (fun hb h=>?_)
      ·refine zYV ?_;refine zAe ?_;cases h;replace h:some _=some _:=ho1;have hy:=osi h;subst hy;exact fin0 rfl rfl
      ·refine zAf ?_;refine zAa ?_;refine zAA [] [29,33] [] rfl (by decide +kernel) ?_;obtain⟨e11,he11,h⟩:=zAc h;refine And.intro (zAp (fun _=>rfl) he11).1 ?_;intro r12 hr12;obtain rfl:[.int .i64 e11]=r12:=(hr12.trans (zAp (fun _=>rfl) he11).2.1).symm;obtain⟨e13,he13,h⟩:=zAc h;refine And.intro (zAp (fun _=>rfl) he13).1 ?_;intro r14 hr14;obtain rfl:[.int .i64 e13]=r14:=(hr14.trans (zAp (fun _=>rfl) he13).2.1).symm;refine zAg rfl h (fun hb h=>?_) (fun hb h=>?_)
       ·refine zYV ?_;refine zAe ?_;cases h;replace h:some _=some _:=ho1;have hy:=osi h;subst hy;exact fin0 rfl rfl
       ·refine zAf ?_;refine zYU ?_;refine⟨(k,IntKind.i64.wrap (i3+1)),h,(Le.forget _ ⟨rfl,rfl,rfl,trivial⟩),Nat.lt_succ_self k⟩
     ·refine zAC ?_;cases h;exact⟨_,rfl,(Le.forget _ ⟨rfl,rfl,trivial⟩)⟩
 ·subst hz;obtain _:=z;replace h:=ho1;refine zAh hle ?_;refine zAa ?_;refine zAl ?_;refine zYf [] [38,40] rfl ?_;intro n15 hn15;obtain rfl:(a1.length:Int)=n15:=(hn15.trans (congrArg (fun m:Nat=>(m:Int)) (rlen (fun _=>rfl) a1))).symm;intro n16 hn16;obtain rfl:(b2.length:Int)=n16:=(hn16.trans (congrArg (fun m:Nat=>(m:Int)) (rlen (fun _=>rfl) b2))).symm;refine zAg rfl h (fun hb h=>?_) (fun hb h=>?_)
  ·refine zYV ?_;refine zAe ?_;have hy:=osi h;subst hy;exact fin0 rfl rfl
  ·refine zYf [] [44,46] rfl ?_;intro n17 hn17;obtain rfl:(a1.length:Int)=n17:=(hn17.trans (congrArg (fun m:Nat=>(m:Int)) (rlen (fun _=>rfl) a1))).symm;intro n18 hn18;obtain rfl:(b2.length:Int)=n18:=(hn18.trans (congrArg (fun m:Nat=>(m:Int)) (rlen (fun _=>rfl) b2))).symm;refine zAg rfl h (fun hb h=>?_) (fun hb h=>?_)
   ·refine zYV ?_;refine zAe ?_;have hy:=osi h;subst hy;exact fin0 rfl rfl
   ·refine zAf ?_;refine zYV ?_;refine zAe ?_;have hy:=osi h;subst hy;exact fin0 rfl rfl
def zRY (n:Nat) (xs:List AV) (r:Ret):Prop:=∃ (a0:Nd) (a1:List Int) (y0:Int) (y1:Int),zD7 n a0 a1=some (y0,y1)/\xs=[.agg ((Nd.enc a0).map .s),.s (.sl 1 ((List.map (irow .i64)) a1))]/\r = .val (.tup [.s (.int .i64 y0),.s (.int .i64 y1)])
def zJn:zAq:=zAs fun xs r=>∃ n,zRY n xs r
theorem zLh:PSound Tryz.prog 110 zJn:=by
 have gok:∀ f s,look? f [(139,zL4),(63,zHo)]=some s->PSound Tryz.prog f s:=zAo (by
  simp only[List.forall_mem_cons]
  exact⟨zOl,zJb,by simp⟩)
 refine zAr tokW Tryz.call110 Tryz.func110 rfl (fun xs r h=>by obtain⟨n,_,_,_,_,_,rfl,_⟩:=h; show 2<=31; decide) 31 rfl ?_;rintro xs r w0 G0 ⟨n,⟨n1A,n1C,n1D,n1B⟩,pos2,y0,y1,h,rfl,rfl⟩ _;rw[zD7]at h;refine zYV ?_;refine zYV ?_;obtain⟨⟨y3,y4⟩,hy3,h⟩:=zAc h;refine⟨_,⟨_,_,_,_,hy3,rfl,rfl⟩,?_⟩
 refine zAa ?_;refine zYV ?_;refine zAg rfl h (fun hb h=>?_) (fun hb h=>?_)
 ·refine zYV ?_;refine zAe ?_;obtain⟨hj1,hk1⟩:=pij h;subst hj1 hk1;exact fin0 rfl rfl
 ·refine zAf ?_;refine zAa ?_;refine zYV ?_;show Tri ..;obtain⟨fl,hl,ho1⟩:=zAc h;refine zBA (fl:=fl) (fun z=>match z with | _=>⟨ofL [],fun _=>none,0⟩) ?_ (fun z σ' hz hle=>?_)
  ·refine zAl (zAy (X:=Nat×Int) (fun y=>match y with | (k,i5)=>⟨ofL [(1,.s (.sl 1 ((List.map (irow .i64)) pos2))),(6,.s (.sl 1 ((List.map zBb) y3))),(8,.s (.int .i64 i5))],fun _=>none,0⟩) (fun y=>zCB n pos2 y3 y.1 y.2=some fl) (fun y=>y.1) (n,0) hl ?_ ?_)
   ·exact(Le.forget _ ⟨rfl,rfl,rfl,trivial⟩)
   ·rintro⟨k,i5⟩ h;cases k with
    | zero=>cases h
    | succ k =>
     replace h:zCB n pos2 y3 (k+1) i5=some fl:=h;rw[zCB]at h;refine zAa ?_;refine zYf [] [19] rfl ?_;intro n6 hn6;obtain rfl:(y3.length:Int)=n6:=(hn6.trans (congrArg (fun m:Nat=>(m:Int)) (rlen (fun _=>rfl) y3))).symm;refine zAg rfl h (fun hb h=>?_) (fun hb h=>?_)
     ·refine zAf ?_;refine zAa ?_;refine zAl ?_;refine zYf [] [25] rfl ?_;obtain⟨e7,he7,h⟩:=zAc h;refine And.intro (zAp (fun _=>rfl) he7).1 ?_;intro r8 hr8;obtain rfl:[.sl 1 ((List.map (irow .i64)) e7)]=r8:=(hr8.trans (zAp (fun _=>rfl) he7).2.1).symm;obtain⟨y9,hy9,h⟩:=zAc h;refine⟨_,⟨_,_,_,_,hy9,rfl,rfl⟩,?_⟩
      refine zAg rfl h (fun hb h=>?_) (fun hb h=>?_)
      ·refine zYV ?_;refine zAe ?_;cases h;replace h:some _=some _:=ho1;obtain⟨hj1,hk1⟩:=pij h;subst hj1 hk1;exact fin0 rfl rfl
      ·refine zAf ?_;refine zYU ?_;refine⟨(k,IntKind.i64.wrap (i5+1)),h,(Le.forget _ ⟨rfl,rfl,rfl,trivial⟩),Nat.lt_succ_self k⟩
     ·refine zAC ?_;cases h;exact⟨_,rfl,(Le.forget _ trivial)⟩
  ·subst hz;obtain _:=z;replace h:=ho1;refine zAh hle ?_;refine zYV ?_;refine zAe ?_;obtain⟨hj1,hk1⟩:=pij h;subst hj1 hk1;exact fin0 rfl rfl
def zRZ (n:Nat) (xs:List AV) (r:Ret):Prop:=∃ (a0:Nd) (a1:List Int) (y0:Bool),zES n a0 a1=some y0/\xs=[.agg ((Nd.enc a0).map .s),.s (.sl 1 ((List.map (irow .i64)) a1))]/\r = .val (.s (.bool y0))
def zL5:zAq:=zAs fun xs r=>∃ n,zRZ n xs r
theorem zRl:PSound Tryz.prog 150 zL5:=by
 have gok:∀ f s,look? f [(110,zJn)]=some s->PSound Tryz.prog f s:=zAo (by
  simp only[List.forall_mem_cons]
  exact⟨zLh,by simp⟩)
 refine zAr tokW Tryz.call150 Tryz.func150 rfl (fun xs r h=>by obtain⟨n,_,_,_,_,rfl,_⟩:=h; show 2<=15; decide) 15 rfl ?_;rintro xs r w0 G0 ⟨n,⟨n1A,n1C,n1D,n1B⟩,pos2,y0,h,rfl,rfl⟩ _;rw[zES]at h;refine zYV ?_;refine zYV ?_;obtain⟨⟨y3,y4⟩,hy3,h⟩:=zAc h;refine⟨_,⟨_,_,_,_,_,hy3,rfl,rfl⟩,?_⟩
 refine zYV ?_;refine zAe ?_;have hy:=osi h;subst hy;exact fin0 rfl rfl
def zTU (xs:List AV) (r:Ret):Prop:=∃ (a0:List Int) (a1:Int) (y0:Int) (y1:Int),zFQ a0 a1=some (y0,y1)/\xs=[.s (.sl 1 ((List.map (irow .i64)) a0)),.s (.int .i64 a1)]/\r = .val (.tup [.s (.int .i64 y0),.s (.int .i64 y1)])
def zNR:zAq:=zAs fun xs r=>zTU xs r
theorem zSz:PSound Tryz.prog 151 zNR:=by
 have gok:=@gok0 Tryz.prog;refine zAr tokW Tryz.call151 Tryz.func151 rfl (fun xs r h=>by obtain⟨_,_,_,_,_,rfl,_⟩:=h; show 2<=28; decide) 28 rfl ?_;rintro xs r w0 G0 ⟨pos1,k2,y0,y1,h,rfl,rfl⟩ _;rw[zFQ]at h;refine zYV ?_;refine zAa ?_;refine zYf [] [7] rfl ?_;intro n3 hn3;obtain rfl:(pos1.length:Int)=n3:=(hn3.trans (congrArg (fun m:Nat=>(m:Int)) (rlen (fun _=>rfl) pos1))).symm;refine zAg rfl h (fun hb h=>?_) (fun hb h=>?_)
 ·refine zAa ?_;refine zAA [] [13,17] [] rfl (by decide +kernel) ?_;obtain⟨e4,he4,h⟩:=zAc h;refine And.intro (zAp (fun _=>rfl) he4).1 ?_;intro r5 hr5;obtain rfl:[.int .i64 e4]=r5:=(hr5.trans (zAp (fun _=>rfl) he4).2.1).symm;obtain⟨e6,he6,h⟩:=zAc h;refine And.intro (zAp (fun _=>rfl) he6).1 ?_;intro r7 hr7;obtain rfl:[.int .i64 e6]=r7:=(hr7.trans (zAp (fun _=>rfl) he6).2.1).symm;refine zAe ?_;obtain⟨hj1,hk1⟩:=pij h;subst hj1 hk1;exact fin0 rfl rfl
 ·refine zAf ?_;refine zAa ?_;refine zAA [] [21,25] [] rfl (by decide +kernel) ?_;obtain⟨e8,he8,h⟩:=zAc h;refine And.intro (zAp (fun _=>rfl) he8).1 ?_;intro r9 hr9;obtain rfl:[.int .i64 e8]=r9:=(hr9.trans (zAp (fun _=>rfl) he8).2.1).symm;obtain⟨e10,he10,h⟩:=zAc h;refine And.intro (zAp (fun _=>rfl) he10).1 ?_;intro r11 hr11;obtain rfl:[.int .i64 e10]=r11:=(hr11.trans (zAp (fun _=>rfl) he10).2.1).symm;refine zAe ?_;obtain⟨hj1,hk1⟩:=pij h;subst hj1 hk1;exact fin0 rfl rfl
def zBY (p:(List Int×Int×Int)):List S:=[.sl 1 ((List.map (irow .i64)) p.1),.int .i64 p.2.1,.int .i64 p.2.2]
def zOV (n:Nat) (xs:List AV) (r:Ret):Prop:=∃ (a0:Nd) (a1:List Int) (a2:List Int) (y0:(List Int×Int×Int)) (y1:Int),zCr n a0 a1 a2=some (y0,y1)/\xs=[.agg ((Nd.enc a0).map .s),.s (.sl 1 ((List.map (irow .i64)) a1)),.s (.sl 1 ((List.map (irow .i64)) a2))]/\r = .val (.tup [.agg ((zBY y0).map .s),.s (.int .i64 y1)])
def zJT:zAq:=zAs fun xs r=>∃ n,zOV n xs r
theorem zNt:PSound Tryz.prog 138 zJT:=by
 have gok:∀ f s,look? f [(25,zCy),(150,zL5),(151,zNR)]=some s->PSound Tryz.prog f s:=zAo (by
  simp only[List.forall_mem_cons]
  exact⟨zCv,zRl,zSz,by simp⟩)
 refine zAr tokW Tryz.call138 Tryz.func138 rfl (fun xs r h=>by obtain⟨n,_,_,_,_,_,_,rfl,_⟩:=h; show 3<=90; decide) 90 rfl ?_;rintro xs r w0 G0 ⟨n,⟨a1A,a1C,a1D,a1B⟩,a2,a3,y0,y1,h,rfl,rfl⟩ _;rw[zCr]at h;refine zYf [6] [] rfl ?_;refine zAa ?_;refine zYV ?_;obtain⟨y4,hy4,h⟩:=zAc h;refine⟨_,⟨_,_,_,hy4,rfl,rfl⟩,?_⟩
 refine zAg rfl h (fun hb h=>?_) (fun hb h=>?_)
 ·refine zYV ?_;refine zAe ?_;obtain⟨hj1,hk1⟩:=pij h;subst hj1 hk1;exact fin0 rfl rfl
 ·refine zAf ?_;refine zAa ?_;refine zAa ?_;obtain⟨x5,hj,h⟩:=zAc h;refine zAm ⟨ofL [(1,.s (.sl 1 ((List.map (irow .i64)) a2))),(2,.s (.sl 1 ((List.map (irow .i64)) a3))),(6,.op 0 0),(26,.s (.bool x5))],ofH [(0,.box 118 [.nl 1,.s (.int .i64 0),.s (.int .i64 0)])],1⟩ ?_ (fun σ' hle=>?_)
  ·replace h:=hj;refine zAb [] [21] rfl ?_;obtain⟨y6,hy6,h⟩:=zAc h;refine⟨_,⟨_,_,_,_,hy6,rfl,rfl⟩,?_⟩
   intro b hb;cases b with
   | true =>
    replace h:=zAu hb.symm h;cases h;exact(Le.rnm [(0,0)] _ _ _ ⟨rfl,rfl,rfl,rfl,trivial⟩ ⟨rfl,⟨_,rfl,rfl⟩,trivial⟩)
   | false =>
    replace h:=zAt hb.symm h;obtain⟨y7,hy7,h⟩:=zAc h;refine⟨_,⟨_,_,_,_,hy7,rfl,rfl⟩,?_⟩
    cases h;exact(Le.rnm [(0,0)] _ _ _ ⟨rfl,rfl,rfl,rfl,trivial⟩ ⟨rfl,⟨_,rfl,rfl⟩,trivial⟩)
  ·refine zAh hle ?_;refine zAg rfl h (fun hb h=>?_) (fun hb h=>?_)
   ·refine zYV ?_;refine zAe ?_;obtain⟨hj1,hk1⟩:=pij h;subst hj1 hk1;exact fin0 rfl rfl
   ·refine zAf ?_;refine zYV ?_;refine zAa ?_;obtain⟨x9,hl,h⟩:=zAc h;refine zAm ⟨ofL [(1,.s (.sl 1 ((List.map (irow .i64)) a2))),(2,.s (.sl 1 ((List.map (irow .i64)) a3))),(6,.op 0 0),(8,.s (.int .i64 x9))],ofH [(0,.box 118 [.nl 1,.s (.int .i64 0),.s (.int .i64 0)])],1⟩ ?_ (fun σ' hle=>?_)
    ·refine zAl (zAy (X:=Nat×Int) (fun y=>match y with | (k,x8)=>⟨ofL [(1,.s (.sl 1 ((List.map (irow .i64)) a2))),(2,.s (.sl 1 ((List.map (irow .i64)) a3))),(6,.op 0 0),(8,.s (.int .i64 x8))],ofH [(0,.box 118 [.nl 1,.s (.int .i64 0),.s (.int .i64 0)])],1⟩) (fun y=>zBT a2 a3 y.1 y.2=some x9) (fun y=>y.1) (n,0) hl ?_ ?_)
     ·exact(Le.rnm [(0,0)] _ _ _ ⟨rfl,rfl,rfl,rfl,trivial⟩ ⟨rfl,⟨_,rfl,rfl⟩,trivial⟩)
     ·rintro⟨k,x8⟩ h;cases k with
      | zero=>cases h
      | succ k =>
       replace h:zBT a2 a3 (k+1) x8=some x9:=h;rw[zBT]at h;refine zAa ?_;refine zAa ?_;obtain⟨x10,hj,h⟩:=zAc h;refine zAm ⟨ofL [(1,.s (.sl 1 ((List.map (irow .i64)) a2))),(2,.s (.sl 1 ((List.map (irow .i64)) a3))),(6,.op 0 0),(8,.s (.int .i64 x8)),(63,.s (.bool x10))],ofH [(0,.box 118 [.nl 1,.s (.int .i64 0),.s (.int .i64 0)])],1⟩ ?_ (fun σ' hle=>?_)
       ·replace h:=hj;refine zAA [] [31,33,37,40,43,47,51,55,60] [] rfl (by decide +kernel) ?_;intro n11 hn11;obtain rfl:(a2.length:Int)=n11:=(hn11.trans (congrArg (fun m:Nat=>(m:Int)) (rlen (fun _=>rfl) a2))).symm;intro b hb;cases b with
        | true =>
         replace h:=zAu hb.symm h;intro n12 hn12;obtain rfl:(a3.length:Int)=n12:=(hn12.trans (congrArg (fun m:Nat=>(m:Int)) (rlen (fun _=>rfl) a3))).symm;intro b hb;cases b with
         | true =>
          replace h:=zAu hb.symm h;obtain⟨e13,he13,h⟩:=zAc h;refine And.intro (zAp (fun _=>rfl) he13).1 ?_;intro r14 hr14;obtain rfl:[.int .i64 e13]=r14:=(hr14.trans (zAp (fun _=>rfl) he13).2.1).symm;obtain⟨e15,he15,h⟩:=zAc h;refine And.intro (zAp (fun _=>rfl) he15).1 ?_;intro r16 hr16;obtain rfl:[.int .i64 e15]=r16:=(hr16.trans (zAp (fun _=>rfl) he15).2.1).symm;intro b hb;cases b with
          | true =>
           replace h:=zAu hb.symm h;obtain⟨e17,he17,h⟩:=zAc h;refine And.intro (zAp (fun _=>rfl) he17).1 ?_;intro r18 hr18;obtain rfl:[.int .i64 e17]=r18:=(hr18.trans (zAp (fun _=>rfl) he17).2.1).symm;obtain⟨e19,he19,h⟩:=zAc h;refine And.intro (zAp (fun _=>rfl) he19).1 ?_;intro r20 hr20;obtain rfl:[.int .i64 e19]=r20:=(hr20.trans (zAp (fun _=>rfl) he19).2.1).symm;cases h;exact(Le.rnm [(0,0)] _ _ _ ⟨rfl,rfl,rfl,rfl,rfl,trivial⟩ ⟨rfl,⟨_,rfl,rfl⟩,trivial⟩)
          | false =>
           replace h:=zAt hb.symm h;cases h;exact(Le.rnm [(0,0)] _ _ _ ⟨rfl,rfl,rfl,rfl,rfl,trivial⟩ ⟨rfl,⟨_,rfl,rfl⟩,trivial⟩)
         | false =>
          replace h:=zAt hb.symm h;intro b hb;subst hb;cases h;exact(Le.rnm [(0,0)] _ _ _ ⟨rfl,rfl,rfl,rfl,rfl,trivial⟩ ⟨rfl,⟨_,rfl,rfl⟩,trivial⟩)
        | false =>
         replace h:=zAt hb.symm h;intro b hb;subst hb;intro b hb;subst hb;cases h;exact(Le.rnm [(0,0)] _ _ _ ⟨rfl,rfl,rfl,rfl,rfl,trivial⟩ ⟨rfl,⟨_,rfl,rfl⟩,trivial⟩)
       ·refine zAh hle ?_;refine zAg rfl h (fun hb h=>?_) (fun hb h=>?_)
        ·refine zAf ?_;refine zAl ?_;refine zYU ?_;refine⟨(k,IntKind.i64.wrap (x8+2)),h,(Le.rnm [(0,0)] _ _ _ ⟨rfl,rfl,rfl,rfl,trivial⟩ ⟨rfl,⟨_,rfl,rfl⟩,trivial⟩),Nat.lt_succ_self k⟩
        ·refine zAC ?_;cases h;exact(Le.rnm [(0,0)] _ _ _ ⟨rfl,rfl,rfl,rfl,trivial⟩ ⟨rfl,⟨_,rfl,rfl⟩,trivial⟩)
    ·refine zAh hle ?_;refine zYV ?_;obtain⟨⟨y21,y22⟩,hy21,h⟩:=zAc h;refine⟨_,⟨_,_,_,_,hy21,rfl,rfl⟩,?_⟩
     refine zYV ?_;obtain⟨⟨y23,y24⟩,hy23,h⟩:=zAc h;refine⟨_,⟨_,_,_,_,hy23,rfl,rfl⟩,?_⟩
     refine zYf [78,82] [81] rfl ?_;obtain⟨hq,h⟩:=zAw h;refine And.intro ⟨hq.1,hq.2.1,Int.le_trans hq.2.2 (Int.ofNat_le.2 (Nat.le_of_eq (rlen (fun _=>rfl) _).symm))⟩ ?_;intro r25 hr25;obtain rfl:(List.map (irow .i64)) ((a2.take x9.toNat).drop (0:Int).toNat)=r25:=(hr25.trans (rcut (fun _=>rfl) _ _ _)).symm;obtain⟨hq,h⟩:=zAw h
     refine And.intro (show(([]:List (List S)).length+((List.map (irow .i64)) ((a2.take x9.toNat).drop (0:Int).toNat)).length) * 8<=140737488355328/\([]:List (List S)).length+((List.map (irow .i64)) ((a2.take x9.toNat).drop (0:Int).toNat)).length<=9223372036854775807 from by simp only[List.length_append,List.length_cons,List.length_nil,List.length_map,rlen (fun _=>rfl)]at hq ⊢; omega) ?_;show Tri ..
     refine zAh (Le.rnm [(0,0),(2,1)] [(6,.op 0 0),(7,.s (.int .i64 0))] [(0,.box 118 [.orow 1,.s (.int .i64 (if y23<y21 then y23 else y21)),.s (.int .i64 (if y22<y24 then y24 else y22))]),(1,.row 3 1 ((List.map (irow .i64)) ((a2.take x9.toNat).drop (0:Int).toNat)))] 2 ⟨rfl,rfl,trivial⟩ ⟨rfl,⟨_,rfl,rfl⟩,rfl,⟨_,rfl,congrArg (Ob.row 3 1) zSS⟩,trivial⟩) ?_
     refine zAe ?_;obtain⟨hj1,hk1⟩:=pij h;subst hj1 hk1;unfold zBC;exact⟨_,(Le.trans (Le.rnm [(0,0),(1,1)] [(6,.op 0 0),(7,.s (.int .i64 0))] [(0,.box 118 [.orow 1,.s (.int .i64 (if y23<y21 then y23 else y21)),.s (.int .i64 (if y22<y24 then y24 else y22))]),(1,.row 3 1 ((List.map (irow .i64)) ((a2.take x9.toNat).drop (0:Int).toNat)))] 2 ⟨rfl,rfl,trivial⟩ ⟨rfl,⟨_,rfl,rfl⟩,rfl,⟨_,rfl,rfl⟩,trivial⟩) (Le.giveRow 1 rfl)),rfl,rfl⟩
def zWo (n:Nat) (xs:List AV) (r:Ret):Prop:=∃ (a0:Nd) (a1:zCu) (y0:(List Int×Int×Int)) (y1:Int),zJ9 n a0 a1=some (y0,y1)/\xs=[.agg ((Nd.enc a0).map .s),.agg ((zAz a1).map .s)]/\r = .val (.tup [.agg ((zBY y0).map .s),.s (.int .i64 y1)])
def zS7:zAq:=zAs fun xs r=>∃ n,zWo n xs r
theorem zVI:PSound Tryz.prog 108 zS7:=by
 have gok:∀ f s,look? f [(138,zJT)]=some s->PSound Tryz.prog f s:=zAo (by
  simp only[List.forall_mem_cons]
  exact⟨zNt,by simp⟩)
 refine zAr tokW Tryz.call108 Tryz.func108 rfl (fun xs r h=>by obtain⟨n,_,_,_,_,_,rfl,_⟩:=h; show 2<=26; decide) 26 rfl ?_;rintro xs r w0 G0 ⟨n,⟨n1A,n1C,n1D,n1B⟩,⟨c2Q,c2Ab⟩,y0,y1,h,rfl,rfl⟩ _;rw[zJ9]at h;refine zYf [4] [] rfl ?_;refine zAa ?_;refine zYf [] [8] rfl ?_;intro n3 hn3;obtain rfl:(c2Ab.length:Int)=n3:=(hn3.trans (congrArg (fun m:Nat=>(m:Int)) (rlen (fun _=>rfl) c2Ab))).symm;refine zAg rfl h (fun hb h=>?_) (fun hb h=>?_)
 ·refine zYV ?_;obtain⟨⟨⟨y4G,y4Af,y4Ah⟩,y5⟩,hy4,h⟩:=zAc h;refine⟨_,⟨_,_,_,_,_,_,hy4,rfl,rfl⟩,?_⟩
  refine zAe ?_;obtain⟨hj1,hk1⟩:=pij h;subst hj1 hk1;exact fin0 rfl rfl
 ·refine zAf ?_;refine zYV ?_;obtain⟨⟨⟨y6G,y6Af,y6Ah⟩,y7⟩,hy6,h⟩:=zAc h;refine⟨_,⟨_,_,_,_,_,_,hy6,rfl,rfl⟩,?_⟩
  refine zAe ?_;obtain⟨hj1,hk1⟩:=pij h;subst hj1 hk1;exact fin0 rfl rfl
def zR5 (n:Nat) (xs:List AV) (r:Ret):Prop:=∃ (a0:Nd) (a1:zCu) (y0:(List Int×Int×Int)) (y1:Int),zCe n a0 a1=some (y0,y1)/\xs=[.agg ((Nd.enc a0).map .s),.agg ((zAz a1).map .s)]/\r = .val (.tup [.agg ((zBY y0).map .s),.s (.int .i64 y1)])
def zDk:zAq:=zAs fun xs r=>∃ n,zR5 n xs r
theorem zDz:PSound Tryz.prog 71 zDk:=by
 have gok:∀ f s,look? f [(108,zS7)]=some s->PSound Tryz.prog f s:=zAo (by
  simp only[List.forall_mem_cons]
  exact⟨zVI,by simp⟩)
 refine zAr tokW Tryz.call71 Tryz.func71 rfl (fun xs r h=>by obtain⟨n,_,_,_,_,_,rfl,_⟩:=h; show 2<=11; decide) 11 rfl ?_;rintro xs r w0 G0 ⟨n,⟨n1A,n1C,n1D,n1B⟩,⟨c2Q,c2Ab⟩,y0,y1,h,rfl,rfl⟩ _;rw[zCe]at h;refine zYf [4] [] rfl ?_;refine zYV ?_;obtain⟨⟨⟨y3G,y3Af,y3Ah⟩,y4⟩,hy3,h⟩:=zAc h;refine⟨_,⟨_,_,_,_,_,hy3,rfl,rfl⟩,?_⟩
 refine zAe ?_;obtain⟨hj1,hk1⟩:=pij h;subst hj1 hk1;exact fin0 rfl rfl
def zTP (n:Nat) (xs:List AV) (r:Ret):Prop:=∃ (a0:Nd) (a1:List Int) (y0:Nd) (y1:Bool),zG5 n a0 a1=some (y0,y1)/\xs=[.agg ((Nd.enc a0).map .s),.s (.sl 1 ((List.map (irow .i64)) a1))]/\r = .val (.tup [.agg ((Nd.enc y0).map .s),.s (.bool y1)])
def zNK:zAq:=zAs fun xs r=>∃ n,zTP n xs r
theorem zSs:PSound Tryz.prog 109 zNK:=by
 have gok:=@gok0 Tryz.prog;refine zAr tokW Tryz.call109 Tryz.func109 rfl (fun xs r h=>by obtain⟨n,_,_,_,_,_,rfl,_⟩:=h; show 2<=57; decide) 57 rfl ?_;rintro xs r w0 G0 ⟨n,⟨n1A,n1C,n1D,n1B⟩,path2,y0,y1,h,rfl,rfl⟩ _;rw[zG5]at h;refine zYf [2,4] [] rfl ?_;refine zAa ?_;obtain⟨fl,hl,ho1⟩:=zAc h
 refine zBA (fl:=fl) (fun z=>match z with | ⟨path9,x10,x11,x12,x13⟩=>⟨ofL [(1,.s (.sl 1 ((List.map (irow .i64)) path9))),(2,.op 0 0),(4,.op 1 0)],ofH [(0,.box 24 [.s (.int .i64 x10),.s (.str x11),.s (.int .i64 x12),.s (.sl 4 (Nd.encs x13))]),(1,.box 24 [.s (.int .i64 0),.s (.str []),.s (.int .i64 0),.nl 4])],2⟩) ?_ (fun z σ' hz hle=>?_)
 ·refine zAl (zAy (X:=Nat×Int×(List UInt8)×Int×(List Nd)×(List Int)) (fun y=>match y with | (k,x3,x4,x5,x6,path8)=>⟨ofL [(1,.s (.sl 1 ((List.map (irow .i64)) path8))),(2,.op 0 0),(4,.op 1 0)],ofH [(0,.box 24 [.s (.int .i64 x3),.s (.str x4),.s (.int .i64 x5),.s (.sl 4 (Nd.encs x6))]),(1,.box 24 [.s (.int .i64 0),.s (.str []),.s (.int .i64 0),.nl 4])],2⟩) (fun y=>zB1  y.1 y.2.1 y.2.2.1 y.2.2.2.1 y.2.2.2.2.1 y.2.2.2.2.2=some fl) (fun y=>y.1) (n,n1A,n1C,n1D,n1B,path2) hl ?_ ?_)
  ·exact(Le.rnm [(0,0),(1,1)] _ _ _ ⟨rfl,rfl,rfl,trivial⟩ ⟨rfl,⟨_,rfl,rfl⟩,rfl,⟨_,rfl,rfl⟩,trivial⟩)
  ·rintro⟨k,x3,x4,x5,x6,path8⟩ h;cases k with
   | zero=>cases h
   | succ k =>
    replace h:zB1  (k+1) x3 x4 x5 x6 path8=some fl:=h;rw[zB1]at h;refine zAa ?_;refine zYf [] [7] rfl ?_;intro n14 hn14;obtain rfl:(path8.length:Int)=n14:=(hn14.trans (congrArg (fun m:Nat=>(m:Int)) (rlen (fun _=>rfl) path8))).symm;refine zAg rfl h (fun hb h=>?_) (fun hb h=>?_)
    ·refine zAf ?_;refine zAl ?_;refine zAa ?_;refine zAa ?_;obtain⟨x15,hj,h⟩:=zAc h;refine zAm ⟨ofL [(1,.s (.sl 1 ((List.map (irow .i64)) path8))),(2,.op 0 0),(4,.op 1 0),(21,.s (.bool x15))],ofH [(0,.box 24 [.s (.int .i64 x3),.s (.str x4),.s (.int .i64 x5),.s (.sl 4 (Nd.encs x6))]),(1,.box 24 [.s (.int .i64 0),.s (.str []),.s (.int .i64 0),.nl 4])],2⟩ ?_ (fun σ' hle=>?_)
     ·replace h:=hj;refine zAA [] [10,13,15,19] [9] rfl (by decide +kernel) ?_;obtain⟨e16,he16,h⟩:=zAc h;refine And.intro (zAp (fun _=>rfl) he16).1 ?_;intro r17 hr17;obtain rfl:[.int .i64 e16]=r17:=(hr17.trans (zAp (fun _=>rfl) he16).2.1).symm;intro b hb;cases b with
      | true =>
       replace h:=zAu hb.symm h;cases h;exact(Le.rnm [(0,0),(1,1)] _ _ _ ⟨rfl,rfl,rfl,rfl,trivial⟩ ⟨rfl,⟨_,rfl,rfl⟩,rfl,⟨_,rfl,rfl⟩,trivial⟩)
      | false =>
       replace h:=zAt hb.symm h;obtain⟨e18,he18,h⟩:=zAc h;refine And.intro (zAp (fun _=>rfl) he18).1 ?_;intro r19 hr19;obtain rfl:[.int .i64 e18]=r19:=(hr19.trans (zAp (fun _=>rfl) he18).2.1).symm;intro n20 hn20;obtain rfl:(x6.length:Int)=n20:=(hn20.trans (congrArg (fun m:Nat=>(m:Int)) (rlen Nd.encs_eq x6))).symm;cases h;exact(Le.rnm [(0,0),(1,1)] _ _ _ ⟨rfl,rfl,rfl,rfl,trivial⟩ ⟨rfl,⟨_,rfl,rfl⟩,rfl,⟨_,rfl,rfl⟩,trivial⟩)
     ·refine zAh hle ?_;refine zAg rfl h (fun hb h=>?_) (fun hb h=>?_)
      ·refine zYV ?_;refine zAe ?_;cases h;replace h:some _=some _:=ho1;obtain⟨hj1,hk1⟩:=pij h;subst hj1 hk1;exact fin0 rfl rfl
      ·refine zAf ?_;refine zAa ?_;refine zAA [] [26,28] [1,7] rfl (by decide +kernel) ?_;obtain⟨e21,he21,h⟩:=zAc h;refine And.intro (zAp (fun _=>rfl) he21).1 ?_;intro r22 hr22;obtain rfl:[.int .i64 e21]=r22:=(hr22.trans (zAp (fun _=>rfl) he21).2.1).symm;obtain⟨⟨e23A,e23C,e23D,e23B⟩,he23,h⟩:=zAc h;refine And.intro (zAp Nd.encs_eq he23).1 ?_;intro r24 hr24;obtain rfl:[.int .i64 e23A,.str e23C,.int .i64 e23D,.sl 4 (Nd.encs e23B)]=r24:=(hr24.trans (zAp Nd.encs_eq he23).2.1).symm;refine zAa ?_;refine zAa ?_;obtain⟨x25,hj,h⟩:=zAc h
       refine zAm ⟨ofL [(1,.s (.sl 1 ((List.map (irow .i64)) path8))),(2,.op 0 0),(4,.op 1 0),(42,.s (.bool x25))],ofH [(0,.box 24 [.s (.int .i64 e23A),.s (.str e23C),.s (.int .i64 e23D),.s (.sl 4 (Nd.encs e23B))]),(1,.box 24 [.s (.int .i64 0),.s (.str []),.s (.int .i64 0),.nl 4])],2⟩ ?_ (fun σ' hle=>?_)
       ·replace h:=hj;refine zAA [] [31,34,36,40] [9] rfl (by decide +kernel) ?_;obtain⟨e26,he26,h⟩:=zAc h;refine And.intro (zAp (fun _=>rfl) he26).1 ?_;intro r27 hr27;obtain rfl:[.int .i64 e26]=r27:=(hr27.trans (zAp (fun _=>rfl) he26).2.1).symm;intro b hb;cases b with
        | true =>
         replace h:=zAu hb.symm h;cases h;exact(Le.rnm [(0,0),(1,1)] _ _ _ ⟨rfl,rfl,rfl,rfl,trivial⟩ ⟨rfl,⟨_,rfl,rfl⟩,rfl,⟨_,rfl,rfl⟩,trivial⟩)
        | false =>
         replace h:=zAt hb.symm h;obtain⟨e28,he28,h⟩:=zAc h;refine And.intro (zAp (fun _=>rfl) he28).1 ?_;intro r29 hr29;obtain rfl:[.int .i64 e28]=r29:=(hr29.trans (zAp (fun _=>rfl) he28).2.1).symm;intro n30 hn30;obtain rfl:(e23B.length:Int)=n30:=(hn30.trans (congrArg (fun m:Nat=>(m:Int)) (rlen Nd.encs_eq e23B))).symm;cases h;exact(Le.rnm [(0,0),(1,1)] _ _ _ ⟨rfl,rfl,rfl,rfl,trivial⟩ ⟨rfl,⟨_,rfl,rfl⟩,rfl,⟨_,rfl,rfl⟩,trivial⟩)
       ·refine zAh hle ?_;refine zAg rfl h (fun hb h=>?_) (fun hb h=>?_)
        ·refine zYV ?_;refine zAe ?_;cases h;replace h:some _=some _:=ho1;obtain⟨hj1,hk1⟩:=pij h;subst hj1 hk1;exact fin0 rfl rfl
        ·refine zAf ?_;refine zAa ?_;refine zAA [] [47,49] [1,7] rfl (by decide +kernel) ?_;obtain⟨e31,he31,h⟩:=zAc h;refine And.intro (zAp (fun _=>rfl) he31).1 ?_;intro r32 hr32;obtain rfl:[.int .i64 e31]=r32:=(hr32.trans (zAp (fun _=>rfl) he31).2.1).symm;obtain⟨⟨e33A,e33C,e33D,e33B⟩,he33,h⟩:=zAc h;refine And.intro (zAp Nd.encs_eq he33).1 ?_;intro r34 hr34;obtain rfl:[.int .i64 e33A,.str e33C,.int .i64 e33D,.sl 4 (Nd.encs e33B)]=r34:=(hr34.trans (zAp Nd.encs_eq he33).2.1).symm;refine zAb [] [52] rfl ?_;obtain⟨hq,h⟩:=zAw h
         refine And.intro ⟨hq.1,Int.le_trans hq.2.1 (Int.ofNat_le.2 (Nat.le_of_eq (rlen (fun _=>rfl) _).symm)),Int.le_refl _⟩ ?_;intro r35 hr35;obtain rfl:(List.map (irow .i64)) ((path8.take (path8.length:Int).toNat).drop (2:Int).toNat)=r35:=(hr35.trans ((congrArg (fun m:Nat=>(((List.map (irow .i64)) path8).take m).drop (2:Int).toNat) (rlen (fun _=>rfl) _)).trans (rcut (fun _=>rfl) _ _ _))).symm;refine⟨(k,e33A,e33C,e33D,e33B,(path8.take (path8.length:Int).toNat).drop (2:Int).toNat),h,(Le.rnm [(0,0),(1,1)] _ _ _ ⟨rfl,rfl,rfl,trivial⟩ ⟨rfl,⟨_,rfl,rfl⟩,rfl,⟨_,rfl,rfl⟩,trivial⟩),Nat.lt_succ_self k⟩
    ·refine zAC ?_;cases h;exact⟨_,rfl,(Le.rnm [(0,0),(1,1)] _ _ _ ⟨rfl,rfl,rfl,trivial⟩ ⟨rfl,⟨_,rfl,rfl⟩,rfl,⟨_,rfl,rfl⟩,trivial⟩)⟩
 ·subst hz;obtain⟨path9,x10,x11,x12,x13⟩:=z;replace h:=ho1;refine zAh hle ?_;refine zYf [] [55] rfl ?_;intro n36 hn36;obtain rfl:(path9.length:Int)=n36:=(hn36.trans (congrArg (fun m:Nat=>(m:Int)) (rlen (fun _=>rfl) path9))).symm;refine zAe ?_;obtain⟨hj1,hk1⟩:=pij h;subst hj1 hk1;exact fin0 rfl rfl
def zUV (n:Nat) (xs:List AV) (r:Ret):Prop:=∃ (a0:Nd) (a1:List Int) (y0:Nd) (y1:Int),zFi n a0 a1=some (y0,y1)/\xs=[.agg ((Nd.enc a0).map .s),.s (.sl 1 ((List.map (irow .i64)) a1))]/\r = .val (.tup [.agg ((Nd.enc y0).map .s),.s (.int .i64 y1)])
def zHV:zAq:=zAs fun xs r=>∃ n,zUV n xs r
theorem zID:PSound Tryz.prog 76 zHV:=by
 have gok:∀ f s,look? f [(25,zCy),(109,zNK)]=some s->PSound Tryz.prog f s:=zAo (by
  simp only[List.forall_mem_cons]
  exact⟨zCv,zSs,by simp⟩)
 refine zAr tokW Tryz.call76 Tryz.func76 rfl (fun xs r h=>by obtain⟨n,_,_,_,_,_,rfl,_⟩:=h; show 2<=22; decide) 22 rfl ?_;rintro xs r w0 G0 ⟨n,⟨n1A,n1C,n1D,n1B⟩,path2,y0,y1,h,rfl,rfl⟩ _;rw[zFi]at h;refine zYf [4] [] rfl ?_;refine zAa ?_;refine zYV ?_;obtain⟨y3,hy3,h⟩:=zAc h;refine⟨_,⟨_,_,_,hy3,rfl,rfl⟩,?_⟩
 refine zAg rfl h (fun hb h=>?_) (fun hb h=>?_)
 ·refine zYV ?_;refine zAe ?_;obtain⟨hj1,hk1⟩:=pij h;subst hj1 hk1;exact fin0 rfl rfl
 ·refine zAf ?_;refine zYf [6] [] rfl ?_;obtain⟨⟨⟨y4A,y4C,y4D,y4B⟩,y5⟩,hy4,h⟩:=zAc h;refine⟨_,⟨_,_,_,_,_,hy4,rfl,rfl⟩,?_⟩
  refine zAh (Le.giveBox 1 [.int .i64 y4A,.str y4C,.int .i64 y4D,.sl 4 (Nd.encs y4B)] rfl rfl) ?_;refine zAa ?_;refine zYV ?_;refine zAg rfl h (fun hb h=>?_) (fun hb h=>?_)
  ·refine zYV ?_;refine zAe ?_;obtain⟨hj1,hk1⟩:=pij h;subst hj1 hk1;exact fin0 rfl rfl
  ·refine zAf ?_;refine zYV ?_;refine zAe ?_;obtain⟨hj1,hk1⟩:=pij h;subst hj1 hk1;exact fin0 rfl rfl
def zR0 (n:Nat) (xs:List AV) (r:Ret):Prop:=∃ (a0:Nd) (a1:(List Int×Int×Int)) (y0:List Nd) (y1:Int),zET n a0 a1=some (y0,y1)/\xs=[.agg ((Nd.enc a0).map .s),.agg ((zBY a1).map .s)]/\r = .val (.tup [.s (.sl 4 (Nd.encs y0)),.s (.int .i64 y1)])
def zJo:zAq:=zAs fun xs r=>∃ n,zR0 n xs r
theorem zHN {α:Type}{a b:α} (h:a=b:=by simp[List.map_append,List.map_take,List.map_drop,irow,brow,zEw,List.map_cons,List.map_nil,zD1,Nd.encs_eq,Nd.enc,zA4,zAK,zBy,zAI,zAG,zAk,zAd,zBD,zAz,zA6,zAn,zBb,zBY]):a=b :=
 h
theorem zLi:PSound Tryz.prog 83 zJo:=by
 have gok:∀ f s,look? f [(76,zHV)]=some s->PSound Tryz.prog f s:=zAo (by
  simp only[List.forall_mem_cons]
  exact⟨zID,by simp⟩)
 refine zAr tokW Tryz.call83 Tryz.func83 rfl (fun xs r h=>by obtain⟨n,_,_,_,_,_,rfl,_⟩:=h; show 2<=45; decide) 45 rfl ?_;rintro xs r w0 G0 ⟨n,⟨n1A,n1C,n1D,n1B⟩,⟨r2G,r2Af,r2Ah⟩,y0,y1,h,rfl,rfl⟩ _;rw[zET]at h;refine zYf [4] [] rfl ?_;refine zAh (Le.rnm [] [(2,.s (.pt [.int .i64 n1A,.str n1C,.int .i64 n1D,.sl 4 (Nd.encs n1B)])),(3,.s (.pt [.sl 1 ((List.map (irow .i64)) r2G),.int .i64 r2Af,.int .i64 r2Ah]))] [] 0 ⟨rfl,rfl,trivial⟩ trivial) ?_;refine zYf [6] [] rfl ?_;obtain⟨⟨⟨y3A,y3C,y3D,y3B⟩,y4⟩,hy3,h⟩:=zAc h
 refine⟨_,⟨_,_,_,_,_,hy3,rfl,rfl⟩,?_⟩
 refine zAh (Le.giveBox 0 [.int .i64 y3A,.str y3C,.int .i64 y3D,.sl 4 (Nd.encs y3B)] rfl rfl) ?_;refine zAa ?_;refine zYV ?_;refine zAg rfl h (fun hb h=>?_) (fun hb h=>?_)
 ·refine zYf [4] [] rfl ?_;refine zAh (Le.rnm [(1,0)] [(4,.orow 0),(5,.s (.int .i64 y4))] [(0,.row 24 4 (Nd.encs []))] 1 ⟨rfl,rfl,trivial⟩ ⟨rfl,⟨_,rfl,congrArg (Ob.row 24 4) zHN⟩,trivial⟩) ?_;refine zAe ?_;obtain⟨hj1,hk1⟩:=pij h;subst hj1 hk1;unfold zBC
  exact⟨_,(Le.trans (Le.rnm [(0,0)] [(4,.orow 0),(5,.s (.int .i64 y4))] [(0,.row 24 4 (Nd.encs []))] 1 ⟨rfl,rfl,trivial⟩ ⟨rfl,⟨_,rfl,rfl⟩,trivial⟩) (Le.giveRow 0 rfl)),rfl,rfl⟩
 ·refine zAf ?_;refine zAa ?_;refine zAa ?_;obtain⟨x5,hj,h⟩:=zAc h;refine zAm ⟨ofL [(3,.s (.pt [.sl 1 ((List.map (irow .i64)) r2G),.int .i64 r2Af,.int .i64 r2Ah])),(6,.s (.pt [.int .i64 y3A,.str y3C,.int .i64 y3D,.sl 4 (Nd.encs y3B)])),(35,.s (.bool x5))],fun _=>none,0⟩ ?_ (fun σ' hle=>?_)
  ·replace h:=hj;refine zAb [] [21,28,33] rfl ?_;intro b hb;cases b with
   | true =>
    replace h:=zAu hb.symm h;intro b hb;subst hb;cases h;exact(Le.rnm [] _ [] 0 ⟨rfl,rfl,rfl,trivial⟩ trivial)
   | false =>
    replace h:=zAt hb.symm h;intro b hb;cases b with
    | true =>
     replace h:=zAu hb.symm h;cases h;exact(Le.rnm [] _ [] 0 ⟨rfl,rfl,rfl,trivial⟩ trivial)
    | false =>
     replace h:=zAt hb.symm h;intro n6 hn6;obtain rfl:(y3B.length:Int)=n6:=(hn6.trans (congrArg (fun m:Nat=>(m:Int)) (rlen Nd.encs_eq y3B))).symm;cases h;exact(Le.rnm [] _ [] 0 ⟨rfl,rfl,rfl,trivial⟩ trivial)
  ·refine zAh hle ?_;refine zAg rfl h (fun hb h=>?_) (fun hb h=>?_)
   ·refine zYf [4] [] rfl ?_;refine zAh (Le.rnm [(0,0)] [(4,.orow 0),(5,.s (.int .i64 2))] [(0,.row 24 4 (Nd.encs []))] 1 ⟨rfl,rfl,trivial⟩ ⟨rfl,⟨_,rfl,congrArg (Ob.row 24 4) zHN⟩,trivial⟩) ?_;refine zAe ?_;obtain⟨hj1,hk1⟩:=pij h;subst hj1 hk1;unfold zBC
    exact⟨_,(Le.trans (Le.rnm [(0,0)] [(4,.orow 0),(5,.s (.int .i64 2))] [(0,.row 24 4 (Nd.encs []))] 1 ⟨rfl,rfl,trivial⟩ ⟨rfl,⟨_,rfl,rfl⟩,trivial⟩) (Le.giveRow 0 rfl)),rfl,rfl⟩
   ·refine zAf ?_;refine zYf [36,44] [43] rfl ?_;obtain⟨hq,h⟩:=zAw h;refine And.intro ⟨hq.1,hq.2.1,Int.le_trans hq.2.2 (Int.ofNat_le.2 (Nat.le_of_eq (rlen Nd.encs_eq _).symm))⟩ ?_;intro r7 hr7;obtain rfl:Nd.encs ((y3B.take r2Ah.toNat).drop r2Af.toNat)=r7:=(hr7.trans (rcut Nd.encs_eq _ _ _)).symm;obtain⟨hq,h⟩:=zAw h
    refine And.intro (show(([]:List (List S)).length+(Nd.encs ((y3B.take r2Ah.toNat).drop r2Af.toNat)).length) * 56<=140737488355328/\([]:List (List S)).length+(Nd.encs ((y3B.take r2Ah.toNat).drop r2Af.toNat)).length<=9223372036854775807 from by simp only[List.length_append,List.length_cons,List.length_nil,List.length_map,rlen Nd.encs_eq]at hq ⊢; omega) ?_;show Tri ..
    refine zAh (Le.rnm [(1,0)] [(4,.orow 0),(5,.s (.int .i64 0))] [(0,.row 24 4 (Nd.encs ((y3B.take r2Ah.toNat).drop r2Af.toNat)))] 1 ⟨rfl,rfl,trivial⟩ ⟨rfl,⟨_,rfl,congrArg (Ob.row 24 4) zHN⟩,trivial⟩) ?_;refine zAe ?_;obtain⟨hj1,hk1⟩:=pij h;subst hj1 hk1;unfold zBC
    exact⟨_,(Le.trans (Le.rnm [(0,0)] [(4,.orow 0),(5,.s (.int .i64 0))] [(0,.row 24 4 (Nd.encs ((y3B.take r2Ah.toNat).drop r2Af.toNat)))] 1 ⟨rfl,rfl,trivial⟩ ⟨rfl,⟨_,rfl,rfl⟩,trivial⟩) (Le.giveRow 0 rfl)),rfl,rfl⟩
def zU3 (n:Nat) (xs:List AV) (r:Ret):Prop:=∃ (a0:Nd) (a1:(List Int×Int×Int)) (y0:List zO8),zGf n a0 a1=some y0/\xs=[.agg ((Nd.enc a0).map .s),.agg ((zBY a1).map .s)]/\r = .row 65 8 ((List.map zAk) y0)
def zJW:zAq:=zAs fun xs r=>∃ n,zU3 n xs r
theorem zKE:PSound Tryz.prog 72 zJW:=by
 have gok:∀ f s,look? f [(83,zJo)]=some s->PSound Tryz.prog f s:=zAo (by
  simp only[List.forall_mem_cons]
  exact⟨zLi,by simp⟩)
 refine zAr tokW Tryz.call72 Tryz.func72 rfl (fun xs r h=>by obtain⟨n,_,_,_,_,rfl,_⟩:=h; show 2<=23; decide) 23 rfl ?_;rintro xs r w0 G0 ⟨n,⟨n1A,n1C,n1D,n1B⟩,⟨r2G,r2Af,r2Ah⟩,y0,h,rfl,rfl⟩ _;rw[zGf]at h;refine zYf [4] [] rfl ?_;refine zAh (Le.rnm [] [(2,.s (.pt [.int .i64 n1A,.str n1C,.int .i64 n1D,.sl 4 (Nd.encs n1B)])),(3,.s (.pt [.sl 1 ((List.map (irow .i64)) r2G),.int .i64 r2Af,.int .i64 r2Ah]))] [] 0 ⟨rfl,rfl,trivial⟩ trivial) ?_;refine zYV ?_;obtain⟨⟨y3,y4⟩,hy3,h⟩:=zAc h
 refine⟨_,⟨_,_,_,_,_,hy3,rfl,rfl⟩,?_⟩
 refine zAa ?_;refine zYf [] [14] rfl ?_;intro n5 hn5;obtain rfl:(y3.length:Int)=n5:=(hn5.trans (congrArg (fun m:Nat=>(m:Int)) (rlen Nd.encs_eq y3))).symm;refine zAg rfl h (fun hb h=>?_) (fun hb h=>?_)
 ·refine zYf [4] [] rfl ?_;refine zAh (Le.rnm [(0,0)] [(4,.orow 0)] [(0,.row 65 8 ((List.map zAk) []))] 1 ⟨rfl,trivial⟩ ⟨rfl,⟨_,rfl,congrArg (Ob.row 65 8) zHN⟩,trivial⟩) ?_;refine zAe ?_;have hy:=osi h;subst hy;unfold zBC;exact⟨_,Le.refl _ _,0,rfl,rfl⟩
 ·refine zAf ?_;refine zYf [22] [] rfl ?_;refine zAh (Le.rnm [(0,0)] [(4,.orow 0)] [(0,.row 65 8 ((List.map zAk) [(2,r2G,r2Af,0,y3,0,[],[])]))] 1 ⟨rfl,trivial⟩ ⟨rfl,⟨_,rfl,congrArg (Ob.row 65 8) zHN⟩,trivial⟩) ?_;refine zAe ?_
  have hy:=osi h;subst hy;unfold zBC;exact⟨_,Le.refl _ _,0,rfl,rfl⟩
def zWp (xs:List AV) (r:Ret):Prop:=∃ (a0:List Int) (a1:List Int) (y0:List Int),zDO a0 a1=some y0/\xs=[.s (.sl 1 ((List.map (irow .i64)) a0)),.s (.sl 1 ((List.map (irow .i64)) a1))]/\r = .row 3 1 ((List.map (irow .i64)) y0)
def zIx:zAq:=zAs fun xs r=>zWp xs r
theorem zIk:PSound Tryz.prog 74 zIx:=by
 have gok:=@gok0 Tryz.prog;refine zAr tokW Tryz.call74 Tryz.func74 rfl (fun xs r h=>by obtain⟨_,_,_,_,rfl,_⟩:=h; show 2<=10; decide) 10 rfl ?_;rintro xs r w0 G0 ⟨path1,more2,y0,h,rfl,rfl⟩ _;rw[zDO]at h;refine zYf [4] [] rfl ?_;refine zAh (Le.rnm [] [(0,.s (.sl 1 ((List.map (irow .i64)) path1))),(1,.s (.sl 1 ((List.map (irow .i64)) more2)))] [] 0 ⟨rfl,rfl,trivial⟩ trivial) ?_;refine zYf [5,7,9] [] rfl ?_;obtain⟨hq,h⟩:=zAw h
 refine And.intro (show(([]:List (List S)).length+((List.map (irow .i64)) path1).length) * 8<=140737488355328/\([]:List (List S)).length+((List.map (irow .i64)) path1).length<=9223372036854775807 from by simp only[List.length_append,List.length_cons,List.length_nil,List.length_map,rlen (fun _=>rfl)]at hq ⊢; omega) ?_;obtain⟨hq,h⟩:=zAw h
 refine And.intro (show((([]:List (List S))++((List.map (irow .i64)) path1)).length+((List.map (irow .i64)) more2).length) * 8<=140737488355328/\(([]:List (List S))++((List.map (irow .i64)) path1)).length+((List.map (irow .i64)) more2).length<=9223372036854775807 from by simp only[List.length_append,List.length_cons,List.length_nil,List.length_map,rlen (fun _=>rfl)]at hq ⊢; omega) ?_;show Tri ..
 refine zAh (Le.rnm [(2,0)] [(4,.orow 0)] [(0,.row 3 1 ((List.map (irow .i64)) (path1++more2)))] 1 ⟨rfl,trivial⟩ ⟨rfl,⟨_,rfl,congrArg (Ob.row 3 1) zHN⟩,trivial⟩) ?_;refine zAe ?_;have hy:=osi h;subst hy;unfold zBC;exact⟨_,Le.refl _ _,0,rfl,rfl⟩
def zNh (n:Nat) (xs:List AV) (r:Ret):Prop:=∃ (a0:List Nd) (a1:Int) (y0:Bool),zD4 n a0 a1=some y0/\xs=[.s (.sl 4 (Nd.encs a0)),.s (.int .i64 a1)]/\r = .val (.s (.bool y0))
def zI1:zAq:=zAs fun xs r=>∃ n,zNh n xs r
theorem zMH:PSound Tryz.prog 112 zI1:=by
 have gok:∀ f s,look? f [(70,zD6)]=some s->PSound Tryz.prog f s:=zAo (by
  simp only[List.forall_mem_cons]
  exact⟨zEX,by simp⟩)
 refine zAr tokW Tryz.call112 Tryz.func112 rfl (fun xs r h=>by obtain⟨n,_,_,_,_,rfl,_⟩:=h; show 2<=37; decide) 37 rfl ?_;rintro xs r w0 G0 ⟨n,l1,slot2,y0,h,rfl,rfl⟩ _;rw[zD4]at h;refine zYV ?_;refine zAa ?_;obtain⟨x3,hj,h⟩:=zAc h;refine zAm ⟨ofL [(4,.s (.bool x3))],fun _=>none,0⟩ ?_ (fun σ' hle=>?_)
 ·replace h:=hj;refine zAb [] [6,8,12,16,19,22,25,27,31,34] rfl ?_;intro n4 hn4;obtain rfl:(l1.length:Int)=n4:=(hn4.trans (congrArg (fun m:Nat=>(m:Int)) (rlen Nd.encs_eq l1))).symm;intro b hb;cases b with
  | true =>
   replace h:=zAu hb.symm h;obtain⟨y5,hy5,h⟩:=zAc h;refine⟨_,⟨_,_,_,hy5,rfl,rfl⟩,?_⟩
   intro b hb;cases b with
   | true =>
    replace h:=zAu hb.symm h;intro b hb;cases b with
    | true =>
     replace h:=zAu hb.symm h;obtain⟨⟨e6A,e6C,e6D,e6B⟩,he6,h⟩:=zAc h;refine And.intro (zAp Nd.encs_eq he6).1 ?_;intro r7 hr7;obtain rfl:[.int .i64 e6A,.str e6C,.int .i64 e6D,.sl 4 (Nd.encs e6B)]=r7:=(hr7.trans (zAp Nd.encs_eq he6).2.1).symm;intro n8 hn8;obtain rfl:(e6B.length:Int)=n8:=(hn8.trans (congrArg (fun m:Nat=>(m:Int)) (rlen Nd.encs_eq e6B))).symm;intro b hb;cases b with
     | true =>
      replace h:=zAu hb.symm h;obtain⟨⟨e9A,e9C,e9D,e9B⟩,he9,h⟩:=zAc h;refine And.intro (zAp Nd.encs_eq he9).1 ?_;intro r10 hr10;obtain rfl:[.int .i64 e9A,.str e9C,.int .i64 e9D,.sl 4 (Nd.encs e9B)]=r10:=(hr10.trans (zAp Nd.encs_eq he9).2.1).symm;obtain⟨⟨e11A,e11C,e11D,e11B⟩,he11,h⟩:=zAc h;refine And.intro (zAp Nd.encs_eq he11).1 ?_;intro r12 hr12;obtain rfl:[.int .i64 e11A,.str e11C,.int .i64 e11D,.sl 4 (Nd.encs e11B)]=r12:=(hr12.trans (zAp Nd.encs_eq he11).2.1).symm;intro n13 hn13
      obtain rfl:(e11B.length:Int)=n13:=(hn13.trans (congrArg (fun m:Nat=>(m:Int)) (rlen Nd.encs_eq e11B))).symm;cases h;exact(Le.forget _ ⟨rfl,trivial⟩)
     | false =>
      replace h:=zAt hb.symm h;cases h;exact(Le.forget _ ⟨rfl,trivial⟩)
    | false =>
     replace h:=zAt hb.symm h;intro b hb;subst hb;cases h;exact(Le.forget _ ⟨rfl,trivial⟩)
   | false =>
    replace h:=zAt hb.symm h;intro b hb;subst hb;intro b hb;subst hb;cases h;exact(Le.forget _ ⟨rfl,trivial⟩)
  | false =>
   replace h:=zAt hb.symm h;intro b hb;subst hb;intro b hb;subst hb;intro b hb;subst hb;cases h;exact(Le.forget _ ⟨rfl,trivial⟩)
 ·refine zAh hle ?_;refine zAe ?_;have hy:=osi h;subst hy;exact fin0 rfl rfl
def zQe (n:Nat) (xs:List AV) (r:Ret):Prop:=∃ (a0:zO8) (y0:Bool),zEo n a0=some y0/\xs=[.agg ((zAk a0).map .s)]/\r = .val (.s (.bool y0))
def zHW:zAq:=zAs fun xs r=>∃ n,zQe n xs r
theorem zKd:PSound Tryz.prog 81 zHW:=by
 have gok:∀ f s,look? f [(70,zD6),(112,zI1)]=some s->PSound Tryz.prog f s:=zAo (by
  simp only[List.forall_mem_cons]
  exact⟨zEX,zMH,by simp⟩)
 refine zAr tokW Tryz.call81 Tryz.func81 rfl (fun xs r h=>by obtain⟨n,_,_,_,rfl,_⟩:=h; show 1<=83; decide) 83 rfl ?_;rintro xs r w0 G0 ⟨n,⟨a1A,a1G,a1L,a1S,a1R,a1V,a1Ac,a1C⟩,y0,h,rfl,rfl⟩ _;rw[zEo]at h;refine zYV ?_;refine zAa ?_;refine zYV ?_;show Tri ..;obtain⟨fl,hj,ho1⟩:=zAc h;refine zBA (fl:=fl) (fun z=>match z with | _=>⟨ofL [],fun _=>none,0⟩) ?_ (fun z σ' hz hle=>?_)
 ·replace h:=hj;refine zAl ?_;refine zAa ?_;refine zYV ?_;show Tri ..;obtain⟨x2,hj,h⟩:=zAc h;refine zAm ⟨ofL [(1,.s (.pt [.int .i64 a1A,.sl 1 ((List.map (irow .i64)) a1G),.int .i64 a1L,.int .i64 a1S,.sl 4 (Nd.encs a1R),.int .i64 a1V,.str a1Ac,.str a1C])),(4,.s (.int .i64 a1A)),(5,.s (.bool x2))],fun _=>none,0⟩ ?_ (fun σ' hle=>?_)
  ·replace h:=hj;refine zAg rfl h (fun hb h=>?_) (fun hb h=>?_)
   ·refine zAf ?_;cases h;exact(Le.forget _ ⟨rfl,rfl,rfl,trivial⟩)
   ·refine zYU ?_;cases h;exact(Le.forget _ ⟨rfl,rfl,rfl,trivial⟩)
  ·refine zAh hle ?_;refine zAg rfl h (fun hb h=>?_) (fun hb h=>?_)
   ·refine zAa ?_;obtain⟨x3,hj,h⟩:=zAc h;refine zAm ⟨ofL [(2,.s (.bool x3))],fun _=>none,0⟩ ?_ (fun σ' hle=>?_)
    ·replace h:=hj;refine zAb [] [10,12,17,22,27,32] rfl ?_;intro n4 hn4;obtain rfl:(a1R.length:Int)=n4:=(hn4.trans (congrArg (fun m:Nat=>(m:Int)) (rlen Nd.encs_eq a1R))).symm;intro b hb;cases b with
     | true =>
      replace h:=zAu hb.symm h;obtain⟨y5,hy5,h⟩:=zAc h;refine⟨_,⟨_,_,_,hy5,rfl,rfl⟩,?_⟩
      intro b hb;cases b with
      | true =>
       replace h:=zAu hb.symm h;intro b hb;cases b with
       | true =>
        replace h:=zAu hb.symm h;intro b hb;cases b with
        | true =>
         replace h:=zAu hb.symm h;intro b hb;cases b with
         | true =>
          replace h:=zAu hb.symm h;cases h;exact(Le.forget _ ⟨rfl,trivial⟩)
         | false =>
          replace h:=zAt hb.symm h;cases h;exact(Le.forget _ ⟨rfl,trivial⟩)
        | false =>
         replace h:=zAt hb.symm h;intro b hb;subst hb;cases h;exact(Le.forget _ ⟨rfl,trivial⟩)
       | false =>
        replace h:=zAt hb.symm h;intro b hb;subst hb;intro b hb;subst hb;cases h;exact(Le.forget _ ⟨rfl,trivial⟩)
      | false =>
       replace h:=zAt hb.symm h;intro b hb;subst hb;intro b hb;subst hb;intro b hb;subst hb;cases h;exact(Le.forget _ ⟨rfl,trivial⟩)
     | false =>
      replace h:=zAt hb.symm h;intro b hb;subst hb;intro b hb;subst hb;intro b hb;subst hb;intro b hb;subst hb;cases h;exact(Le.forget _ ⟨rfl,trivial⟩)
    ·refine zAh hle ?_;refine zAe ?_;cases h;replace h:some _=some _:=ho1;have hy:=osi h;subst hy;exact fin0 rfl rfl
   ·refine zAa ?_;refine zYV ?_;show Tri ..;obtain⟨x6,hj,h⟩:=zAc h;refine zAm ⟨ofL [(1,.s (.pt [.int .i64 a1A,.sl 1 ((List.map (irow .i64)) a1G),.int .i64 a1L,.int .i64 a1S,.sl 4 (Nd.encs a1R),.int .i64 a1V,.str a1Ac,.str a1C])),(4,.s (.int .i64 a1A)),(37,.s (.bool x6))],fun _=>none,0⟩ ?_ (fun σ' hle=>?_)
    ·replace h:=hj;refine zAg rfl h (fun hb h=>?_) (fun hb h=>?_)
     ·refine zAf ?_;cases h;exact(Le.forget _ ⟨rfl,rfl,rfl,trivial⟩)
     ·refine zYU ?_;cases h;exact(Le.forget _ ⟨rfl,rfl,rfl,trivial⟩)
    ·refine zAh hle ?_;refine zAg rfl h (fun hb h=>?_) (fun hb h=>?_)
     ·refine zAa ?_;obtain⟨x7,hj,h⟩:=zAc h;refine zAm ⟨ofL [(2,.s (.bool x7))],fun _=>none,0⟩ ?_ (fun σ' hle=>?_)
      ·replace h:=hj;refine zAb [] [43,50,55] rfl ?_;intro b hb;cases b with
       | true =>
        replace h:=zAu hb.symm h;obtain⟨y8,hy8,h⟩:=zAc h;refine⟨_,⟨_,_,_,_,hy8,rfl,rfl⟩,?_⟩
        intro b hb;cases b with
        | true =>
         replace h:=zAu hb.symm h;intro b hb;cases b with
         | true =>
          replace h:=zAu hb.symm h;cases h;exact(Le.forget _ ⟨rfl,trivial⟩)
         | false =>
          replace h:=zAt hb.symm h;cases h;exact(Le.forget _ ⟨rfl,trivial⟩)
        | false =>
         replace h:=zAt hb.symm h;intro b hb;subst hb;cases h;exact(Le.forget _ ⟨rfl,trivial⟩)
       | false =>
        replace h:=zAt hb.symm h;intro b hb;subst hb;intro b hb;subst hb;cases h;exact(Le.forget _ ⟨rfl,trivial⟩)
      ·refine zAh hle ?_;refine zAe ?_;cases h;replace h:some _=some _:=ho1;have hy:=osi h;subst hy;exact fin0 rfl rfl
     ·refine zYV ?_;refine zAg rfl h (fun hb h=>?_) (fun hb h=>?_)
      ·refine zAa ?_;obtain⟨x9,hj,h⟩:=zAc h;refine zAm ⟨ofL [(2,.s (.bool x9))],fun _=>none,0⟩ ?_ (fun σ' hle=>?_)
       ·replace h:=hj;refine zAb [] [67,70,73,78] rfl ?_;intro b hb;cases b with
        | true =>
         replace h:=zAu hb.symm h;intro n10 hn10;obtain rfl:(a1R.length:Int)=n10:=(hn10.trans (congrArg (fun m:Nat=>(m:Int)) (rlen Nd.encs_eq a1R))).symm;intro b hb;cases b with
         | true =>
          replace h:=zAu hb.symm h;intro b hb;cases b with
          | true =>
           replace h:=zAu hb.symm h;cases h;exact(Le.forget _ ⟨rfl,trivial⟩)
          | false =>
           replace h:=zAt hb.symm h;cases h;exact(Le.forget _ ⟨rfl,trivial⟩)
         | false =>
          replace h:=zAt hb.symm h;intro b hb;subst hb;cases h;exact(Le.forget _ ⟨rfl,trivial⟩)
        | false =>
         replace h:=zAt hb.symm h;intro b hb;subst hb;intro b hb;subst hb;cases h;exact(Le.forget _ ⟨rfl,trivial⟩)
       ·refine zAh hle ?_;refine zAe ?_;cases h;replace h:some _=some _:=ho1;have hy:=osi h;subst hy;exact fin0 rfl rfl
      ·refine zAf ?_;cases h;exact⟨_,rfl,(Le.forget _ trivial)⟩
 ·subst hz;obtain _:=z;replace h:=ho1;refine zAh hle ?_;refine zYV ?_;refine zAe ?_;have hy:=osi h;subst hy;exact fin0 rfl rfl
def zQh (xs:List AV) (r:Ret):Prop:=∃ (a0:List Nd) (a1:Int) (a2:Int) (a3:List Nd) (y0:List Nd),zB5 a0 a1 a2 a3=some y0/\xs=[.s (.sl 4 (Nd.encs a0)),.s (.int .i64 a1),.s (.int .i64 a2),.s (.sl 4 (Nd.encs a3))]/\r = .row 24 4 (Nd.encs y0)
def zK0:zAq:=zAs fun xs r=>zQh xs r
theorem zPy:PSound Tryz.prog 140 zK0:=by
 have gok:=@gok0 Tryz.prog;refine zAr tokW Tryz.call140 Tryz.func140 rfl (fun xs r h=>by obtain⟨_,_,_,_,_,_,rfl,_⟩:=h; show 4<=23; decide) 23 rfl ?_;rintro xs r w0 G0 ⟨l1,at2,to3,by4,y0,h,rfl,rfl⟩ _;rw[zB5]at h;refine zYf [8] [] rfl ?_;refine zAh (Le.rnm [] [(0,.s (.sl 4 (Nd.encs l1))),(1,.s (.int .i64 at2)),(2,.s (.int .i64 to3)),(3,.s (.sl 4 (Nd.encs by4)))] [] 0 ⟨rfl,rfl,rfl,rfl,trivial⟩ trivial) ?_;refine zYf [10,14] [13] rfl ?_;obtain⟨hq,h⟩:=zAw h;refine And.intro ⟨hq.1,hq.2.1,Int.le_trans hq.2.2 (Int.ofNat_le.2 (Nat.le_of_eq (rlen Nd.encs_eq _).symm))⟩ ?_
 intro r5 hr5;obtain rfl:Nd.encs ((l1.take at2.toNat).drop (0:Int).toNat)=r5:=(hr5.trans (rcut Nd.encs_eq _ _ _)).symm;obtain⟨hq,h⟩:=zAw h;refine And.intro (show(([]:List (List S)).length+(Nd.encs ((l1.take at2.toNat).drop (0:Int).toNat)).length) * 56<=140737488355328/\([]:List (List S)).length+(Nd.encs ((l1.take at2.toNat).drop (0:Int).toNat)).length<=9223372036854775807 from by simp only[List.length_append,List.length_cons,List.length_nil,List.length_map,rlen Nd.encs_eq]at hq ⊢; omega) ?_;show Tri ..
 refine zAh (Le.rnm [(1,0)] [(0,.s (.sl 4 (Nd.encs l1))),(2,.s (.int .i64 to3)),(3,.s (.sl 4 (Nd.encs by4))),(9,.orow 0)] [(0,.row 24 4 (Nd.encs ((l1.take at2.toNat).drop (0:Int).toNat)))] 1 ⟨rfl,rfl,rfl,rfl,trivial⟩ ⟨rfl,⟨_,rfl,congrArg (Ob.row 24 4) zHN⟩,trivial⟩) ?_;refine zYf [17] [] rfl ?_
 obtain⟨hq,h⟩:=zAw h;refine And.intro (show((Nd.encs ((l1.take at2.toNat).drop (0:Int).toNat)).length+(Nd.encs by4).length) * 56<=140737488355328/\(Nd.encs ((l1.take at2.toNat).drop (0:Int).toNat)).length+(Nd.encs by4).length<=9223372036854775807 from by simp only[List.length_append,List.length_cons,List.length_nil,List.length_map,List.length_take,rlen Nd.encs_eq]at hq ⊢; omega) ?_;show Tri ..
 refine zAh (Le.rnm [(1,0)] [(0,.s (.sl 4 (Nd.encs l1))),(2,.s (.int .i64 to3)),(9,.orow 0)] [(0,.row 24 4 (Nd.encs (((l1.take at2.toNat).drop (0:Int).toNat)++by4)))] 1 ⟨rfl,rfl,rfl,trivial⟩ ⟨rfl,⟨_,rfl,congrArg (Ob.row 24 4) zHN⟩,trivial⟩) ?_;refine zYf [22] [21] rfl ?_
 obtain⟨hq,h⟩:=zAw h;refine And.intro ⟨hq.1,Int.le_trans hq.2.1 (Int.ofNat_le.2 (Nat.le_of_eq (rlen Nd.encs_eq _).symm)),Int.le_refl _⟩ ?_;intro r6 hr6;obtain rfl:Nd.encs ((l1.take (l1.length:Int).toNat).drop to3.toNat)=r6:=(hr6.trans ((congrArg (fun m:Nat=>((Nd.encs l1).take m).drop to3.toNat) (rlen Nd.encs_eq _)).trans (rcut Nd.encs_eq _ _ _))).symm;obtain⟨hq,h⟩:=zAw h
 refine And.intro (show((Nd.encs (((l1.take at2.toNat).drop (0:Int).toNat)++by4)).length+(Nd.encs ((l1.take (l1.length:Int).toNat).drop to3.toNat)).length) * 56<=140737488355328/\(Nd.encs (((l1.take at2.toNat).drop (0:Int).toNat)++by4)).length+(Nd.encs ((l1.take (l1.length:Int).toNat).drop to3.toNat)).length<=9223372036854775807 from by simp only[List.length_append,List.length_cons,List.length_nil,List.length_map,List.length_take,rlen Nd.encs_eq]at hq ⊢; omega) ?_;show Tri ..
 refine zAh (Le.rnm [(1,0)] [(8,.orow 0)] [(0,.row 24 4 (Nd.encs ((((l1.take at2.toNat).drop (0:Int).toNat)++by4)++((l1.take (l1.length:Int).toNat).drop to3.toNat))))] 1 ⟨rfl,trivial⟩ ⟨rfl,⟨_,rfl,congrArg (Ob.row 24 4) zHN⟩,trivial⟩) ?_;refine zAe ?_;have hy:=osi h;subst hy;unfold zBC
 exact⟨_,Le.refl _ _,0,rfl,rfl⟩
def zNf (xs:List AV) (r:Ret):Prop:=∃ (a0:Nd) (a1:Int) (a2:Nd) (y0:Nd),zBo a0 a1 a2=some y0/\xs=[.agg ((Nd.enc a0).map .s),.s (.int .i64 a1),.agg ((Nd.enc a2).map .s)]/\r = .val (.agg ((Nd.enc y0).map .s))
def zD0:zAq:=zAs fun xs r=>zNf xs r
theorem zEF:PSound Tryz.prog 84 zD0:=by
 have gok:=@gok0 Tryz.prog;refine zAr tokW Tryz.call84 Tryz.func84 rfl (fun xs r h=>by obtain⟨_,_,_,_,_,rfl,_⟩:=h; show 3<=18; decide) 18 rfl ?_;rintro xs r w0 G0 ⟨⟨n1A,n1C,n1D,n1B⟩,i2,⟨kid3A,kid3C,kid3D,kid3B⟩,y0,h,rfl,rfl⟩ _;rw[zBo]at h;refine zYf [3,6] [] rfl ?_;refine zYf [7,10] [] rfl ?_;obtain⟨hq,h⟩:=zAw h
 refine And.intro (show(([]:List (List S)).length+(Nd.encs n1B).length) * 56<=140737488355328/\([]:List (List S)).length+(Nd.encs n1B).length<=9223372036854775807 from by simp only[List.length_append,List.length_cons,List.length_nil,List.length_map,rlen Nd.encs_eq]at hq ⊢; omega) ?_;show Tri ..
 refine zAh (Le.rnm [(0,0),(3,1),(1,2)] [(1,.s (.int .i64 i2)),(3,.op 0 0),(5,.s (.pt [.int .i64 kid3A,.str kid3C,.int .i64 kid3D,.sl 4 (Nd.encs kid3B)])),(6,.op 2 0)] [(0,.box 24 [.s (.int .i64 n1A),.s (.str n1C),.s (.int .i64 n1D),.orow 1]),(1,.row 24 4 (Nd.encs n1B)),(2,.box 24 [.s (.int .i64 0),.s (.str []),.s (.int .i64 0),.nl 4])] 3 ⟨rfl,rfl,rfl,rfl,trivial⟩ ⟨rfl,⟨_,rfl,rfl⟩,rfl,⟨_,rfl,congrArg (Ob.row 24 4) zHN⟩,rfl,⟨_,rfl,rfl⟩,trivial⟩) ?_
 refine zYV ?_;obtain⟨⟨e4A,e4C,e4D,e4B⟩,he4,h⟩:=zAc h;refine And.intro (zAp Nd.encs_eq he4).1 ?_;have hset5:=(rset (R:=Nd.encs) (f:=Nd.enc) Nd.encs_eq he4 (Nd.mk kid3A kid3C kid3D kid3B) 0 4 [.int .i64 kid3A,.str kid3C,.int .i64 kid3D,.sl 4 (Nd.encs kid3B)] rfl)
 have hat5:=at_set he4 (Nd.mk kid3A kid3C kid3D kid3B)
 refine And.intro (zAp Nd.encs_eq he4).2.2 ?_;refine zAh (Le.rnm [(0,0),(1,1),(2,2)] [(3,.op 0 0),(6,.op 2 0)] [(0,.box 24 [.s (.int .i64 n1A),.s (.str n1C),.s (.int .i64 n1D),.orow 1]),(1,.row 24 4 (Nd.encs (n1B.set i2.toNat (Nd.mk kid3A kid3C kid3D kid3B)))),(2,.box 24 [.s (.int .i64 0),.s (.str []),.s (.int .i64 0),.nl 4])] 3 ⟨rfl,rfl,trivial⟩ ⟨rfl,⟨_,rfl,rfl⟩,rfl,⟨_,rfl,congrArg (Ob.row 24 4) hset5⟩,rfl,⟨_,rfl,rfl⟩,trivial⟩) ?_;refine zYV ?_;refine zAe ?_;have hy:=osi h;subst hy;unfold zBC
 exact⟨_,(Le.trans (Le.rnm [(2,0),(1,1)] [(6,.op 0 0)] [(0,.box 24 [.s (.int .i64 n1A),.s (.str n1C),.s (.int .i64 n1D),.orow 1]),(1,.row 24 4 (Nd.encs (n1B.set i2.toNat (Nd.mk kid3A kid3C kid3D kid3B))))] 2 ⟨rfl,trivial⟩ ⟨rfl,⟨_,rfl,rfl⟩,rfl,⟨_,rfl,rfl⟩,trivial⟩) (Le.giveRow 1 rfl)),rfl,rfl⟩
def zQg (xs:List AV) (r:Ret):Prop:=∃ (a0:Nd) (a1:Int) (a2:List Nd) (y0:Nd),zDw a0 a1 a2=some y0/\xs=[.agg ((Nd.enc a0).map .s),.s (.int .i64 a1),.s (.sl 4 (Nd.encs a2))]/\r = .val (.agg ((Nd.enc y0).map .s))
def zKZ:zAq:=zAs fun xs r=>zQg xs r
theorem zPx:PSound Tryz.prog 141 zKZ:=by
 have gok:∀ f s,look? f [(48,zCO),(84,zD0)]=some s->PSound Tryz.prog f s:=zAo (by
  simp only[List.forall_mem_cons]
  exact⟨zCN,zEF,by simp⟩)
 refine zAr tokW Tryz.call141 Tryz.func141 rfl (fun xs r h=>by obtain⟨_,_,_,_,_,rfl,_⟩:=h; show 3<=14; decide) 14 rfl ?_;rintro xs r w0 G0 ⟨⟨n1A,n1C,n1D,n1B⟩,slot2,l3,y0,h,rfl,rfl⟩ _;rw[zDw]at h;refine zYf [6] [] rfl ?_;refine zAa ?_;refine zCi [9,11] [] [2,4,5,7] [] rfl (by decide +kernel) ?_;obtain⟨hq,h⟩:=zAw h
 refine And.intro (show(([]:List (List S)).length+(Nd.encs l3).length) * 56<=140737488355328/\([]:List (List S)).length+(Nd.encs l3).length<=9223372036854775807 from by simp only[List.length_append,List.length_cons,List.length_nil,List.length_map,rlen Nd.encs_eq]at hq ⊢; omega) ?_;obtain⟨⟨y4A,y4C,y4D,y4B⟩,hy4,h⟩:=zAc h
 refine⟨_,⟨_,_,hy4,(congrArg (fun r=>[AV.s (.sl 4 r)]) (show[]++(Nd.encs l3)=Nd.encs l3 from zHN)),rfl⟩,?_⟩
 obtain⟨⟨y5A,y5C,y5D,y5B⟩,hy5,h⟩:=zAc h;refine⟨_,⟨_,_,_,_,hy5,rfl,rfl⟩,?_⟩
 refine zAe ?_;have hy:=osi h;subst hy;exact fin0 rfl rfl
def zQf (n:Nat) (xs:List AV) (r:Ret):Prop:=∃ (a0:List Nd) (a1:zO8) (y0:List Nd) (y1:Int),zFk n a0 a1=some (y0,y1)/\xs=[.s (.sl 4 (Nd.encs a0)),.agg ((zAk a1).map .s)]/\r = .val (.tup [.s (.sl 4 (Nd.encs y0)),.s (.int .i64 y1)])
def zKY:zAq:=zAs fun xs r=>∃ n,zQf n xs r
theorem zPw:PSound Tryz.prog 116 zKY:=by
 have gok:∀ f s,look? f [(140,zK0),(33,zF2),(141,zKZ),(13,zJm)]=some s->PSound Tryz.prog f s:=zAo (by
  simp only[List.forall_mem_cons]
  exact⟨zPy,zHD,zPx,zLg,by simp⟩)
 refine zAr tokW Tryz.call116 Tryz.func116 rfl (fun xs r h=>by obtain⟨n,_,_,_,_,_,rfl,_⟩:=h; show 2<=173; decide) 173 rfl ?_;rintro xs r w0 G0 ⟨n,a1,⟨a2A,a2G,a2L,a2S,a2R,a2V,a2Ac,a2C⟩,y0,y1,h,rfl,rfl⟩ _;rw[zFk]at h;refine zYV ?_;refine zYV ?_;refine zAa ?_;refine zYV ?_;show Tri ..;obtain⟨x3,hj,h⟩:=zAc h
 refine zAm ⟨ofL [(0,.s (.sl 4 (Nd.encs a1))),(3,.s (.pt [.int .i64 a2A,.sl 1 ((List.map (irow .i64)) a2G),.int .i64 a2L,.int .i64 a2S,.sl 4 (Nd.encs a2R),.int .i64 a2V,.str a2Ac,.str a2C])),(6,.s (.int .i64 x3))],fun _=>none,0⟩ ?_ (fun σ' hle=>?_)
 ·replace h:=hj;refine zAl ?_;refine zYV ?_;refine zAg rfl h (fun hb h=>?_) (fun hb h=>?_)
  ·refine zYU ?_;cases h;exact(Le.forget _ ⟨rfl,rfl,rfl,trivial⟩)
  ·refine zYV ?_;refine zAg rfl h (fun hb h=>?_) (fun hb h=>?_)
   ·refine zAb [] [17] rfl ?_;intro n4 hn4;obtain rfl:(a2R.length:Int)=n4:=(hn4.trans (congrArg (fun m:Nat=>(m:Int)) (rlen Nd.encs_eq a2R))).symm;cases h;exact(Le.forget _ ⟨rfl,rfl,rfl,trivial⟩)
   ·refine zYV ?_;refine zAg rfl h (fun hb h=>?_) (fun hb h=>?_)
    ·refine zYU ?_;cases h;exact(Le.forget _ ⟨rfl,rfl,rfl,trivial⟩)
    ·refine zAf ?_;cases h;exact(Le.forget _ ⟨rfl,rfl,rfl,trivial⟩)
 ·refine zAh hle ?_;refine zAa ?_;refine zAa ?_;obtain⟨x5,hj,h⟩:=zAc h;refine zAm ⟨ofL [(0,.s (.sl 4 (Nd.encs a1))),(3,.s (.pt [.int .i64 a2A,.sl 1 ((List.map (irow .i64)) a2G),.int .i64 a2L,.int .i64 a2S,.sl 4 (Nd.encs a2R),.int .i64 a2V,.str a2Ac,.str a2C])),(6,.s (.int .i64 x3)),(40,.s (.bool x5))],fun _=>none,0⟩ ?_ (fun σ' hle=>?_)
  ·replace h:=hj;refine zAb [] [25,29,32,35] rfl ?_;intro b hb;cases b with
   | true =>
    replace h:=zAu hb.symm h;intro b hb;subst hb;cases h;exact(Le.forget _ ⟨rfl,rfl,rfl,rfl,trivial⟩)
   | false =>
    replace h:=zAt hb.symm h;intro n6 hn6;obtain rfl:(a1.length:Int)=n6:=(hn6.trans (congrArg (fun m:Nat=>(m:Int)) (rlen Nd.encs_eq a1))).symm;intro b hb;cases b with
    | true =>
     replace h:=zAu hb.symm h;cases h;exact(Le.forget _ ⟨rfl,rfl,rfl,rfl,trivial⟩)
    | false =>
     replace h:=zAt hb.symm h;intro n7 hn7;obtain rfl:(a1.length:Int)=n7:=(hn7.trans (congrArg (fun m:Nat=>(m:Int)) (rlen Nd.encs_eq a1))).symm;cases h;exact(Le.forget _ ⟨rfl,rfl,rfl,rfl,trivial⟩)
  ·refine zAh hle ?_;refine zAg rfl h (fun hb h=>?_) (fun hb h=>?_)
   ·refine zYV ?_;refine zAe ?_;obtain⟨hj1,hk1⟩:=pij h;subst hj1 hk1;exact fin0 rfl rfl
   ·refine zAf ?_;refine zYV ?_;refine zAa ?_;refine zYV ?_;refine zAl ?_;refine zYV ?_;refine zAg rfl h (fun hb h=>?_) (fun hb h=>?_)
    ·refine zYV ?_;obtain⟨y8,hy8,h⟩:=zAc h;refine⟨_,⟨_,_,_,_,_,hy8,rfl,rfl⟩,?_⟩
     refine zAe ?_;obtain⟨hj1,hk1⟩:=pij h;subst hj1 hk1;exact fin0 rfl rfl
    ·refine zYV ?_;refine zAg rfl h (fun hb h=>?_) (fun hb h=>?_)
     ·refine zAa ?_;refine zAa ?_;refine zAA [] [62] [] rfl (by decide +kernel) ?_;obtain⟨hq,h⟩:=zAw h;refine And.intro ⟨hq.1,hq.2.1,Int.le_trans hq.2.2 (Int.ofNat_le.2 (Nat.le_of_eq (rlen Nd.encs_eq _).symm))⟩ ?_;intro r9 hr9;obtain rfl:Nd.encs ((a1.take (IntKind.i64.wrap (a2L+x3)).toNat).drop a2L.toNat)=r9:=(hr9.trans (rcut Nd.encs_eq _ _ _)).symm;obtain⟨y10,hy10,h⟩:=zAc h;refine⟨_,⟨_,_,_,_,hy10,rfl,rfl⟩,?_⟩
      refine zAg rfl h (fun hb h=>?_) (fun hb h=>?_)
      ·refine zYV ?_;refine zAe ?_;obtain⟨hj1,hk1⟩:=pij h;subst hj1 hk1;exact fin0 rfl rfl
      ·refine zAf ?_;refine zYV ?_;obtain⟨y11,hy11,h⟩:=zAc h;refine⟨_,⟨_,_,_,_,_,hy11,rfl,rfl⟩,?_⟩
       refine zAe ?_;obtain⟨hj1,hk1⟩:=pij h;subst hj1 hk1;exact fin0 rfl rfl
     ·refine zYV ?_;refine zAg rfl h (fun hb h=>?_) (fun hb h=>?_)
      ·refine zAa ?_;refine zAA [] [80,88,90] [] rfl (by decide +kernel) ?_;obtain⟨⟨e12A,e12C,e12D,e12B⟩,he12,h⟩:=zAc h;refine And.intro (zAp Nd.encs_eq he12).1 ?_;intro r13 hr13;obtain rfl:[.int .i64 e12A,.str e12C,.int .i64 e12D,.sl 4 (Nd.encs e12B)]=r13:=(hr13.trans (zAp Nd.encs_eq he12).2.1).symm;obtain⟨hq,h⟩:=zAw h;refine And.intro ⟨hq.1,hq.2.1,Int.le_trans hq.2.2 (Int.ofNat_le.2 (Nat.le_of_eq (rlen Nd.encs_eq _).symm))⟩ ?_;intro r14 hr14;obtain rfl:Nd.encs ((a1.take (IntKind.i64.wrap (a2L+x3)).toNat).drop a2L.toNat)=r14:=(hr14.trans (rcut Nd.encs_eq _ _ _)).symm
       obtain⟨⟨y15A,y15C,y15D,y15B⟩,hy15,h⟩:=zAc h;refine⟨_,⟨_,_,_,_,hy15,rfl,rfl⟩,?_⟩
       intro r16 hr16;obtain rfl:Nd.encs [Nd.mk y15A y15C y15D y15B]=r16:=(hr16.trans zHN).symm;obtain⟨y17,hy17,h⟩:=zAc h;refine⟨_,⟨_,_,_,_,_,hy17,rfl,rfl⟩,?_⟩
       refine zAe ?_;obtain⟨hj1,hk1⟩:=pij h;subst hj1 hk1;exact fin0 rfl rfl
      ·refine zAf ?_;refine zYf [8] [95] rfl ?_;obtain⟨⟨e18A,e18C,e18D,e18B⟩,he18,h⟩:=zAc h;refine And.intro (zAp Nd.encs_eq he18).1 ?_;intro r19 hr19;obtain rfl:[.int .i64 e18A,.str e18C,.int .i64 e18D,.sl 4 (Nd.encs e18B)]=r19:=(hr19.trans (zAp Nd.encs_eq he18).2.1).symm;refine zAa ?_;refine zYV ?_;refine zAg rfl h (fun hb h=>?_) (fun hb h=>?_)
       ·refine zAa ?_;refine zAa ?_;obtain⟨x20,hj,h⟩:=zAc h;refine zAm ⟨ofL [(0,.s (.sl 4 (Nd.encs a1))),(3,.s (.pt [.int .i64 a2A,.sl 1 ((List.map (irow .i64)) a2G),.int .i64 a2L,.int .i64 a2S,.sl 4 (Nd.encs a2R),.int .i64 a2V,.str a2Ac,.str a2C])),(7,.s (.int .i64 (IntKind.i64.wrap (a2L+x3)))),(8,.op 0 0),(137,.s (.bool x20))],ofH [(0,.box 24 [.s (.int .i64 e18A),.s (.str e18C),.s (.int .i64 e18D),.s (.sl 4 (Nd.encs e18B))])],1⟩ ?_ (fun σ' hle=>?_)
        ·replace h:=hj;refine zAA [] [104,106,111,114,119,123,131] [3,8,20,28] rfl (by decide +kernel) ?_;intro n21 hn21;obtain rfl:(e18B.length:Int)=n21:=(hn21.trans (congrArg (fun m:Nat=>(m:Int)) (rlen Nd.encs_eq e18B))).symm;intro b hb;cases b with
         | true =>
          replace h:=zAu hb.symm h;intro b hb;subst hb;cases h;exact(Le.rnm [(0,0)] _ _ _ ⟨rfl,rfl,rfl,rfl,rfl,trivial⟩ ⟨rfl,⟨_,rfl,rfl⟩,trivial⟩)
         | false =>
          replace h:=zAt hb.symm h;obtain⟨⟨e22A,e22C,e22D,e22B⟩,he22,h⟩:=zAc h;refine And.intro (zAp Nd.encs_eq he22).1 ?_;intro r23 hr23;obtain rfl:[.int .i64 e22A,.str e22C,.int .i64 e22D,.sl 4 (Nd.encs e22B)]=r23:=(hr23.trans (zAp Nd.encs_eq he22).2.1).symm;intro n24 hn24;obtain rfl:(e22B.length:Int)=n24:=(hn24.trans (congrArg (fun m:Nat=>(m:Int)) (rlen Nd.encs_eq e22B))).symm;intro b hb;cases b with
          | true =>
           replace h:=zAu hb.symm h;cases h;exact(Le.rnm [(0,0)] _ _ _ ⟨rfl,rfl,rfl,rfl,rfl,trivial⟩ ⟨rfl,⟨_,rfl,rfl⟩,trivial⟩)
          | false =>
           replace h:=zAt hb.symm h;obtain⟨⟨e25A,e25C,e25D,e25B⟩,he25,h⟩:=zAc h;refine And.intro (zAp Nd.encs_eq he25).1 ?_;intro r26 hr26;obtain rfl:[.int .i64 e25A,.str e25C,.int .i64 e25D,.sl 4 (Nd.encs e25B)]=r26:=(hr26.trans (zAp Nd.encs_eq he25).2.1).symm;obtain⟨⟨e27A,e27C,e27D,e27B⟩,he27,h⟩:=zAc h;refine And.intro (zAp Nd.encs_eq he27).1 ?_;intro r28 hr28;obtain rfl:[.int .i64 e27A,.str e27C,.int .i64 e27D,.sl 4 (Nd.encs e27B)]=r28:=(hr28.trans (zAp Nd.encs_eq he27).2.1).symm;obtain⟨⟨y29A,y29C,y29D,y29B⟩,hy29,h⟩:=zAc h
           refine⟨_,⟨_,_,_,_,hy29,rfl,rfl⟩,?_⟩
           obtain⟨y30,hy30,h⟩:=zAc h;refine⟨_,⟨_,_,_,_,hy30,rfl,rfl⟩,?_⟩
           cases h;exact(Le.rnm [(0,0)] _ _ _ ⟨rfl,rfl,rfl,rfl,rfl,trivial⟩ ⟨rfl,⟨_,rfl,rfl⟩,trivial⟩)
        ·refine zAh hle ?_;refine zAg rfl h (fun hb h=>?_) (fun hb h=>?_)
         ·refine zYV ?_;refine zAe ?_;obtain⟨hj1,hk1⟩:=pij h;subst hj1 hk1;exact fin0 rfl rfl
         ·refine zAf ?_;refine zAa ?_;refine zAA [] [146] [5] rfl (by decide +kernel) ?_;obtain⟨⟨e31A,e31C,e31D,e31B⟩,he31,h⟩:=zAc h;refine And.intro (zAp Nd.encs_eq he31).1 ?_;intro r32 hr32;obtain rfl:[.int .i64 e31A,.str e31C,.int .i64 e31D,.sl 4 (Nd.encs e31B)]=r32:=(hr32.trans (zAp Nd.encs_eq he31).2.1).symm;obtain⟨y33,hy33,h⟩:=zAc h;refine⟨_,⟨_,_,_,_,_,hy33,rfl,rfl⟩,?_⟩
          refine zAe ?_;obtain⟨hj1,hk1⟩:=pij h;subst hj1 hk1;exact fin0 rfl rfl
       ·refine zAf ?_;refine zAa ?_;refine zYV ?_;show Tri ..;obtain⟨fl,hj,ho1⟩:=zAc h;refine zBA (fl:=fl) (fun z=>match z with | _=>⟨ofL [],fun _=>none,0⟩) ?_ (fun z σ' hz hle=>?_)
        ·replace h:=hj;refine zAl ?_;refine zAa ?_;refine zYV ?_;show Tri ..;obtain⟨x34,hj,h⟩:=zAc h;refine zAm ⟨ofL [(0,.s (.sl 4 (Nd.encs a1))),(3,.s (.pt [.int .i64 a2A,.sl 1 ((List.map (irow .i64)) a2G),.int .i64 a2L,.int .i64 a2S,.sl 4 (Nd.encs a2R),.int .i64 a2V,.str a2Ac,.str a2C])),(7,.s (.int .i64 (IntKind.i64.wrap (a2L+x3)))),(8,.op 0 0),(152,.s (.bool x34))],ofH [(0,.box 24 [.s (.int .i64 e18A),.s (.str e18C),.s (.int .i64 e18D),.s (.sl 4 (Nd.encs e18B))])],1⟩ ?_ (fun σ' hle=>?_)
         ·replace h:=hj;refine zAg rfl h (fun hb h=>?_) (fun hb h=>?_)
          ·refine zAf ?_;cases h;exact(Le.rnm [(0,0)] _ _ _ ⟨rfl,rfl,rfl,rfl,rfl,trivial⟩ ⟨rfl,⟨_,rfl,rfl⟩,trivial⟩)
          ·refine zYV ?_;refine zAg rfl h (fun hb h=>?_) (fun hb h=>?_)
           ·refine zAf ?_;cases h;exact(Le.rnm [(0,0)] _ _ _ ⟨rfl,rfl,rfl,rfl,rfl,trivial⟩ ⟨rfl,⟨_,rfl,rfl⟩,trivial⟩)
           ·refine zYV ?_;refine zAg rfl h (fun hb h=>?_) (fun hb h=>?_)
            ·refine zAf ?_;cases h;exact(Le.rnm [(0,0)] _ _ _ ⟨rfl,rfl,rfl,rfl,rfl,trivial⟩ ⟨rfl,⟨_,rfl,rfl⟩,trivial⟩)
            ·refine zYV ?_;refine zAg rfl h (fun hb h=>?_) (fun hb h=>?_)
             ·refine zAf ?_;cases h;exact(Le.rnm [(0,0)] _ _ _ ⟨rfl,rfl,rfl,rfl,rfl,trivial⟩ ⟨rfl,⟨_,rfl,rfl⟩,trivial⟩)
             ·refine zYU ?_;cases h;exact(Le.rnm [(0,0)] _ _ _ ⟨rfl,rfl,rfl,rfl,rfl,trivial⟩ ⟨rfl,⟨_,rfl,rfl⟩,trivial⟩)
         ·refine zAh hle ?_;refine zAg rfl h (fun hb h=>?_) (fun hb h=>?_)
          ·refine zYV ?_;refine zAg rfl h (fun hb h=>?_) (fun hb h=>?_)
           ·refine zYV ?_;refine zYf [] [171] rfl ?_;intro r35 hr35;obtain rfl:Nd.encs [Nd.mk e18A a2C e18D e18B]=r35:=(hr35.trans zHN).symm;obtain⟨y36,hy36,h⟩:=zAc h;refine⟨_,⟨_,_,_,_,_,hy36,rfl,rfl⟩,?_⟩
            refine zAe ?_;cases h;replace h:some _=some _:=ho1;obtain⟨hj1,hk1⟩:=pij h;subst hj1 hk1;exact fin0 rfl rfl
           ·refine zAf ?_;cases h;exact⟨_,rfl,(Le.rnm [] _ [] 0 trivial trivial)⟩
          ·refine zAf ?_;cases h;exact⟨_,rfl,(Le.rnm [] _ [] 0 trivial trivial)⟩
        ·subst hz;obtain _:=z;replace h:=ho1;refine zAh hle ?_;refine zYV ?_;refine zAe ?_;obtain⟨hj1,hk1⟩:=pij h;subst hj1 hk1;exact fin0 rfl rfl
def zHQ (n:Nat) (xs:List AV) (r:Ret):Prop:=∃ (a0:Nd) (a1:List Int) (a2:List Nd) (y0:Nd),zFl n a0 a1 a2=some y0/\xs=[.agg ((Nd.enc a0).map .s),.s (.sl 1 ((List.map (irow .i64)) a1)),.s (.sl 4 (Nd.encs a2))]/\r = .val (.agg ((Nd.enc y0).map .s))
theorem zRI (n:Nat) (ih:PSound Tryz.prog 117 (zAs (zHQ n))):PSound Tryz.prog 117 (zAs (zHQ (n+1))):=by
 have gok:∀ f s,look? f [(48,zCO),(117,zAs (zHQ n)),(84,zD0)]=some s->PSound Tryz.prog f s:=zAo (by
  simp only[List.forall_mem_cons]
  exact⟨zCN,ih,zEF,by simp⟩)
 refine zAr tokW Tryz.call117 Tryz.func117 rfl (fun xs r h=>by obtain⟨_,_,_,_,_,rfl,_⟩:=h; show 3<=41; decide) 41 rfl ?_;rintro xs r w0 G0 ⟨⟨n1A,n1C,n1D,n1B⟩,path2,l3,y0,h,rfl,rfl⟩ _;rw[zFl]at h;refine zYf [6] [] rfl ?_;refine zAa ?_;refine zYf [] [9] rfl ?_;intro n4 hn4;obtain rfl:(path2.length:Int)=n4:=(hn4.trans (congrArg (fun m:Nat=>(m:Int)) (rlen (fun _=>rfl) path2))).symm;refine zAg rfl h (fun hb h=>?_) (fun hb h=>?_)
 ·refine zYV ?_;obtain⟨⟨y5A,y5C,y5D,y5B⟩,hy5,h⟩:=zAc h;refine⟨_,⟨_,_,hy5,rfl,rfl⟩,?_⟩
  refine zAe ?_;have hy:=osi h;subst hy;exact fin0 rfl rfl
 ·refine zAf ?_;refine zAa ?_;refine zCi [7] [16,18] [7,8] [] rfl (by decide +kernel) ?_;obtain⟨e6,he6,h⟩:=zAc h;refine And.intro (zAp (fun _=>rfl) he6).1 ?_;intro r7 hr7;obtain rfl:[.int .i64 e6]=r7:=(hr7.trans (zAp (fun _=>rfl) he6).2.1).symm;obtain⟨⟨e8A,e8C,e8D,e8B⟩,he8,h⟩:=zAc h;refine And.intro (zAp Nd.encs_eq he8).1 ?_;intro r9 hr9;obtain rfl:[.int .i64 e8A,.str e8C,.int .i64 e8D,.sl 4 (Nd.encs e8B)]=r9:=(hr9.trans (zAp Nd.encs_eq he8).2.1).symm;show Tri ..
  refine zAh (Le.giveBox 1 [.int .i64 e8A,.str e8C,.int .i64 e8D,.sl 4 (Nd.encs e8B)] rfl rfl) ?_;refine zAa ?_;refine zAA [] [22,26,31,33,36] [21] rfl (by decide +kernel) ?_;obtain⟨e10,he10,h⟩:=zAc h;refine And.intro (zAp (fun _=>rfl) he10).1 ?_;intro r11 hr11;obtain rfl:[.int .i64 e10]=r11:=(hr11.trans (zAp (fun _=>rfl) he10).2.1).symm;obtain⟨e12,he12,h⟩:=zAc h;refine And.intro (zAp (fun _=>rfl) he12).1 ?_;intro r13 hr13;obtain rfl:[.int .i64 e12]=r13:=(hr13.trans (zAp (fun _=>rfl) he12).2.1).symm;obtain⟨e14,he14,h⟩:=zAc h;refine And.intro (zAp (fun _=>rfl) he14).1 ?_;intro r15 hr15
  obtain rfl:[.int .i64 e14]=r15:=(hr15.trans (zAp (fun _=>rfl) he14).2.1).symm;obtain⟨⟨e16A,e16C,e16D,e16B⟩,he16,h⟩:=zAc h;refine And.intro (zAp Nd.encs_eq he16).1 ?_;intro r17 hr17;obtain rfl:[.int .i64 e16A,.str e16C,.int .i64 e16D,.sl 4 (Nd.encs e16B)]=r17:=(hr17.trans (zAp Nd.encs_eq he16).2.1).symm;obtain⟨hq,h⟩:=zAw h;refine And.intro ⟨hq.1,Int.le_trans hq.2.1 (Int.ofNat_le.2 (Nat.le_of_eq (rlen (fun _=>rfl) _).symm)),Int.le_refl _⟩ ?_;intro r18 hr18
  obtain rfl:(List.map (irow .i64)) ((path2.take (path2.length:Int).toNat).drop (2:Int).toNat)=r18:=(hr18.trans ((congrArg (fun m:Nat=>(((List.map (irow .i64)) path2).take m).drop (2:Int).toNat) (rlen (fun _=>rfl) _)).trans (rcut (fun _=>rfl) _ _ _))).symm;obtain⟨⟨y19A,y19C,y19D,y19B⟩,hy19,h⟩:=zAc h;refine⟨_,⟨_,_,_,_,hy19,rfl,rfl⟩,?_⟩
  obtain⟨⟨y20A,y20C,y20D,y20B⟩,hy20,h⟩:=zAc h;refine⟨_,⟨_,_,_,_,hy20,rfl,rfl⟩,?_⟩
  obtain⟨⟨y21A,y21C,y21D,y21B⟩,hy21,h⟩:=zAc h;refine⟨_,⟨_,_,_,_,hy21,rfl,rfl⟩,?_⟩
  refine zAe ?_;have hy:=osi h;subst hy;exact fin0 rfl rfl
theorem zSa:∀ n,PSound Tryz.prog 117 (zAs (zHQ n)):=by
 intro n
 induction n with
 | zero=>exact zCC Tryz.call117 (fun xs r h=>by obtain⟨_,_,_,_,h,_⟩:=h; cases h)
 | succ n ih=>exact zRI n ih
def zQt:zAq:=zAs fun xs r=>∃ n,zHQ n xs r
theorem zUv:PSound Tryz.prog 117 zQt:=zC9 zSa
def zR2 (n:Nat) (xs:List AV) (r:Ret):Prop:=∃ (a0:Nd) (a1:zO8) (y0:Nd) (y1:Int),zD8 n a0 a1=some (y0,y1)/\xs=[.agg ((Nd.enc a0).map .s),.agg ((zAk a1).map .s)]/\r = .val (.tup [.agg ((Nd.enc y0).map .s),.s (.int .i64 y1)])
def zJp:zAq:=zAs fun xs r=>∃ n,zR2 n xs r
theorem zLj:PSound Tryz.prog 86 zJp:=by
 have gok:∀ f s,look? f [(25,zCy),(81,zHW),(76,zHV),(116,zKY),(117,zQt)]=some s->PSound Tryz.prog f s:=zAo (by
  simp only[List.forall_mem_cons]
  exact⟨zCv,zKd,zID,zPw,zUv,by simp⟩)
 refine zAr tokW Tryz.call86 Tryz.func86 rfl (fun xs r h=>by obtain⟨n,_,_,_,_,_,rfl,_⟩:=h; show 2<=50; decide) 50 rfl ?_;rintro xs r w0 G0 ⟨n,⟨n1A,n1C,n1D,n1B⟩,⟨op2A,op2G,op2L,op2S,op2R,op2V,op2Ac,op2C⟩,y0,y1,h,rfl,rfl⟩ _;rw[zD8]at h;refine zYf [4] [] rfl ?_;refine zAa ?_;refine zYV ?_;obtain⟨y3,hy3,h⟩:=zAc h;refine⟨_,⟨_,_,_,hy3,rfl,rfl⟩,?_⟩
 refine zAg rfl h (fun hb h=>?_) (fun hb h=>?_)
 ·refine zYV ?_;refine zAe ?_;obtain⟨hj1,hk1⟩:=pij h;subst hj1 hk1;exact fin0 rfl rfl
 ·refine zAf ?_;refine zAa ?_;refine zYV ?_;obtain⟨y4,hy4,h⟩:=zAc h;refine⟨_,⟨_,_,_,hy4,rfl,rfl⟩,?_⟩
  refine zAg rfl h (fun hb h=>?_) (fun hb h=>?_)
  ·refine zYV ?_;refine zAe ?_;obtain⟨hj1,hk1⟩:=pij h;subst hj1 hk1;exact fin0 rfl rfl
  ·refine zAf ?_;refine zYf [6] [] rfl ?_;obtain⟨⟨⟨y5A,y5C,y5D,y5B⟩,y6⟩,hy5,h⟩:=zAc h;refine⟨_,⟨_,_,_,_,_,hy5,rfl,rfl⟩,?_⟩
   refine zAh (Le.giveBox 1 [.int .i64 y5A,.str y5C,.int .i64 y5D,.sl 4 (Nd.encs y5B)] rfl rfl) ?_;refine zAa ?_;refine zYV ?_;refine zAg rfl h (fun hb h=>?_) (fun hb h=>?_)
   ·refine zYV ?_;refine zAe ?_;obtain⟨hj1,hk1⟩:=pij h;subst hj1 hk1;exact fin0 rfl rfl
   ·refine zAf ?_;refine zYV ?_;obtain⟨⟨y7,y8⟩,hy7,h⟩:=zAc h;refine⟨_,⟨_,_,_,_,_,hy7,rfl,rfl⟩,?_⟩
    refine zAa ?_;refine zYV ?_;refine zAg rfl h (fun hb h=>?_) (fun hb h=>?_)
    ·refine zYV ?_;refine zAe ?_;obtain⟨hj1,hk1⟩:=pij h;subst hj1 hk1;exact fin0 rfl rfl
    ·refine zAf ?_;refine zYf [9] [] rfl ?_;obtain⟨⟨y9A,y9C,y9D,y9B⟩,hy9,h⟩:=zAc h;refine⟨_,⟨_,_,_,_,_,hy9,rfl,rfl⟩,?_⟩
     refine zAh (Le.giveBox 2 [.int .i64 y9A,.str y9C,.int .i64 y9D,.sl 4 (Nd.encs y9B)] rfl rfl) ?_;refine zAa ?_;refine zYV ?_;obtain⟨y10,hy10,h⟩:=zAc h;refine⟨_,⟨_,_,_,hy10,rfl,rfl⟩,?_⟩
     refine zAg rfl h (fun hb h=>?_) (fun hb h=>?_)
     ·refine zYV ?_;refine zAe ?_;obtain⟨hj1,hk1⟩:=pij h;subst hj1 hk1;exact fin0 rfl rfl
     ·refine zAf ?_;refine zYV ?_;refine zAe ?_;obtain⟨hj1,hk1⟩:=pij h;subst hj1 hk1;exact fin0 rfl rfl
def zNg (n:Nat) (xs:List AV) (r:Ret):Prop:=∃ (a0:Nd) (a1:List zO8) (y0:Nd) (y1:Int) (y2:Int),zB4 n a0 a1=some (y0,y1,y2)/\xs=[.agg ((Nd.enc a0).map .s),.s (.sl 8 ((List.map zAk) a1))]/\r = .val (.tup [.agg ((Nd.enc y0).map .s),.s (.int .i64 y1),.s (.int .i64 y2)])
def zE1:zAq:=zAs fun xs r=>∃ n,zNg n xs r
theorem zGk:PSound Tryz.prog 66 zE1:=by
 have gok:∀ f s,look? f [(25,zCy),(86,zJp)]=some s->PSound Tryz.prog f s:=zAo (by
  simp only[List.forall_mem_cons]
  exact⟨zCv,zLj,by simp⟩)
 refine zAr tokW Tryz.call66 Tryz.func66 rfl (fun xs r h=>by obtain⟨n,_,_,_,_,_,_,rfl,_⟩:=h; show 2<=36; decide) 36 rfl ?_;rintro xs r w0 G0 ⟨n,⟨n1A,n1C,n1D,n1B⟩,ops2,y0,y1,y2,h,rfl,rfl⟩ _;rw[zB4]at h;refine zYf [2,4] [] rfl ?_;refine zAa ?_;refine zYV ?_;obtain⟨y3,hy3,h⟩:=zAc h;refine⟨_,⟨_,_,_,hy3,rfl,rfl⟩,?_⟩
 refine zAg rfl h (fun hb h=>?_) (fun hb h=>?_)
 ·refine zYV ?_;refine zAe ?_;obtain⟨hj1,hk1⟩:=pij h;subst hj1;obtain⟨hj2,hk2⟩:=Prod.mk.inj hk1;subst hj2;subst hk2;exact fin0 rfl rfl
 ·refine zAf ?_;refine zAa ?_;refine zYV ?_;show Tri ..;obtain⟨fl,hl,ho1⟩:=zAc h;refine zBA (fl:=fl) (fun z=>match z with | ⟨x10,x11,x12,x13⟩=>⟨ofL [(2,.op 0 0),(4,.op 1 0)],ofH [(0,.box 24 [.s (.int .i64 x10),.s (.str x11),.s (.int .i64 x12),.s (.sl 4 (Nd.encs x13))]),(1,.box 24 [.s (.int .i64 0),.s (.str []),.s (.int .i64 0),.nl 4])],2⟩) ?_ (fun z σ' hz hle=>?_)
  ·refine zAl (zAy (X:=Nat×Int×(List UInt8)×Int×(List Nd)×Int) (fun y=>match y with | (k,x4,x5,x6,x7,i9)=>⟨ofL [(1,.s (.sl 8 ((List.map zAk) ops2))),(2,.op 0 0),(4,.op 1 0),(7,.s (.int .i64 i9))],ofH [(0,.box 24 [.s (.int .i64 x4),.s (.str x5),.s (.int .i64 x6),.s (.sl 4 (Nd.encs x7))]),(1,.box 24 [.s (.int .i64 0),.s (.str []),.s (.int .i64 0),.nl 4])],2⟩) (fun y=>zBF n ops2 y.1 y.2.1 y.2.2.1 y.2.2.2.1 y.2.2.2.2.1 y.2.2.2.2.2=some fl) (fun y=>y.1) (n,n1A,n1C,n1D,n1B,0) hl ?_ ?_)
   ·exact(Le.rnm [(0,0),(1,1)] _ _ _ ⟨rfl,rfl,rfl,rfl,trivial⟩ ⟨rfl,⟨_,rfl,rfl⟩,rfl,⟨_,rfl,rfl⟩,trivial⟩)
   ·rintro⟨k,x4,x5,x6,x7,i9⟩ h;cases k with
    | zero=>cases h
    | succ k =>
     replace h:zBF n ops2 (k+1) x4 x5 x6 x7 i9=some fl:=h;rw[zBF]at h;refine zAa ?_;refine zYf [] [16] rfl ?_;intro n14 hn14;obtain rfl:(ops2.length:Int)=n14:=(hn14.trans (congrArg (fun m:Nat=>(m:Int)) (rlen (fun _=>rfl) ops2))).symm;refine zAg rfl h (fun hb h=>?_) (fun hb h=>?_)
     ·refine zAf ?_;refine zAa ?_;refine zAl ?_;refine zAa ?_;refine zCi [8] [24] [0,9,10] [0] rfl (by decide +kernel) ?_;obtain⟨⟨e15A,e15G,e15L,e15S,e15R,e15V,e15Ac,e15C⟩,he15,h⟩:=zAc h;refine And.intro (zAp (fun _=>rfl) he15).1 ?_;intro r16 hr16;obtain rfl:[.int .i64 e15A,.sl 1 ((List.map (irow .i64)) e15G),.int .i64 e15L,.int .i64 e15S,.sl 4 (Nd.encs e15R),.int .i64 e15V,.str e15Ac,.str e15C]=r16:=(hr16.trans (zAp (fun _=>rfl) he15).2.1).symm;obtain⟨⟨⟨y17A,y17C,y17D,y17B⟩,y18⟩,hy17,h⟩:=zAc h
      refine⟨_,⟨_,_,_,_,_,hy17,rfl,rfl⟩,?_⟩
      refine zAh (Le.giveBox 2 [.int .i64 y17A,.str y17C,.int .i64 y17D,.sl 4 (Nd.encs y17B)] rfl rfl) ?_;refine zAa ?_;refine zYV ?_;refine zAg rfl h (fun hb h=>?_) (fun hb h=>?_)
      ·refine zYV ?_;refine zAe ?_;cases h;replace h:some _=some _:=ho1;obtain⟨hj1,hk1⟩:=pij h;subst hj1;obtain⟨hj2,hk2⟩:=Prod.mk.inj hk1;subst hj2;subst hk2;exact fin0 rfl rfl
      ·refine zAf ?_;refine zYU ?_;refine zYU ?_;refine⟨(k,y17A,y17C,y17D,y17B,IntKind.i64.wrap (i9+1)),h,(Le.rnm [(0,0),(1,1)] _ _ _ ⟨rfl,rfl,rfl,rfl,trivial⟩ ⟨rfl,⟨_,rfl,rfl⟩,rfl,⟨_,rfl,rfl⟩,trivial⟩),Nat.lt_succ_self k⟩
     ·refine zAC ?_;cases h;exact⟨_,rfl,(Le.rnm [(0,0),(1,1)] _ _ _ ⟨rfl,rfl,trivial⟩ ⟨rfl,⟨_,rfl,rfl⟩,rfl,⟨_,rfl,rfl⟩,trivial⟩)⟩
  ·subst hz;obtain⟨x10,x11,x12,x13⟩:=z;replace h:=ho1;refine zAh hle ?_;refine zYV ?_;refine zAe ?_;obtain⟨hj1,hk1⟩:=pij h;subst hj1;obtain⟨hj2,hk2⟩:=Prod.mk.inj hk1;subst hj2;subst hk2;exact fin0 rfl rfl
def zTZ (n:Nat) (xs:List AV) (r:Ret):Prop:=∃ (a0:Nd) (a1:zCu) (a2:List zO8) (a3:List Int) (y0:zRc) (y1:Int),zBs n a0 a1 a2 a3=some (y0,y1)/\xs=[.agg ((Nd.enc a0).map .s),.agg ((zAz a1).map .s),.s (.sl 8 ((List.map zAk) a2)),.s (.sl 1 ((List.map (irow .i64)) a3))]/\r = .val (.tup [.agg ((zAd y0).map .s),.s (.int .i64 y1)])
def zEg:zAq:=zAs fun xs r=>∃ n,zTZ n xs r
theorem zEc:PSound Tryz.prog 73 zEg:=by
 have gok:∀ f s,look? f [(66,zE1)]=some s->PSound Tryz.prog f s:=zAo (by
  simp only[List.forall_mem_cons]
  exact⟨zGk,by simp⟩)
 refine zAr tokW Tryz.call73 Tryz.func73 rfl (fun xs r h=>by obtain⟨n,_,_,_,_,_,_,_,rfl,_⟩:=h; show 4<=28; decide) 28 rfl ?_;rintro xs r w0 G0 ⟨n,⟨n1A,n1C,n1D,n1B⟩,⟨c2Q,c2Ab⟩,ops3,pos4,y0,y1,h,rfl,rfl⟩ _;rw[zBs]at h;refine zYf [8] [] rfl ?_;refine zYf [10] [] rfl ?_;obtain⟨⟨⟨y5A,y5C,y5D,y5B⟩,y6,y7⟩,hy5,h⟩:=zAc h;refine⟨_,⟨_,_,_,_,_,_,hy5,rfl,rfl⟩,?_⟩
 refine zAh (Le.giveBox 1 [.int .i64 y5A,.str y5C,.int .i64 y5D,.sl 4 (Nd.encs y5B)] rfl rfl) ?_;refine zAa ?_;refine zYV ?_;refine zAg rfl h (fun hb h=>?_) (fun hb h=>?_)
 ·refine zYV ?_;refine zAe ?_;obtain⟨hj1,hk1⟩:=pij h;subst hj1 hk1;exact fin0 rfl rfl
 ·refine zAf ?_;refine zYV ?_;refine zAe ?_;obtain⟨hj1,hk1⟩:=pij h;subst hj1 hk1;exact fin0 rfl rfl
def zQl (n:Nat) (xs:List AV) (r:Ret):Prop:=∃ (a0:Nd) (a1:zCu) (a2:List Nd) (y0:zRc) (y1:Int),zCM n a0 a1 a2=some (y0,y1)/\xs=[.agg ((Nd.enc a0).map .s),.agg ((zAz a1).map .s),.s (.sl 4 (Nd.encs a2))]/\r = .val (.tup [.agg ((zAd y0).map .s),.s (.int .i64 y1)])
def zK4:zAq:=zAs fun xs r=>∃ n,zQl n xs r
theorem zPC:PSound Tryz.prog 50 zK4:=by
 have gok:∀ f s,look? f [(25,zCy),(70,zD6),(71,zDk),(72,zJW),(74,zIx),(73,zEg)]=some s->PSound Tryz.prog f s:=zAo (by
  simp only[List.forall_mem_cons]
  exact⟨zCv,zEX,zDz,zKE,zIk,zEc,by simp⟩)
 refine zAr tokW Tryz.call50 Tryz.func50 rfl (fun xs r h=>by obtain⟨n,_,_,_,_,_,_,rfl,_⟩:=h; show 3<=60; decide) 60 rfl ?_;rintro xs r w0 G0 ⟨n,⟨n1A,n1C,n1D,n1B⟩,⟨c2Q,c2Ab⟩,items3,y0,y1,h,rfl,rfl⟩ _;rw[zCM]at h;refine zYf [6] [] rfl ?_;refine zAa ?_;refine zAa ?_;obtain⟨x4,hj,h⟩:=zAc h
 refine zAm ⟨ofL [(2,.s (.sl 4 (Nd.encs items3))),(3,.s (.pt [.int .i64 n1A,.str n1C,.int .i64 n1D,.sl 4 (Nd.encs n1B)])),(4,.s (.pt [.sl 1 ((List.map (irow .i64)) c2Q),.sl 1 ((List.map (irow .i64)) c2Ab)])),(6,.op 0 0),(18,.s (.bool x4))],ofH [(0,.box 31 [.nl 8,.nl 1,.nl 1,.nl 1,.nl 1])],1⟩ ?_ (fun σ' hle=>?_)
 ·replace h:=hj;refine zAb [] [14] rfl ?_;obtain⟨y5,hy5,h⟩:=zAc h;refine⟨_,⟨_,_,_,hy5,rfl,rfl⟩,?_⟩
  intro b hb;cases b with
  | true =>
   replace h:=zAu hb.symm h;cases h;exact(Le.rnm [(0,0)] _ _ _ ⟨rfl,rfl,rfl,rfl,rfl,trivial⟩ ⟨rfl,⟨_,rfl,rfl⟩,trivial⟩)
  | false =>
   replace h:=zAt hb.symm h;obtain⟨y6,hy6,h⟩:=zAc h;refine⟨_,⟨_,_,_,hy6,rfl,rfl⟩,?_⟩
   cases h;exact(Le.rnm [(0,0)] _ _ _ ⟨rfl,rfl,rfl,rfl,rfl,trivial⟩ ⟨rfl,⟨_,rfl,rfl⟩,trivial⟩)
 ·refine zAh hle ?_;refine zAg rfl h (fun hb h=>?_) (fun hb h=>?_)
  ·refine zYV ?_;refine zAe ?_;obtain⟨hj1,hk1⟩:=pij h;subst hj1 hk1;exact fin0 rfl rfl
  ·refine zAf ?_;refine zYf [8] [] rfl ?_;obtain⟨⟨⟨y7G,y7Af,y7Ah⟩,y8⟩,hy7,h⟩:=zAc h;refine⟨_,⟨_,_,_,_,_,hy7,rfl,rfl⟩,?_⟩
   refine zAh (Le.giveBox 1 [.sl 1 ((List.map (irow .i64)) y7G),.int .i64 y7Af,.int .i64 y7Ah] rfl rfl) ?_;refine zAa ?_;refine zYV ?_;refine zAg rfl h (fun hb h=>?_) (fun hb h=>?_)
   ·refine zYV ?_;refine zAe ?_;obtain⟨hj1,hk1⟩:=pij h;subst hj1 hk1;exact fin0 rfl rfl
   ·refine zAf ?_;refine zYf [32] [] rfl ?_;obtain⟨y9,hy9,h⟩:=zAc h;refine⟨_,⟨_,_,_,_,hy9,rfl,rfl⟩,?_⟩
    refine zAa ?_;refine zYf [] [34] rfl ?_;intro n10 hn10;obtain rfl:(items3.length:Int)=n10:=(hn10.trans (congrArg (fun m:Nat=>(m:Int)) (rlen Nd.encs_eq items3))).symm;show Tri ..;obtain⟨l11,hj,h⟩:=zAc h
    refine zAm ⟨ofL [(2,.s (.sl 4 (Nd.encs items3))),(3,.s (.pt [.int .i64 n1A,.str n1C,.int .i64 n1D,.sl 4 (Nd.encs n1B)])),(4,.s (.pt [.sl 1 ((List.map (irow .i64)) c2Q),.sl 1 ((List.map (irow .i64)) c2Ab)])),(6,.op 0 0),(8,.s (.pt [.sl 1 ((List.map (irow .i64)) y7G),.int .i64 y7Af,.int .i64 y7Ah])),(10,.orow 1)],ofH [(0,.box 31 [.nl 8,.nl 1,.nl 1,.nl 1,.nl 1]),(1,.row 65 8 ((List.map zAk) l11))],2⟩ ?_ (fun σ' hle=>?_)
    ·replace h:=hj;refine zAg rfl h (fun hb h=>?_) (fun hb h=>?_)
     ·refine zAb [44] [43] rfl ?_;intro r12 hr12;obtain rfl:(List.map zAk) [(1,y7G,y7Af,0,items3,0,[],[])]=r12:=(hr12.trans zHN).symm;obtain⟨hq,h⟩:=zAw h
      refine And.intro (show(((List.map zAk) y9).length+((List.map zAk) [(1,y7G,y7Af,0,items3,0,[],[])]).length) * 112<=140737488355328/\((List.map zAk) y9).length+((List.map zAk) [(1,y7G,y7Af,0,items3,0,[],[])]).length<=9223372036854775807 from by simp only[List.length_append,List.length_cons,List.length_nil,List.length_map,rlen (fun _=>rfl)]at hq ⊢; omega) ?_;cases h
      exact(Le.trans (Le.rnm [(0,0),(3,1)] [(2,.s (.sl 4 (Nd.encs items3))),(3,.s (.pt [.int .i64 n1A,.str n1C,.int .i64 n1D,.sl 4 (Nd.encs n1B)])),(4,.s (.pt [.sl 1 ((List.map (irow .i64)) c2Q),.sl 1 ((List.map (irow .i64)) c2Ab)])),(6,.op 0 0),(8,.s (.pt [.sl 1 ((List.map (irow .i64)) y7G),.int .i64 y7Af,.int .i64 y7Ah])),(10,.orow 1)] [(0,.box 31 [.nl 8,.nl 1,.nl 1,.nl 1,.nl 1]),(1,.row 65 8 ((List.map zAk) (y9++[(1,y7G,y7Af,0,items3,0,[],[])])))] 2 ⟨rfl,rfl,rfl,rfl,rfl,rfl,trivial⟩ ⟨rfl,⟨_,rfl,rfl⟩,rfl,⟨_,rfl,congrArg (Ob.row 65 8) zHN⟩,trivial⟩) (Le.rnm [(0,0),(1,1)] _ _ _ ⟨rfl,rfl,rfl,rfl,rfl,rfl,trivial⟩ ⟨rfl,⟨_,rfl,rfl⟩,rfl,⟨_,rfl,rfl⟩,trivial⟩))
     ·refine zAf ?_;cases h;exact(Le.rnm [(0,0),(2,1)] _ _ _ ⟨rfl,rfl,rfl,rfl,rfl,rfl,trivial⟩ ⟨rfl,⟨_,rfl,rfl⟩,rfl,⟨_,rfl,rfl⟩,trivial⟩)
    ·refine zAh hle ?_;refine zAa ?_;refine zAA [] [53,55] [12,15] rfl (by decide +kernel) ?_;intro n13 hn13;obtain rfl:(items3.length:Int)=n13:=(hn13.trans (congrArg (fun m:Nat=>(m:Int)) (rlen Nd.encs_eq items3))).symm;intro r14 hr14
     obtain rfl:(List.map (irow .i64)) [IntKind.i64.wrap (y7Af+(items3.length:Int))]=r14:=(hr14.trans zHN).symm;obtain⟨y15,hy15,h⟩:=zAc h;refine⟨_,⟨_,_,_,hy15,rfl,rfl⟩,?_⟩
     obtain⟨⟨⟨y16W,⟨y16X,y16Y⟩,⟨y16Z,y16Aa⟩⟩,y17⟩,hy16,h⟩:=zAc h;refine⟨_,⟨_,_,_,_,_,_,_,hy16,rfl,rfl⟩,?_⟩
     refine zAe ?_;obtain⟨hj1,hk1⟩:=pij h;subst hj1 hk1;exact fin0 rfl rfl
def zR1 (xs:List AV) (r:Ret):Prop:=∃ (a0:(List Int×Int×Int)) (y0:List Int),zGe a0=some y0/\xs=[.agg ((zBY a0).map .s)]/\r = .row 3 1 ((List.map (irow .i64)) y0)
def zL6:zAq:=zAs fun xs r=>zR1 xs r
theorem zRm:PSound Tryz.prog 75 zL6:=by
 have gok:=@gok0 Tryz.prog;refine zAr tokW Tryz.call75 Tryz.func75 rfl (fun xs r h=>by obtain⟨_,_,_,rfl,_⟩:=h; show 1<=11; decide) 11 rfl ?_;rintro xs r w0 G0 ⟨⟨r1G,r1Af,r1Ah⟩,y0,h,rfl,rfl⟩ _;rw[zGe]at h;refine zYf [2] [] rfl ?_;refine zAh (Le.rnm [] [(1,.s (.pt [.sl 1 ((List.map (irow .i64)) r1G),.int .i64 r1Af,.int .i64 r1Ah]))] [] 0 ⟨rfl,trivial⟩ trivial) ?_;refine zAa ?_;refine zCi [3,6,10] [9] [0,3,7] [] rfl (by decide +kernel) ?_;obtain⟨hq,h⟩:=zAw h
 refine And.intro (show(([]:List (List S)).length+((List.map (irow .i64)) r1G).length) * 8<=140737488355328/\([]:List (List S)).length+((List.map (irow .i64)) r1G).length<=9223372036854775807 from by simp only[List.length_append,List.length_cons,List.length_nil,List.length_map,rlen (fun _=>rfl)]at hq ⊢; omega) ?_;intro r2 hr2
 obtain rfl:(List.map (irow .i64)) [r1Af]=r2:=(hr2.trans zHN).symm;obtain⟨hq,h⟩:=zAw h
 refine And.intro (show((([]:List (List S))++((List.map (irow .i64)) r1G)).length+((List.map (irow .i64)) [r1Af]).length) * 8<=140737488355328/\(([]:List (List S))++((List.map (irow .i64)) r1G)).length+((List.map (irow .i64)) [r1Af]).length<=9223372036854775807 from by simp only[List.length_append,List.length_cons,List.length_nil,List.length_map,rlen (fun _=>rfl)]at hq ⊢; omega) ?_;show Tri ..
 refine zAh (Le.rnm [(2,0)] [(2,.orow 0)] [(0,.row 3 1 ((List.map (irow .i64)) (r1G++[r1Af])))] 1 ⟨rfl,trivial⟩ ⟨rfl,⟨_,rfl,congrArg (Ob.row 3 1) zHN⟩,trivial⟩) ?_;refine zAe ?_;have hy:=osi h;subst hy;unfold zBC;exact⟨_,Le.refl _ _,0,rfl,rfl⟩
def zOX (n:Nat) (xs:List AV) (r:Ret):Prop:=∃ (a0:Nd) (a1:Int) (y0:Bool),zDP n a0 a1=some y0/\xs=[.agg ((Nd.enc a0).map .s),.s (.int .i64 a1)]/\r = .val (.s (.bool y0))
def zJV:zAq:=zAs fun xs r=>∃ n,zOX n xs r
theorem zNv:PSound Tryz.prog 77 zJV:=by
 have gok:=@gok0 Tryz.prog;refine zAr tokW Tryz.call77 Tryz.func77 rfl (fun xs r h=>by obtain⟨n,_,_,_,_,rfl,_⟩:=h; show 2<=26; decide) 26 rfl ?_;rintro xs r w0 G0 ⟨n,⟨n1A,n1C,n1D,n1B⟩,but2,y0,h,rfl,rfl⟩ _;rw[zDP]at h;refine zYV ?_;refine zAa ?_;refine zYV ?_;show Tri ..;obtain⟨fl,hl,ho1⟩:=zAc h;refine zBA (fl:=fl) (fun z=>match z with | _=>⟨ofL [],fun _=>none,0⟩) ?_ (fun z σ' hz hle=>?_)
 ·refine zAl (zAy (X:=Nat×Int) (fun y=>match y with | (k,i3)=>⟨ofL [(1,.s (.int .i64 but2)),(2,.s (.pt [.int .i64 n1A,.str n1C,.int .i64 n1D,.sl 4 (Nd.encs n1B)])),(5,.s (.int .i64 i3))],fun _=>none,0⟩) (fun y=>zBW n1B but2 y.1 y.2=some fl) (fun y=>y.1) (n,0) hl ?_ ?_)
  ·exact(Le.forget _ ⟨rfl,rfl,rfl,trivial⟩)
  ·rintro⟨k,i3⟩ h;cases k with
   | zero=>cases h
   | succ k =>
    replace h:zBW n1B but2 (k+1) i3=some fl:=h;rw[zBW]at h;refine zAa ?_;refine zYf [] [9] rfl ?_;intro n4 hn4;obtain rfl:(n1B.length:Int)=n4:=(hn4.trans (congrArg (fun m:Nat=>(m:Int)) (rlen Nd.encs_eq n1B))).symm;refine zAg rfl h (fun hb h=>?_) (fun hb h=>?_)
    ·refine zAf ?_;refine zAa ?_;refine zAl ?_;refine zAa ?_;obtain⟨x5,hj,h⟩:=zAc h;refine zAm ⟨ofL [(1,.s (.int .i64 but2)),(2,.s (.pt [.int .i64 n1A,.str n1C,.int .i64 n1D,.sl 4 (Nd.encs n1B)])),(5,.s (.int .i64 i3)),(25,.s (.bool x5))],fun _=>none,0⟩ ?_ (fun σ' hle=>?_)
     ·replace h:=hj;refine zAb [] [16,20,23] rfl ?_;intro b hb;cases b with
      | true =>
       replace h:=zAu hb.symm h;obtain⟨⟨e6A,e6C,e6D,e6B⟩,he6,h⟩:=zAc h;refine And.intro (zAp Nd.encs_eq he6).1 ?_;intro r7 hr7;obtain rfl:[.int .i64 e6A,.str e6C,.int .i64 e6D,.sl 4 (Nd.encs e6B)]=r7:=(hr7.trans (zAp Nd.encs_eq he6).2.1).symm;intro n8 hn8;obtain rfl:(e6B.length:Int)=n8:=(hn8.trans (congrArg (fun m:Nat=>(m:Int)) (rlen Nd.encs_eq e6B))).symm;cases h;exact(Le.forget _ ⟨rfl,rfl,rfl,rfl,trivial⟩)
      | false =>
       replace h:=zAt hb.symm h;cases h;exact(Le.forget _ ⟨rfl,rfl,rfl,rfl,trivial⟩)
     ·refine zAh hle ?_;refine zAg rfl h (fun hb h=>?_) (fun hb h=>?_)
      ·refine zYV ?_;refine zAe ?_;cases h;replace h:some _=some _:=ho1;have hy:=osi h;subst hy;exact fin0 rfl rfl
      ·refine zAf ?_;refine zYU ?_;refine⟨(k,IntKind.i64.wrap (i3+1)),h,(Le.forget _ ⟨rfl,rfl,rfl,trivial⟩),Nat.lt_succ_self k⟩
    ·refine zAC ?_;cases h;exact⟨_,rfl,(Le.forget _ trivial)⟩
 ·subst hz;obtain _:=z;replace h:=ho1;refine zAh hle ?_;refine zYV ?_;refine zAe ?_;have hy:=osi h;subst hy;exact fin0 rfl rfl
def zTO (n:Nat) (xs:List AV) (r:Ret):Prop:=∃ (a0:Nd) (a1:List Int) (a2:Int) (y0:Nd) (y1:Int),zFO n a0 a1 a2=some (y0,y1)/\xs=[.agg ((Nd.enc a0).map .s),.s (.sl 1 ((List.map (irow .i64)) a1)),.s (.int .i64 a2)]/\r = .val (.tup [.agg ((Nd.enc y0).map .s),.s (.int .i64 y1)])
def zKv:zAq:=zAs fun xs r=>∃ n,zTO n xs r
theorem zMF:PSound Tryz.prog 85 zKv:=by
 have gok:∀ f s,look? f [(76,zHV)]=some s->PSound Tryz.prog f s:=zAo (by
  simp only[List.forall_mem_cons]
  exact⟨zID,by simp⟩)
 refine zAr tokW Tryz.call85 Tryz.func85 rfl (fun xs r h=>by obtain⟨n,_,_,_,_,_,_,rfl,_⟩:=h; show 3<=35; decide) 35 rfl ?_;rintro xs r w0 G0 ⟨n,⟨n1A,n1C,n1D,n1B⟩,path2,i3,y0,y1,h,rfl,rfl⟩ _;rw[zFO]at h;refine zYf [6] [] rfl ?_;refine zYf [8] [] rfl ?_;obtain⟨⟨⟨y4A,y4C,y4D,y4B⟩,y5⟩,hy4,h⟩:=zAc h;refine⟨_,⟨_,_,_,_,_,hy4,rfl,rfl⟩,?_⟩
 refine zAh (Le.giveBox 1 [.int .i64 y4A,.str y4C,.int .i64 y4D,.sl 4 (Nd.encs y4B)] rfl rfl) ?_;refine zAa ?_;refine zYV ?_;refine zAg rfl h (fun hb h=>?_) (fun hb h=>?_)
 ·refine zYV ?_;refine zAe ?_;obtain⟨hj1,hk1⟩:=pij h;subst hj1 hk1;exact fin0 rfl rfl
 ·refine zAf ?_;refine zAa ?_;refine zAa ?_;obtain⟨x6,hj,h⟩:=zAc h;refine zAm ⟨ofL [(2,.s (.int .i64 i3)),(6,.op 0 0),(8,.s (.pt [.int .i64 y4A,.str y4C,.int .i64 y4D,.sl 4 (Nd.encs y4B)])),(28,.s (.bool x6))],ofH [(0,.box 24 [.s (.int .i64 0),.s (.str []),.s (.int .i64 0),.nl 4])],1⟩ ?_ (fun σ' hle=>?_)
  ·replace h:=hj;refine zAb [] [22,26] rfl ?_;intro b hb;cases b with
   | true =>
    replace h:=zAu hb.symm h;cases h;exact(Le.rnm [(0,0)] _ _ _ ⟨rfl,rfl,rfl,rfl,trivial⟩ ⟨rfl,⟨_,rfl,rfl⟩,trivial⟩)
   | false =>
    replace h:=zAt hb.symm h;intro n7 hn7;obtain rfl:(y4B.length:Int)=n7:=(hn7.trans (congrArg (fun m:Nat=>(m:Int)) (rlen Nd.encs_eq y4B))).symm;cases h;exact(Le.rnm [(0,0)] _ _ _ ⟨rfl,rfl,rfl,rfl,trivial⟩ ⟨rfl,⟨_,rfl,rfl⟩,trivial⟩)
  ·refine zAh hle ?_;refine zAg rfl h (fun hb h=>?_) (fun hb h=>?_)
   ·refine zYV ?_;refine zAe ?_;obtain⟨hj1,hk1⟩:=pij h;subst hj1 hk1;exact fin0 rfl rfl
   ·refine zAf ?_;refine zYf [] [33] rfl ?_;obtain⟨⟨e8A,e8C,e8D,e8B⟩,he8,h⟩:=zAc h;refine And.intro (zAp Nd.encs_eq he8).1 ?_;intro r9 hr9;obtain rfl:[.int .i64 e8A,.str e8C,.int .i64 e8D,.sl 4 (Nd.encs e8B)]=r9:=(hr9.trans (zAp Nd.encs_eq he8).2.1).symm;refine zAe ?_;obtain⟨hj1,hk1⟩:=pij h;subst hj1 hk1;exact fin0 rfl rfl
def zBP:(List Int×Int×Int×Nd)->List S
| ⟨p_row,p_at,p_own,⟨p_item_kind,p_item_text,p_item_cols,p_item_kids⟩⟩=>[.sl 1 ((List.map (irow .i64)) p_row),.int .i64 p_at,.int .i64 p_own,.int .i64 p_item_kind,.str p_item_text,.int .i64 p_item_cols,.sl 4 (Nd.encs p_item_kids)]
def zQn (n:Nat) (xs:List AV) (r:Ret):Prop:=∃ (a0:Nd) (a1:List Int) (y0:(List Int×Int×Int×Nd)) (y1:Bool),zB6 n a0 a1=some (y0,y1)/\xs=[.agg ((Nd.enc a0).map .s),.s (.sl 1 ((List.map (irow .i64)) a1))]/\r = .val (.tup [.agg ((zBP y0).map .s),.s (.bool y1)])
def zE6:zAq:=zAs fun xs r=>∃ n,zQn n xs r
theorem zFE:PSound Tryz.prog 78 zE6:=by
 have gok:∀ f s,look? f [(85,zKv)]=some s->PSound Tryz.prog f s:=zAo (by
  simp only[List.forall_mem_cons]
  exact⟨zMF,by simp⟩)
 refine zAr tokW Tryz.call78 Tryz.func78 rfl (fun xs r h=>by obtain⟨n,_,_,_,_,_,rfl,_⟩:=h; show 2<=44; decide) 44 rfl ?_;rintro xs r w0 G0 ⟨n,⟨n1A,n1C,n1D,n1B⟩,pos2,y0,y1,h,rfl,rfl⟩ _;rw[zB6]at h;refine zYf [4] [] rfl ?_;refine zYf [] [10] rfl ?_;intro n3 hn3;obtain rfl:(pos2.length:Int)=n3:=(hn3.trans (congrArg (fun m:Nat=>(m:Int)) (rlen (fun _=>rfl) pos2))).symm;refine zAa ?_;refine zYV ?_;refine zAg rfl h (fun hb h=>?_) (fun hb h=>?_)
 ·refine zYV ?_;refine zAe ?_;obtain⟨hj1,hk1⟩:=pij h;subst hj1 hk1;exact fin0 rfl rfl
 ·refine zAf ?_;refine zAa ?_;refine zCi [7] [19,23] [14,15] [] rfl (by decide +kernel) ?_;obtain⟨hq,h⟩:=zAw h;refine And.intro ⟨hq.1,hq.2.1,Int.le_trans hq.2.2 (Int.ofNat_le.2 (Nat.le_of_eq (rlen (fun _=>rfl) _).symm))⟩ ?_;intro r4 hr4;obtain rfl:(List.map (irow .i64)) ((pos2.take (IntKind.i64.wrap ((pos2.length:Int) - 3)).toNat).drop (0:Int).toNat)=r4:=(hr4.trans (rcut (fun _=>rfl) _ _ _)).symm;obtain⟨e5,he5,h⟩:=zAc h;refine And.intro (zAp (fun _=>rfl) he5).1 ?_;intro r6 hr6;obtain rfl:[.int .i64 e5]=r6:=(hr6.trans (zAp (fun _=>rfl) he5).2.1).symm
  obtain⟨⟨⟨y7A,y7C,y7D,y7B⟩,y8⟩,hy7,h⟩:=zAc h;refine⟨_,⟨_,_,_,_,_,_,hy7,rfl,rfl⟩,?_⟩
  refine zAh (Le.giveBox 1 [.int .i64 y7A,.str y7C,.int .i64 y7D,.sl 4 (Nd.encs y7B)] rfl rfl) ?_;refine zAa ?_;refine zAA [] [31,35,40] [16] rfl (by decide +kernel) ?_;obtain⟨hq,h⟩:=zAw h;refine And.intro ⟨hq.1,hq.2.1,Int.le_trans hq.2.2 (Int.ofNat_le.2 (Nat.le_of_eq (rlen (fun _=>rfl) _).symm))⟩ ?_;intro r9 hr9;obtain rfl:(List.map (irow .i64)) ((pos2.take (IntKind.i64.wrap ((pos2.length:Int) - 3)).toNat).drop (0:Int).toNat)=r9:=(hr9.trans (rcut (fun _=>rfl) _ _ _)).symm;obtain⟨e10,he10,h⟩:=zAc h;refine And.intro (zAp (fun _=>rfl) he10).1 ?_;intro r11 hr11
  obtain rfl:[.int .i64 e10]=r11:=(hr11.trans (zAp (fun _=>rfl) he10).2.1).symm;obtain⟨e12,he12,h⟩:=zAc h;refine And.intro (zAp (fun _=>rfl) he12).1 ?_;intro r13 hr13;obtain rfl:[.int .i64 e12]=r13:=(hr13.trans (zAp (fun _=>rfl) he12).2.1).symm;refine zAe ?_;obtain⟨hj1,hk1⟩:=pij h;subst hj1 hk1;exact fin0 rfl rfl
def zQo (xs:List AV) (r:Ret):Prop:=∃ (a0:(List Int×Int×Int×Nd)) (y0:zO8),zEq a0=some y0/\xs=[.agg ((zBP a0).map .s)]/\r = .val (.agg ((zAk y0).map .s))
def zHX:zAq:=zAs fun xs r=>zQo xs r
theorem zBI {α:Type}{a b:α} (h:a=b:=by simp[List.map_append,List.map_take,List.map_drop,irow,brow,zEw,List.map_cons,List.map_nil,zD1,Nd.encs_eq,Nd.enc,zA4,zAK,zBy,zAI,zAG,zAk,zAd,zBD,zAz,zA6,zAn,zBb,zBY,zBP]):a=b :=
 h
theorem zKe:PSound Tryz.prog 79 zHX:=by
 have gok:∀ f s,look? f [(48,zCO),(84,zD0)]=some s->PSound Tryz.prog f s:=zAo (by
  simp only[List.forall_mem_cons]
  exact⟨zCN,zEF,by simp⟩)
 refine zAr tokW Tryz.call79 Tryz.func79 rfl (fun xs r h=>by obtain⟨_,_,_,rfl,_⟩:=h; show 1<=26; decide) 26 rfl ?_;rintro xs r w0 G0 ⟨⟨x1G,x1L,x1Ak,⟨x1Ao,x1As,x1Ag,x1Al⟩⟩,y0,h,rfl,rfl⟩ _;rw[zEq]at h;refine zYf [2] [] rfl ?_;refine zAa ?_;refine zAA [] [12,15,24] [23] rfl (by decide +kernel) ?_;obtain⟨⟨e2A,e2C,e2D,e2B⟩,he2,h⟩:=zAc h;refine And.intro (zAp Nd.encs_eq he2).1 ?_;intro r3 hr3;obtain rfl:[.int .i64 e2A,.str e2C,.int .i64 e2D,.sl 4 (Nd.encs e2B)]=r3:=(hr3.trans (zAp Nd.encs_eq he2).2.1).symm;intro n4 hn4
 obtain rfl:(e2B.length:Int)=n4:=(hn4.trans (congrArg (fun m:Nat=>(m:Int)) (rlen Nd.encs_eq e2B))).symm;obtain⟨⟨y5A,y5C,y5D,y5B⟩,hy5,h⟩:=zAc h;refine⟨_,⟨_,_,hy5,rfl,rfl⟩,?_⟩
 obtain⟨⟨y6A,y6C,y6D,y6B⟩,hy6,h⟩:=zAc h;refine⟨_,⟨_,_,_,_,hy6,rfl,rfl⟩,?_⟩
 intro r7 hr7;obtain rfl:Nd.encs [Nd.mk y6A y6C y6D y6B]=r7:=(hr7.trans zBI).symm;refine zAe ?_;have hy:=osi h;subst hy;exact fin0 rfl rfl
def zWn (n:Nat) (xs:List AV) (r:Ret):Prop:=∃ (a0:Nd) (a1:Int) (y0:List Int) (y1:Int),zJ8 n a0 a1=some (y0,y1)/\xs=[.agg ((Nd.enc a0).map .s),.s (.int .i64 a1)]/\r = .val (.tup [.s (.sl 1 ((List.map (irow .i64)) y0)),.s (.int .i64 y1)])
def zS6:zAq:=zAs fun xs r=>∃ n,zWn n xs r
theorem zVH:PSound Tryz.prog 111 zS6:=by
 have gok:∀ f s,look? f [(139,zL4)]=some s->PSound Tryz.prog f s:=zAo (by
  simp only[List.forall_mem_cons]
  exact⟨zOl,by simp⟩)
 refine zAr tokW Tryz.call111 Tryz.func111 rfl (fun xs r h=>by obtain⟨n,_,_,_,_,_,rfl,_⟩:=h; show 2<=28; decide) 28 rfl ?_;rintro xs r w0 G0 ⟨n,⟨n1A,n1C,n1D,n1B⟩,i2,y0,y1,h,rfl,rfl⟩ _;rw[zJ8]at h;refine zYV ?_;refine zYV ?_;obtain⟨⟨y3,y4⟩,hy3,h⟩:=zAc h;refine⟨_,⟨_,_,_,_,hy3,rfl,rfl⟩,?_⟩
 refine zAa ?_;refine zYV ?_;refine zAg rfl h (fun hb h=>?_) (fun hb h=>?_)
 ·refine zYV ?_;refine zAe ?_;obtain⟨hj1,hk1⟩:=pij h;subst hj1 hk1;exact fin0 rfl rfl
 ·refine zAf ?_;refine zAa ?_;refine zAa ?_;obtain⟨x5,hj,h⟩:=zAc h;refine zAm ⟨ofL [(1,.s (.int .i64 i2)),(6,.s (.sl 1 ((List.map zBb) y3))),(23,.s (.bool x5))],fun _=>none,0⟩ ?_ (fun σ' hle=>?_)
  ·replace h:=hj;refine zAb [] [18,21] rfl ?_;intro b hb;cases b with
   | true =>
    replace h:=zAu hb.symm h;cases h;exact(Le.forget _ ⟨rfl,rfl,rfl,trivial⟩)
   | false =>
    replace h:=zAt hb.symm h;intro n6 hn6;obtain rfl:(y3.length:Int)=n6:=(hn6.trans (congrArg (fun m:Nat=>(m:Int)) (rlen (fun _=>rfl) y3))).symm;cases h;exact(Le.forget _ ⟨rfl,rfl,rfl,trivial⟩)
  ·refine zAh hle ?_;refine zAg rfl h (fun hb h=>?_) (fun hb h=>?_)
   ·refine zYV ?_;refine zAe ?_;obtain⟨hj1,hk1⟩:=pij h;subst hj1 hk1;exact fin0 rfl rfl
   ·refine zAf ?_;refine zYf [] [26] rfl ?_;obtain⟨e7,he7,h⟩:=zAc h;refine And.intro (zAp (fun _=>rfl) he7).1 ?_;intro r8 hr8;obtain rfl:[.sl 1 ((List.map (irow .i64)) e7)]=r8:=(hr8.trans (zAp (fun _=>rfl) he7).2.1).symm;refine zAe ?_;obtain⟨hj1,hk1⟩:=pij h;subst hj1 hk1;exact fin0 rfl rfl
end Go.Proofs.YtffhjiplcfncdaaGreat
