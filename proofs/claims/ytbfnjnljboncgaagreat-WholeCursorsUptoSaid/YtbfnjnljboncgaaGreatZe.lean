/-
  Joined out of: RfA, RfB, LibV, LibK, RwA, LibT, LwA, LwC, XrA, XrQ, XrB, XrC, XrD, XrE, XrX, RfE, XrY, XrZ, XtA, LibX.
-/
import Derived.RangeFuncNested
import Derived.RangeFuncLeaves
import Derived.RangeFuncRecord
import Derived.Lib.Builder
import Derived.Lib.UnsafeStr
import Derived.Laws.Externs
import Derived.Shelf.RegionOpenPlain
import Derived.Test.YtbfnjnljboncgaaGreatZd
open List
open Go.IntKind (i16 i32 i64 i8 u16 u32 u64 u8)
open Go.Proofs.Tryz
set_option linter.unusedVariables false
set_option linter.unusedSimpArgs false
set_option maxHeartbeats 2000000
set_option maxRecDepth 100000
namespace Go.Abs
def ownB (β:Nat->Value) (hp:Nat->Option Ob):Nat->Prop:=fun b=>∃ k ob,hp k=some ob/\blk (β k)=some b
def rcx (P:Program) (N m l:Nat) (w:World) (X G:Nat->Prop) (B:Nat->Value):Cx:={ P:=P,w0:=w,X:=X,G0:=G,N:=N,n0:=m,B0:=B,ro:=some l }
def lcx (P:Program) (N m:Nat) (w:World) (X G:Nat->Prop) (B:Nat->Value) (D:Nat):Cx:={ P:=P,w0:=w,X:=X,G0:=G,N:=N,n0:=m,B0:=B,ds:=[{ target:=.collected D,args:=#[] }] }
variable {v:Value}{β:Nat->Value}{w:World}{G:Nat->Prop}
theorem ObAt.turn {c1 c2:Cx}{w2:World}{o:Ob} (hk:Keep G G w w2) (hb:∀ b,blk v=some b->w2.heap[b]? = w.heap[b]?) (hm:∀ b,blk v=some b->c2.mine b) (h:ObAt c1 G w β v o):ObAt c2 G w2 β v o:=by
 cases o with
 | box xs =>
  obtain⟨b,e,cur,q1,q2,q3,q4,q5,q6⟩:=h;exact⟨b,e,cur,q1,(hb b (by rw[q1]; rfl)).trans q2,q3,hm b (by rw[q1]; rfl),q5.keep hk,q6⟩
 | row e sz rows =>
  obtain⟨q1,q2,q3⟩:=h;refine⟨q1,q2,q3.imp id ?_⟩
  rintro⟨b,cap,cur,g1,g2,g3,⟨mk,hmk,g4⟩,g5,g6,g7⟩
  exact⟨b,cap,cur,g1,g2,g3,⟨mk,hmk,(hb b (by rw[g1]; rfl)).trans g4⟩,g5,hm b (by rw[g1]; rfl),fun i s hi=>let ⟨u,hu,hr⟩:=g7 i s hi; ⟨u,hu,hr.keep hk⟩⟩
 | arow e sz rows =>
  obtain⟨q1,q2,q3⟩:=h;refine⟨q1,q2,q3.imp id ?_⟩
  rintro⟨b,cap,cur,g1,g2,g3,⟨mk,hmk,g4⟩,g5,g6,g7⟩
  exact⟨b,cap,cur,g1,g2,g3,⟨mk,hmk,(hb b (by rw[g1]; rfl)).trans g4⟩,g5,hm b (by rw[g1]; rfl),fun i s hi=>let ⟨u,hu,hr,h1⟩:=g7 i s hi; ⟨u,hu,hr.keep hk,h1⟩⟩
 | any τ xs =>
  obtain⟨b,o,vs,q1,q2,q3,q4,q5,q6⟩:=h;exact⟨b,o,vs,q1,(hb b q1).trans q2,q3,hm b q1,q5.keep hk,q6⟩
def yBW:Obj->Bool
 | .loop _ | .deferred _=>true
 | _=>false
theorem ObAt.cells {c:Cx}{o:Ob} (h:ObAt c G w β v o):∀ b,blk v=some b->∃ o,w.heap[b]? = some o/\yBW o=false:=fun b hb=>by
 cases o with
 | box xs =>
  obtain⟨b',e,cur,rfl,q2,_⟩:=h;cases hb; exact⟨_,q2,rfl⟩
 | row e sz rows =>
  obtain⟨_,_,h | ⟨b',cap,cur,rfl,_,_,q2,_⟩⟩:=h
  ·rw[h.1]at hb; cases hb
  ·cases hb; obtain⟨mk,_,q2⟩:=q2; exact⟨_,q2,rfl⟩
 | arow e sz rows =>
  obtain⟨_,_,h | ⟨b',cap,cur,rfl,_,_,q2,_⟩⟩:=h
  ·rw[h.1]at hb; cases hb
  ·cases hb; obtain⟨mk,_,q2⟩:=q2; exact⟨_,q2,rfl⟩
 | any τ xs =>
  obtain⟨b',o,vs,q1,q2,_,_,_,q6⟩:=h;rw[q1]at hb; cases hb
  refine⟨o,q2,?_⟩
  cases τ with
  | map keys=>obtain⟨_,rfl,_⟩:=q6; rfl
  | iter since seen stepped=>obtain⟨_,bm,_,rfl⟩:=q6; rfl
section
variable {c:Cx} {G:Nat->Prop} {β:Nat->Value} {σ:St} {a:Act} {w:World}
theorem Conc.not_own (hc:Conc c G β σ a w){l:Nat}{o:Obj} (hl:w.heap[l]? = some o) (ho:yBW o=true):¬ ownB β σ.hp l:=fun⟨k,ob,h1,h2⟩=>by
 obtain⟨o',h3,h4⟩:=(hc.hp k ob h1).cells l h2;rw[hl]at h3;cases h3;rw[ho]at h4; cases h4
theorem Conc.re (hc:Conc c G β σ a w){c2:Cx}{w2:World}{a2:Act}{env2:Nat->AV} (hk:∀ b,G b->w2.heap[b]? = w.heap[b]?) (ho:∀ b,ownB β σ.hp b->w2.heap[b]? = w.heap[b]?) (hs:w.heap.size<=w2.heap.size)
  (hd:a2.defers=c2.ds) (hN:a2.tmps.size=c2.N) (he:∀ t,AVal G w β (env2 t) (a2.tmps.getD t undef)) (hel:∀ t,(env2 t).lt σ.nx=true) (hm:∀ b,ownB β σ.hp b->c2.mine b)
  (hsub:∀ b,c2.G0 b->G b) (hnew:∀ b,G b->c2.G0 b∨c2.mine b) (hfr:Fr c2.X c2.w0 w2) (hst:c2.n0<=σ.nx/\∀ k,k<c2.n0->β k=c2.B0 k):Conc c2 G β ⟨env2,σ.hp,σ.nx⟩ a2 w2:=by
 have hkp:Keep G G w w2:=⟨fun _ h=>h,hk⟩
 exact {
  defers:=hd
  size:=hN
  env:=fun t=>(he t).keep hkp
  envlt:=hel
  hp:=fun k ob h=>(hc.hp k ob h).turn hkp (fun b hb=>ho b ⟨k,ob,h,hb⟩) (fun b hb=>hm b ⟨k,ob,h,hb⟩)
  hplt:=hc.hplt
  inj:=hc.inj
  lt:=fun b hb=>Nat.lt_of_lt_of_le (hc.lt b hb) hs
  sub:=hsub
  new:=hnew
  fr:=hfr
  stay:=hst
  glob:=hc.glob.keep hkp }
theorem Ext.alloc0 (h:∀ b,G b->b<w.heap.size) (o:Obj):Ext G G w (w.alloc o) :=
 ⟨rfl,rfl,rfl,by rw[World.size_alloc]; omega,fun b hb=>zBv w o hb,fun _ h=>h,fun _ h=>.inl h,fun b hb=>by rw[World.size_alloc]; have:=h b hb; omega⟩
end
structure Grown (A B:World):Prop where
 os:B.os=A.os
 tape:B.tape=A.tape
 output:B.output=A.output
 size:A.heap.size<=B.heap.size
 old:∀ b,b<A.heap.size->B.heap[b]? = A.heap[b]?
theorem Grown.ext {A B:World}{G:Nat->Prop} (h:Grown A B) (hl:∀ b,G b->b<A.heap.size):Ext G G A B:=⟨h.os,h.tape,h.output,h.size,h.old,fun _ h=>h,fun _ h=>.inl h,fun b hb=>Nat.lt_of_lt_of_le (hl b hb) h.size⟩
def zQa (P:Program) (fid sz:Nat):Prop :=
 ∀ (G:Nat->Prop) (w0:World) (v:Value) (rows:List (List S)),(∀ b,G b->b<w0.heap.size)->GlobOk G w0->Rep G w0 (.pt [.sl sz rows]) v->(∀ r∈rows,r.length=sz)->rows.length<=4611686018427387904 ->
  ∀ (l:Nat) (J:Nat->World->Prop) (W:World),w0.heap.size<=W.heap.size->(∀ b,G b->W.heap[b]? = w0.heap[b]?)->(∀ i A B,J i A->Grown A B->J i B) ->
   (∀ i j row u W1,i+j+1=rows.length->rows[j]? = some row->J i W1->w0.heap.size<=W1.heap.size->(∀ b,G b->W1.heap[b]? = w0.heap[b]?)->(∀ β,AVal G W1 β (.agg (row.map .s)) u) ->
    YieldAt Fence.wide 0 P l #[.int .i64 (j:Int),u] W1 fun e W2=>e = .returned (.bool true)/\J (i+1) W2/\w0.heap.size<=W2.heap.size/\∀ b,G b->W2.heap[b]? = w0.heap[b]?) ->
   J 0 W->CallsIn Fence.wide 1 P fid #[.func (.yield l) #[] #[],v] W fun e W'=>(∃ u,e = .returned u)/\J rows.length W'
structure Sw (c c2:Cx) (D:Nat):Prop where
 fr:Fr c.X c.w0 c2.w0
 mine:∀ b,c2.X b->c.mine b
 sub:∀ b,c.G0 b->c2.G0 b
 new:∀ b,c2.G0 b->c.G0 b∨c.mine b
 blk:c2.w0.heap[D]? = some (.deferred (some []))
 nX:¬ c2.X D
 nG:¬ c2.G0 D
 ge:c.w0.heap.size<=D
def zRz (σ:St) (p1 p2:Nat) (j:Nat) (row:List S) (e:(Nat->Option Ob)×Nat):St :=
 ⟨fun t=>bif Nat.beq t p2 then .agg (row.map .s) else bif Nat.beq t p1 then .s (.int .i64 (j:Int)) else σ.env t,e.1,e.2⟩
def Rl (w:World) (X:Nat->Prop) (l:Nat):Prop:=(∃ r,w.heap[l]? = some (.loop r))/\¬ X l
theorem zKT {tm:Array Value}{p t:Nat}{v:Value} (hp:p<tm.size):(tm.setIfInBounds p v).getD t undef=if t=p then v else tm.getD t undef:=by
 rw[Array.getD_eq_getD_getElem?,Array.getD_eq_getD_getElem?]
 by_cases h:t=p
 ·subst h;rw[if_pos rfl,Array.getElem?_setIfInBounds_self_of_lt hp]
  rfl
 ·rw[if_neg h,Array.getElem?_setIfInBounds_ne (Ne.symm h)]
theorem zip2 {α β:Type} (a b:α) (x y:β) : #[a,b].zip #[x,y] = #[(a,x),(b,y)]:=by
 apply Array.ext'
 simp[Array.toList_zip]
theorem nbeq {a b:Nat} (h:a ≠ b):Nat.beq a b=false:=by
 cases e:Nat.beq a b with
 | false=>rfl
 | true=>exact absurd (Nat.eq_of_beq_eq_true e) h
theorem zQP {n:Nat}:∀ (row:List S),AV.ltAll n (row.map .s)=true
 | []=>rfl
 | s::r=>by simp only[map_cons,AV.ltAll,Bool.and_eq_true]; exact⟨rfl,zQP r⟩
section
variable {c c2:Cx} {G G2:Nat->Prop} {β β2:Nat->Value} {σ σ2:St} {a a2:Act} {w w2:World}
theorem Conc.poked (hc:Conc c G β σ a w){l:Nat}{o:Obj} (hG:¬ G l) (ho:¬ ownB β σ.hp l) (hd:a.defers=c2.ds) (hN:a.tmps.size=c2.N) (hm:∀ b,ownB β σ.hp b->c2.mine b) (hsub:∀ b,c2.G0 b->G b) (hnew:∀ b,G b->c2.G0 b∨c2.mine b)
  (hfr:Fr c2.X c2.w0 (w.putObj l o)) (hst:c2.n0<=σ.nx/\∀ k,k<c2.n0->β k=c2.B0 k):Conc c2 G β σ a (w.putObj l o) :=
 have hoth:∀ b,b ≠ l->(w.putObj l o).heap[b]? = w.heap[b]?:=fun b hb=>World.putObj_heap_other hb
 hc.re (c2:=c2) (fun b hb=>hoth b fun h=>hG (h ▸ hb)) (fun b hb=>hoth b fun h=>ho (h ▸ hb)) (by rw[World.putObj_size]; exact Nat.le_refl _) hd hN hc.env hc.envlt hm hsub hnew hfr hst
theorem Conc.own_mine (hc:Conc c G β σ a w):∀ b,ownB β σ.hp b->c.mine b:=fun b ⟨k,ob,q1,q2⟩=>(row_block (hc.hp k ob q1) b q2).2
theorem Conc.own_G (hc:Conc c G β σ a w){b:Nat} (h:ownB β σ.hp b):¬ G b:=let ⟨k,ob,q1,q2⟩:=h; (row_block (hc.hp k ob q1) b q2).1
theorem Conc.poke (hc:Conc c G β σ a w){l:Nat} (o:Obj) (hl:c.w0.heap.size<=l) (hG:¬ G l) (ho:¬ ownB β σ.hp l):Conc c G β σ a (w.putObj l o) :=
 hc.poked hG ho hc.defers hc.size hc.own_mine hc.sub hc.new ⟨hc.fr.os,hc.fr.tape,hc.fr.output,by rw[World.putObj_size]; exact hc.fr.size,fun b hb hx=>(World.putObj_heap_other (by omega)).trans (hc.fr.old b hb hx)⟩ hc.stay
theorem Conc.stand (h1:Conc c G β σ a w) (h2:Conc c2 G2 β2 σ2 a2 w2) (e1:c2.w0=w) (e2:∀ b,c2.X b->ownB β σ.hp b) (e3:c2.G0=G) (e4:c2.B0=β){m:Nat} (e5:c2.n0=m) (hm:∀ t,(σ.env t).lt m=true) (h0:c.n0<=m):Conc c G2 β2 ⟨σ.env,σ2.hp,σ2.nx⟩ a w2:=by
 subst e1 e3 e4 e5;have hkeep:∀ b,c2.G0 b->w2.heap[b]? = c2.w0.heap[b]?:=fun b h=>h2.fr.old b (h1.lt b h) fun hx=>h1.own_G (e2 b hx) h
 have hbeta:∀ k,k<c2.n0->β2 k=c2.B0 k:=h2.stay.2
 have hmine:∀ b,c2.mine b->c.mine b:=fun b h=>h.elim (fun h=>h1.own_mine b (e2 b h)) fun h=>.inr (Nat.le_trans h1.fr.size h)
 exact h2.re (c2:=c) (fun _ _=>rfl) (fun _ _=>rfl) (Nat.le_refl _) h1.defers h1.size (fun t=>((h1.env t).keep ⟨h2.sub,hkeep⟩).beta hbeta (hm t)) (fun t=>AV.lt_mono h2.stay.1 (hm t)) (fun b hb=>hmine b (h2.own_mine b hb))
  (fun b hb=>h2.sub b (h1.sub b hb)) (fun b hb=>(h2.new b hb).elim (h1.new b) fun h=>.inr (hmine b h))
  ⟨h2.fr.os.trans h1.fr.os,h2.fr.tape.trans h1.fr.tape,h2.fr.output.trans h1.fr.output,Nat.le_trans h1.fr.size h2.fr.size,fun b hb hx=>(h2.fr.old b (Nat.lt_of_lt_of_le hb h1.fr.size) fun h=>(h1.own_mine b (e2 b h)).elim hx fun h=>by omega).trans (h1.fr.old b hb hx)⟩
  ⟨Nat.le_trans h0 h2.stay.1,fun k hk=>(hbeta k (Nat.lt_of_lt_of_le hk h0)).trans (h1.stay.2 k hk)⟩
end
variable {rec:Loop}{W:World}{σ:St}{β:Nat->Value}{G:Nat->Prop}
theorem zOm {P:Program}{l m N:Nat} (h1:W.heap[l]? = some (.loop rec)) (hst:rec.state = .ready) (hpe:rec.pending=none) (hnl:¬ G l){vs:Array Value} (hvs:vs.size=rec.params.size)
  (hA:Conc (rcx P N m l W (ownB β σ.hp) G β) G β σ { tmps:=(rec.params.zip vs).foldl (fun tmps (t,a)=>tmps.setIfInBounds t a) rec.tmps,defers:=[] } W) {Q:(Nat->Option Ob)->Nat->Prop}
  (hround:∀ w X G B,Rl w X l->Tri (rcx P N m l w X G B) rec.assign σ (fun e σ1=>e = .normal/\∀ w X G B,Rl w X l->Tri (rcx P N m l w X G B) rec.body σ1 (fun e σ2=>e = .normal/\∃ σ3,Le (rcx P N m l w X G B) σ2 σ3/\Q σ3.hp σ3.nx)))
  {R:Ending->World->Prop} (hR:∀ G' β' hp' nx' W2,Q hp' nx'->W2.heap[l]? = some (.loop rec)->¬ G' l->(∀ b,G b->G' b)->(∀ b,G' b->G b∨ownB β σ.hp b∨W.heap.size<=b)->W.heap.size<=W2.heap.size->(∀ b,b<W.heap.size->b ≠ l->¬ ownB β σ.hp b->W2.heap[b]? = W.heap[b]?)->m<=nx'->(∀ k,k<m->β' k=β k) ->
   (∀ c' env' a',Conc c' G β ⟨env',σ.hp,σ.nx⟩ a' W->(∀ t,(env' t).lt m=true)->c'.n0<=m->c'.w0.heap.size<=l->Conc c' G' β' ⟨env',hp',nx'⟩ a' W2)->R (.returned (.bool true)) W2) :
  YieldAt Fence.wide 0 P l vs W R:=by
 have hnol:¬ ownB β σ.hp l:=hA.not_own h1 rfl;have hlW:l<W.heap.size:=(Array.getElem?_eq_some_iff.1 h1).1;refine⟨rec.fn,_,rec.assign,rec.body,run_yield h1 hvs,roundIn_of_wpIn trivial ?_⟩
 have hTri:=hround W (ownB β σ.hp) G β ⟨⟨_,h1⟩,hnol⟩
 unfold Tri at hTri;refine wpIn_mono (zYV (m:=0) (hTri _ _ _ _ hA)) ?_;rintro e a1 Wb ⟨e',G2,β2,σ1,rfl,⟨rfl,hbody⟩,hB⟩
 have bl:Wb.heap[l]? = W.heap[l]?:=hB.fr.old l hlW hnol;have hlb:l<Wb.heap.size:=Nat.lt_of_lt_of_le hlW hB.fr.size;have hn2l:¬ G2 l:=fun h=>(hB.new l h).elim hnl (fun h=>h.elim hnol (fun h=>by have:W.heap.size<=l:=h; omega))
 have hno1l:¬ ownB β2 σ1.hp l:=hB.not_own (bl.trans h1) rfl;refine⟨_,run_beginRound (bl.trans h1) hst,?_⟩
 have hB2:Conc (rcx P N m l (Wb.putObj l (.loop { rec with state:=.busy })) (ownB β2 σ1.hp) G2 β2) G2 β2 σ1 a1 (Wb.putObj l (.loop { rec with state:=.busy })):=hB.poked hn2l hno1l hB.defers hB.size (fun _ h=>.inl h) (fun _ h=>h) (fun _ h=>.inl h) (Fr.refl _ _) ⟨hB.stay.1,fun _ _=>rfl⟩
 have l2:(Wb.putObj l (.loop { rec with state:=.busy })).heap[l]? = some (.loop { rec with state:=.busy }):=World.putObj_heap_same hlb;have sz2:(Wb.putObj l (.loop { rec with state:=.busy })).heap.size=Wb.heap.size:=World.putObj_size;have oth2:∀ b,b ≠ l->(Wb.putObj l (.loop { rec with state:=.busy })).heap[b]? = Wb.heap[b]?:=fun b hb=>World.putObj_heap_other hb
 have tr2:∀ c' env' a',Conc c' G β ⟨env',σ.hp,σ.nx⟩ a' W->(∀ t,(env' t).lt m=true)->c'.n0<=m->c'.w0.heap.size<=l->Conc c' G2 β2 ⟨env',σ1.hp,σ1.nx⟩ a' (Wb.putObj l (.loop { rec with state:=.busy })):=fun c' env' a' hc he h0 hl=>(hc.stand hB rfl (fun _ h=>h) rfl rfl rfl he h0).poke _ hl hn2l hno1l
 generalize Wb.putObj l (.loop { rec with state:=.busy })=W2 at hB2 l2 sz2 oth2 tr2 ⊢;have hTri2:=hbody W2 (ownB β2 σ1.hp) G2 β2 ⟨⟨_,l2⟩,hno1l⟩
 unfold Tri at hTri2;refine wpIn_mono (zYV (m:=0) (hTri2 _ _ _ _ hB2)) ?_;rintro e a2 Wc ⟨e',G3,β3,σ2,rfl,⟨rfl,σ3,hle,hQ⟩,hC0⟩
 unfold Le at hle;obtain⟨G4,β4,hC⟩:=hle _ _ _ _ hC0;have hl2:l<W2.heap.size :=(by omega);have cl:Wc.heap[l]? = W2.heap[l]?:=hC.fr.old l hl2 hno1l;have hn4l:¬ G4 l:=fun h=>(hC.new l h).elim hn2l (fun h=>h.elim hno1l (fun h=>by have:W2.heap.size<=l:=h; omega))
 have hno3l:¬ ownB β4 σ3.hp l:=hC.not_own (cl.trans l2) rfl;have szB:=hB.fr.size;have szC:=hC.fr.size;simp only[rcx]at szB szC;have hmB:∀ b,ownB β2 σ1.hp b->ownB β σ.hp b∨W.heap.size<=b:=hB.own_mine
 refine⟨_,_,run_endRound none (cl.trans l2),hR G4 β4 σ3.hp σ3.nx _ hQ ?_ hn4l (fun b h=>hC.sub b (hB.sub b h)) (fun b h=>?_) (by rw[World.putObj_size]; omega) (fun b hb hbl hbo=>?_) hC.stay.1 (fun k hk=>(hC.stay.2 k hk).trans (hB.stay.2 k hk)) fun c' env' a' hc he h0 hl=>?_⟩
 ·rw[World.putObj_heap_same (by omega)]
  cases rec;simp only at hst hpe;subst hst hpe
  rfl
 ·rcases hC.new b h with h | h | h
  ·rcases hB.new b h with h | h | h
   ·exact .inl h
   ·exact .inr (.inl h)
   ·exact .inr (.inr h)
  ·exact .inr (hmB b h)
  ·exact .inr (.inr (Nat.le_trans (by show W.heap.size<=W2.heap.size; omega) h))
 ·rw[World.putObj_heap_other hbl,hC.fr.old b (by show b<W2.heap.size; omega) (fun h=>(hmB b h).elim hbo (fun h=>by omega))]
  exact(oth2 b hbl).trans (hB.fr.old b hb hbo)
 ·exact((tr2 c' env' a' hc he h0 hl).stand hC rfl (fun _ h=>h) rfl rfl rfl he h0).poke _ hl hn4l hno3l
variable {p1 p2:Nat}
theorem zWg {c:Cx}{a:Act}{hp:Nat->Option Ob}{nx:Nat} (hc:Conc c G β ⟨σ.env,hp,nx⟩ a W){l m:Nat} (h1:W.heap[l]? = some (.loop rec)) (hst:rec.state = .ready) (hpe:rec.pending=none) (hps:rec.params = #[p1,p2]) (htm:rec.tmps=a.tmps) (hnl:¬ G l)
  (hl:c.w0.heap.size<=l) (hm:∀ t,(σ.env t).lt m=true) (hm0:c.n0<=m) (hmx:m<=nx) (hp1:p1<c.N) (hp2:p2<c.N) {j:Nat} {row:List S} {u:Value} (hval:AVal G W β (.agg (row.map .s)) u) {E:(Nat->Option Ob)×Nat}
  (hround:∀ w X G B,Rl w X l->Tri (rcx c.P c.N m l w X G B) rec.assign (zRz σ p1 p2 j row (hp,nx)) (fun e σ1=>e = .normal/\∀ w X G B,Rl w X l->Tri (rcx c.P c.N m l w X G B) rec.body σ1 (fun e σ2=>e = .normal/\∃ σ3,Le (rcx c.P c.N m l w X G B) σ2 σ3/\σ3.hp=E.1/\σ3.nx=E.2)))
  {R:Ending->World->Prop} (hR:∀ G' β' W2,Conc c G' β' ⟨σ.env,E.1,E.2⟩ a W2->W2.heap[l]? = some (.loop rec)->¬ G' l->(∀ b,G b->G' b)->(∀ b,G' b->G b∨ownB β hp b∨W.heap.size<=b)->W.heap.size<=W2.heap.size->(∀ b,b<W.heap.size->b ≠ l->¬ ownB β hp b->W2.heap[b]? = W.heap[b]?)->R (.returned (.bool true)) W2) :
  YieldAt Fence.wide 0 c.P l #[.int .i64 (j:Int),u] W R:=by
 have hs1:p1<a.tmps.size :=(by rw[hc.size]; exact hp1);have hs2:p2<(a.tmps.setIfInBounds p1 (.int .i64 (j:Int))).size :=(by rw[Array.size_setIfInBounds,hc.size]; exact hp2);have htm2:((rec.params.zip #[Value.int .i64 (j:Int),u]).foldl (fun tmps (x:Nat×Value)=>tmps.setIfInBounds x.1 x.2) rec.tmps)=(a.tmps.setIfInBounds p1 (.int .i64 (j:Int))).setIfInBounds p2 u :=(by rw[hps,htm,zip2]; rfl);have hA:Conc (rcx c.P c.N m l W (ownB β hp) G β) G β (zRz σ p1 p2 j row (hp,nx)) { tmps:=(a.tmps.setIfInBounds p1 (.int .i64 (j:Int))).setIfInBounds p2 u,defers:=[] } W:=by
  refine hc.re (c2:=rcx c.P c.N m l W (ownB β hp) G β) (fun _ _=>rfl) (fun _ _=>rfl) (Nat.le_refl _) rfl (by show _=c.N; rw[Array.size_setIfInBounds,Array.size_setIfInBounds]; exact hc.size) (fun t=>?_) (fun t=>?_) (fun b hb=>.inl hb) (fun _ h=>h) (fun _ h=>.inl h) (Fr.refl _ _) ⟨hmx,fun _ _=>rfl⟩
  ·dsimp only;rw[zKT hs2,zKT hs1]
   by_cases e2:t=p2
   ·subst e2;rw[if_pos rfl,Nat.beq_refl,cond_true]
    exact hval
   ·rw[if_neg e2,nbeq e2,cond_false]
    by_cases e1:t=p1
    ·subst e1;rw[if_pos rfl,Nat.beq_refl,cond_true]
     simp[AVal,Rep]
    ·rw[if_neg e1,nbeq e1,cond_false]
     exact hc.env t
  ·dsimp only
   by_cases e2:t=p2
   ·subst e2; rw[Nat.beq_refl,cond_true]; simp only[AV.lt]; exact zQP row
   ·rw[nbeq e2,cond_false]
    by_cases e1:t=p1
    ·subst e1; rw[Nat.beq_refl,cond_true]; rfl
    ·rw[nbeq e1,cond_false]; exact hc.envlt t
 rw[← htm2]at hA;exact zOm (Q:=fun hp' nx'=>hp'=E.1/\nx'=E.2) h1 hst hpe hnl (by rw[hps]; rfl) hA hround fun G' β' hp' nx' W2 ⟨q1,q2⟩ e1 e2 e3 e4 e5 e6 _ _ e7=>by
  subst q1 q2;exact hR G' β' W2 (e7 _ _ _ hc hm hm0 hl) e1 e2 e3 e4 e5 e6
theorem yAa {c:Cx}{a:Act}{w:World} (hc:Conc c G β σ a w) (hro:c.ro=none) (hds:c.ds=[]){tg fid sz:Nat}{rows:List (List S)}{assign body:Code}
  (hit:zQa c.P fid sz) (hcall:∀ args w,(callFunc fid args).run c.P w = .ok (.enter fid args) w) (he:σ.env tg = .clo fid [.s (.pt [.sl sz rows])]) (hrl:∀ r∈rows,r.length=sz) (hlen:rows.length<=4611686018427387904)
  (E:Nat->(Nat->Option Ob)×Nat) (hE:E 0=(σ.hp,σ.nx)) (m:Nat) (hm:∀ t,(σ.env t).lt m=true) (hm0:c.n0<=m) (hmE:∀ i,m<=(E i).2) (hp1:p1<c.N) (hp2:p2<c.N)
  (hround:∀ i j row,i+j+1=rows.length->rows[j]? = some row->∀ l w X G B,Rl w X l->Tri (rcx c.P c.N m l w X G B) assign (zRz σ p1 p2 j row (E i)) (fun e σ1=>e = .normal/\∀ w X G B,Rl w X l ->
   Tri (rcx c.P c.N m l w X G B) body σ1 (fun e σ2=>e = .normal/\∃ σ3,Le (rcx c.P c.N m l w X G B) σ2 σ3/\σ3.hp=(E (i+1)).1/\σ3.nx=(E (i+1)).2)))
  (hfid:Nat.ble 1048576 fid=false) {Φ:Exit->Act->World->Prop} (hdone:∀ D w2 X G2 G' β' a2,Sw c (lcx c.P c.N c.n0 w2 X G2 c.B0 D) D->Conc (lcx c.P c.N c.n0 w2 X G2 c.B0 D) G' β' ⟨σ.env,(E rows.length).1,(E rows.length).2⟩ a2 w2->Φ .normal a2 w2) :
  (Code.rangeFunc (.tmp tg) #[p1,p2] assign body).wpIn (rF none) 2 c.P Φ a w:=by
 have hg:=hc.env tg;rw[he]at hg;simp only[AVal,AVals]at hg;obtain⟨vs,hg,v,vs',rfl,hv,rfl⟩:=hg;have hg:a.eval (.tmp tg) = .func (.func fid) #[] #[v] :=(by rw[zSA hfid]at hg; exact hg);have hiter:=hit G w v rows hc.lt hc.glob hv hrl hlen;refine wpIn_rangeFunc fun fn _=>?_
 obtain⟨rec,hrec⟩:∃ rec:LoopState->Loop,rec=fun st=>{ state:=st,pending:=none,fn:=fn,tmps:=a.tmps,params:=#[p1,p2],assign:=assign,body:=body,defers:=w.heap.size }:=⟨_,rfl⟩
 obtain⟨l,hl0⟩:∃ l,l=w.heap.size+1:=⟨_,rfl⟩
 obtain⟨D,hD0⟩:∃ D,D=w.heap.size:=⟨_,rfl⟩
 obtain⟨W1,hW1⟩:∃ W1,(w.alloc (.deferred (some []))).alloc (.loop (rec .ready))=W1:=⟨_,rfl⟩
 have hL1:W1.heap[l]? = some (.loop (rec .ready)):=by
  have:=World.alloc_heap_new (w.alloc (.deferred (some []))) (.loop (rec .ready))
  rw[World.size_alloc]at this;rw[← hW1,hl0]; exact this
 have hDD:W1.heap[D]? = some (.deferred (some [])):=by
  have:=zBv (w.alloc (.deferred (some []))) (.loop (rec .ready)) (b:=w.heap.size) (by rw[World.size_alloc]; omega)
  rw[← hW1,hD0,this]
  exact World.alloc_heap_new w _
 have hc1:Conc c G β σ a W1:=by
  rw[← hW1]
  have h1:=hc.ext (Ext.alloc0 hc.lt (.deferred (some [])))
  exact h1.ext (Ext.alloc0 h1.lt (.loop (rec .ready)))
 have hlD:l ≠ D :=(by omega);have hcl:c.w0.heap.size<=D :=(by rw[hD0]; exact hc.fr.size);refine⟨l,[{ target:=.collected D,args:=#[] }],W1,{ target:=.fn (.func fid) #[v],args:=#[.func (.yield l) #[] #[]] },W1,fid,#[.func (.yield l) #[] #[]]++#[v],W1,?_,?_,?_,?_,fun h=>(by cases h),?_⟩
 ·rw[← hW1,hrec,hl0,hD0]; exact run_enterLoop_outer _ _ _ _ _
 ·simp only[resolve,hg]
  simp[go_sem]
 ·intro f' hf'; trivial
 ·simp[invoke,go_sem,hcall]
 have key:=hiter l (fun i W=>W.heap[l]? = some (.loop (rec .ready))/\W.heap[D]? = some (.deferred (some []))/\∃ G' β',Conc c G' β' ⟨σ.env,(E i).1,(E i).2⟩ a W/\(∀ b,G b->G' b)/\¬ G' l/\¬ G' D) W1 (by rw[← hW1,World.size_alloc,World.size_alloc]; omega)
  (fun b hb=>by
   have hb':=hc.lt b hb;rw[← hW1,zBv _ _ (by rw[World.size_alloc]; omega),zBv _ _ hb'])
  (fun i A B ⟨h1,h2,G',β',h3,h4⟩ hg=>⟨(hg.old l (Array.getElem?_eq_some_iff.1 h1).1).trans h1,(hg.old D (Array.getElem?_eq_some_iff.1 h2).1).trans h2,G',β',h3.ext (hg.ext h3.lt),h4⟩)
  ?_ ⟨hL1,hDD,G,β,by rw[hE]; exact hc1,fun _ h=>h,fun h=>by have:=hc.lt _ h; omega,fun h=>by have:=hc.lt _ h; omega⟩
 ·refine key.mono ?_;rintro e W3 ⟨⟨u,rfl⟩,h1,h2,G3,β3,hc3,hG3,hnl,hnD⟩
  have hend:=run_endLoop (P:=c.P) h1 (by rw[hrec]; simp)
  rw[hrec]at hend;refine⟨none,_,hend,?_⟩
  dsimp only;have hnol:¬ ownB β3 (E rows.length).1 l:=hc3.not_own h1 rfl;have hnoD:¬ ownB β3 (E rows.length).1 D:=hc3.not_own h2 rfl;have hl3:l<W3.heap.size:=(Array.getElem?_eq_some_iff.1 h1).1;generalize hW4:W3.putObj l _=W4;have hoth:∀ b,b ≠ l->W4.heap[b]? = W3.heap[b]?:=fun b hb=>by rw[← hW4]; exact World.putObj_heap_other hb
  have hsz:W4.heap.size=W3.heap.size :=(by rw[← hW4]; exact World.putObj_size);have hfr4:Fr c.X c.w0 W4:=⟨by rw[← hW4]; exact hc3.fr.os,by rw[← hW4]; exact hc3.fr.tape,by rw[← hW4]; exact hc3.fr.output,by rw[hsz]; exact hc3.fr.size,fun b hb hx=>(hoth b (by omega)).trans (hc3.fr.old b hb hx)⟩
  refine hdone D W4 (ownB β3 (E rows.length).1) G3 G3 β3 _ ⟨hfr4,fun b ⟨k,ob,q1,q2⟩=>(row_block (hc3.hp k ob q1) b q2).2,hc3.sub,hc3.new,(hoth D (Ne.symm hlD)).trans h2,hnoD,hnD,hcl⟩ ?_;exact hc3.re (c2:=lcx c.P c.N c.n0 W4 (ownB β3 (E rows.length).1) G3 c.B0 D) (fun b hb=>hoth b fun h=>hnl (h ▸ hb)) (fun b hb=>hoth b fun h=>hnol (h ▸ hb)) (by rw[hsz]; exact Nat.le_refl _)
   (by show _::a.defers=_; rw[hc.defers,hds]; rfl) hc.size hc3.env hc3.envlt (fun b hb=>.inl hb) (fun b hb=>hb) (fun b hb=>.inl hb) (Fr.refl _ _) hc3.stay
 ·rintro i j row u W hiN hrow ⟨h1,h2,G',β',hcW,hGG,hnl,hnD⟩ hszW hGk hval;have noD:¬ ownB β' (E i).1 D:=hcW.not_own h2 rfl;have hDW:D<W.heap.size:=(Array.getElem?_eq_some_iff.1 h2).1;refine zWg (E:=E (i+1)) hcW h1 (by rw[hrec]) (by rw[hrec]) (by rw[hrec]) (by rw[hrec]) hnl (by omega) hm hm0 (hmE i) hp1 hp2 ((hval β').keep ⟨hGG,fun _ _=>rfl⟩) (by rw[hrec]; exact hround i j row hiN hrow l) fun G2 β2 W2 e0 e1 e2 e3 e4 e5 e6=>?_
  exact⟨rfl,⟨e1,(e6 D hDW (Ne.symm hlD) noD).trans h2,G2,β2,e0,fun b h=>e3 b (hGG b h),e2,fun h=>(e4 D h).elim hnD fun h=>h.elim noD fun h=>by omega⟩,Nat.le_trans hszW e5,
   fun b hb=>(e6 b (hcW.lt b (hGG b hb)) (fun e=>hnl (e ▸ hGG b hb)) fun h=>hcW.own_G h (hGG b hb)).trans (hGk b hb)⟩
def TriX (c:Cx) (code:Code) (σ:St) (Φ:Exit->Act->World->Prop):Prop:=∀ G β a w,Conc c G β σ a w->code.wpIn (rF none) 2 c.P Φ a w
section
variable {c:Cx} {σ:St} {Φ:Exit->Act->World->Prop}
variable {x y:Code}
theorem zVT  (h:TriX c x σ (Exit.then (y.wpIn (rF none) 2 c.P Φ) Φ)):TriX c (.seq x y) σ Φ:=fun G β a w hc=>wpIn_seq (h G β a w hc)
theorem zP3 {id:Nat} (h:TriX c x σ (Exit.inBlock id Φ)):TriX c (.block id x) σ Φ:=fun G β a w hc=>wpIn_block (h G β a w hc)
theorem zLj  (hro:c.ro=none) (h:Tri c x σ (fun e σ'=>e = .normal/\TriX c y σ' Φ)):TriX c (.seq x y) σ Φ:=fun G β a w hc=>by
 unfold Tri at h;rw[hro]at h;refine wpIn_seq (wpIn_mono (h G β a w hc) ?_)
 rintro e a' w' ⟨e',G',β',σ',rfl,⟨rfl,hq⟩,hc'⟩
 exact hq G' β' a' w' hc'
theorem zW2 (hro:c.ro=none) (hds:c.ds=[]){tg p1 p2 fid sz:Nat}{rows:List (List S)}{assign body:Code}
  (hit:zQa c.P fid sz) (hcall:∀ args w,(callFunc fid args).run c.P w = .ok (.enter fid args) w) (he:σ.env tg = .clo fid [.s (.pt [.sl sz rows])]) (hrl:∀ r∈rows,r.length=sz) (hlen:rows.length<=4611686018427387904)
  (E:Nat->(Nat->Option Ob)×Nat) (hE:E 0=(σ.hp,σ.nx)) (m:Nat) (hm:∀ t,(σ.env t).lt m=true) (hm0:c.n0<=m) (hmE:∀ i,m<=(E i).2) (hp1:p1<c.N) (hp2:p2<c.N)
  (hround:∀ i j row,i+j+1=rows.length->rows[j]? = some row->∀ l w X G B,Rl w X l->Tri (rcx c.P c.N m l w X G B) assign (zRz σ p1 p2 j row (E i)) (fun e σ1=>e = .normal/\∀ w X G B,Rl w X l ->
   Tri (rcx c.P c.N m l w X G B) body σ1 (fun e σ2=>e = .normal/\∃ σ3,Le (rcx c.P c.N m l w X G B) σ2 σ3/\σ3.hp=(E (i+1)).1/\σ3.nx=(E (i+1)).2)))
  (hdone:∀ D w2 X G2 G' β' a2,Sw c (lcx c.P c.N c.n0 w2 X G2 c.B0 D) D->Conc (lcx c.P c.N c.n0 w2 X G2 c.B0 D) G' β' ⟨σ.env,(E rows.length).1,(E rows.length).2⟩ a2 w2->Φ .normal a2 w2) (hfid:Nat.ble 1048576 fid=false:=by rfl) :
  TriX c (.rangeFunc (.tmp tg) #[p1,p2] assign body) σ Φ:=fun G β a w hc=>yAa hc hro hds hit hcall he hrl hlen E hE m hm hm0 hmE hp1 hp2 hround hfid hdone
end
variable {σ:St}{code:Code}{fn:Func}{T:Nat->Option TI}
theorem zSR {c c2:Cx}{D:Nat} (hT:TOk c2.P T){r:Ret} (hsw:Sw c c2 D) (hX:∀ b,¬ c.X b) (hro:c2.ro=none) (hds:c2.ds=[{ target:=.collected D,args:=#[] }])
  (h:Tri c2 code σ (fun e σ'=>match e with | .exit _=>False | _=>zBK c2 T fn.results.toList r σ')) :
  TriX c2 code σ (bodyPostM (rF none) 2 c2.P fn fun e W'=>∃ v G',e = .returned v/\Ext c.G0 G' c.w0 W'/\RetAt G' c.w0 W' r v):=fun G β a w hc=>by
 unfold Tri at h;rw[hro]at h;refine wpIn_mono (h G β a w hc) ?_;rintro e a' w' ⟨e',G',β',σ',rfl,hq,hc'⟩
 have fin:zBK c2 T fn.results.toList r σ'->LeavesInM (rF none) 2 c2.P fn a'.tmps (fun e W'=>∃ v G',e = .returned v/\Ext c.G0 G' c.w0 W'/\RetAt G' c.w0 W' r v) a'.defers .returning w':=fun hq=>by
  unfold zBK at hq;obtain⟨σ2,hle,hr⟩:=hq;unfold Le at hle;obtain⟨G2,β2,hc2⟩:=hle G' β' a' w' hc';have hDl:D<c2.w0.heap.size:=(Array.getElem?_eq_some_iff.1 hsw.blk).1;have hD:w'.heap[D]? = some (.deferred (some [])):=(hc2.fr.old D hDl hsw.nX).trans hsw.blk;have hnG:¬ G2 D:=fun h=>(hc2.new D h).elim hsw.nG (fun h=>h.elim hsw.nX (fun h=>by omega))
  have hnO:¬ ownB β2 σ2.hp D:=hc2.not_own hD rfl;rw[hc'.defers,hds]
  refine⟨by simp,.inl ⟨_,_,rfl,run_takeDeferred hD,?_⟩⟩
  generalize hW:w'.putObj D (.deferred none)=W;have oth:∀ b,b ≠ D->W.heap[b]? = w'.heap[b]?:=fun b hb=>by rw[← hW]; exact World.putObj_heap_other hb
  have sz:W.heap.size=w'.heap.size :=(by rw[← hW]; exact World.putObj_size);have hge:=hsw.ge;have hmine:∀ b,c2.mine b->c.w0.heap.size<=b:=fun b hb=>by
   rcases hb with hb | hb
   ·exact(hsw.mine b hb).elim (fun h=>absurd h (hX b)) id
   ·exact Nat.le_trans hsw.fr.size hb
  have hc3:Conc { P:=c2.P,w0:=W,X:=fun b=>c.w0.heap.size<=b,G0:=G2,N:=c2.N } G2 β2 ⟨σ2.env,σ2.hp,σ2.nx⟩ { a' with defers:=[] } W :=
   hc2.re (c2:={ P:=c2.P,w0:=W,X:=fun b=>c.w0.heap.size<=b,G0:=G2,N:=c2.N }) (fun b hb=>oth b fun h=>hnG (h ▸ hb)) (fun b hb=>oth b fun h=>hnO (h ▸ hb)) (by rw[sz]; exact Nat.le_refl _) rfl hc2.size hc2.env hc2.envlt
    (fun b ⟨k,ob,q1,q2⟩=>.inl (hmine b (row_block (hc2.hp k ob q1) b q2).2)) (fun b h=>h) (fun b h=>.inl h) (Fr.refl _ _) ⟨Nat.zero_le _,fun k hk=>by cases hk⟩
  have hext:Ext c.G0 G2 c.w0 W:=by
   refine⟨?_,?_,?_,?_,fun b hb=>?_,fun b hb=>hc2.sub b (hsw.sub b hb),fun b hb=>?_,fun b hb=>by rw[sz]; exact hc2.lt b hb⟩
   ·rw[← hW]; show w'.os=_; rw[hc2.fr.os]; exact hsw.fr.os
   ·rw[← hW]; show w'.tape=_; rw[hc2.fr.tape]; exact hsw.fr.tape
   ·rw[← hW]; show w'.output=_; rw[hc2.fr.output]; exact hsw.fr.output
   ·have h1:=hc2.fr.size; have h2:=hsw.fr.size; omega
   ·have h2:=hsw.fr.size;exact(oth b (by omega)).trans ((hc2.fr.old b (by omega) (fun h=>(hsw.mine b h).elim (hX b) (fun h=>by omega))).trans (hsw.fr.old b hb (hX b)))
   ·rcases hc2.new b hb with h | h
    ·exact(hsw.new b h).imp id (fun h=>h.elim (fun h=>absurd h (hX b)) id)
    ·exact .inr (hmine b h)
  unfold RetAt;split at hr
  ·rename_i x
   obtain⟨v,h1,h2⟩:=zHA (c:={ P:=c2.P,w0:=W,X:=fun b=>c.w0.heap.size<=b,G0:=G2,N:=c2.N }) hT hc3 hr.1;exact⟨v,h1,v,G2,rfl,hext,hr.2,AVal.pers hr.2 h2⟩
  ·rename_i e sz' rows
   obtain⟨k,hk1,hk2⟩:=hr;obtain⟨v,h1,h2⟩:=zHA (c:={ P:=c2.P,w0:=W,X:=fun b=>c.w0.heap.size<=b,G0:=G2,N:=c2.N }) hT hc3 hk1;refine⟨v,h1,v,G2,rfl,hext,?_⟩
   simp only[AVal]at h2;obtain⟨rfl,_⟩:=h2;obtain⟨q1,q2,q3⟩:=hc3.hp k _ hk2;refine⟨q1,q2,q3.imp id ?_⟩
   rintro⟨b,cap,cur,g1,g2,g3,g4,g5,g6,g7⟩
   refine⟨b,cap,cur,g1,g2,g3,g4,g5,g6.elim id (fun h=>?_),g7⟩
   have h:W.heap.size<=b:=h;have:=g4.lt
   omega
 cases e' with
 | normal=>exact fin hq
 | ret=>exact fin hq
 | exit id=>exact hq.elim
variable {P:Program}
theorem zYk {f:Nat}{s:zAr} (hcall:∀ args w,(callFunc f args).run P w = .ok (.enter f args) w)
  (hf:P.funcs[f]? = some fn) (hb:fn.body=some code) (hn:∀ xs r,s.spec xs r->xs.length<=fn.ntmps)
  (N:Nat) (hN:fn.ntmps=N)
  (h:∀ xs r w0 G0,s.spec xs r->AV.persAll xs=true->TriX (zDp P w0 G0 N) code (start xs) (bodyPostM (rF none) 2 P fn fun e W'=>∃ v G',e = .returned v/\Ext G0 G' w0 W'/\RetAt G' w0 W' r v)) (hown:s.own=none:=by rfl) (hheap:s.heap=none:=by rfl):PSound P f s:=by
 subst hN;refine⟨hcall,fun G w xs vs r hlt hgl hp hv hpre=>?_,fun R hR=>(by rw[hown]at hR; cases hR),fun R hR=>(by rw[hheap]at hR; cases hR)⟩
 have hlen:=hv.length;have hxn:=hn xs r hpre;have hc:Conc (zDp P w G fn.ntmps) G (fun _=>.tuple #[]) (start xs) { tmps:=vs.toArray++Array.replicate (fn.ntmps - vs.toArray.size) undef,defers:=[] } w:={
  defers:=rfl
  size:=by simp only[Array.size_append,size_toArray,Array.size_replicate]; show _=fn.ntmps; omega
  env:=zKJ hv
  envlt:=zNt (AV.persAll_lt hp)
  hp:=fun k ob hk=>by simp[start]at hk
  hplt:=fun k ob hk=>by simp[start]at hk
  inj:=fun k k' ob ob' hk=>by simp[start]at hk
  lt:=hlt
  sub:=fun b hb=>hb
  new:=fun b hb=>.inl hb
  fr:=Fr.refl _ _
  stay:=⟨Nat.le_refl _,fun k hk=>by cases hk⟩
  glob:=hgl }
 exact callsIn_wide.1 (callsIn_of_wp_marks hf hb trivial (h xs r w G hpre hp G _ _ w hc))
variable {a:Act}
theorem zOd {d:Option Nat}{v:Value}{t:Nat} (h:d ≠ some t):(a.put d v).tmps.getD t undef=a.tmps.getD t undef:=by
 cases d with
 | none=>rfl
 | some d =>
  have hdt:d ≠ t:=fun e=>h (by rw[e])
  simp only[Act.put,Array.getD_eq_getD_getElem?]
  rw[Array.getElem?_setIfInBounds_ne hdt]
variable {N:Nat}{β:Nat->Value}{G:Nat->Prop}{W:World}
theorem yCf {env:Nat->AV} (hd:a.defers=[]) (hs:a.tmps.size=N) (hl:∀ b,G b->b<W.heap.size) (hg:GlobOk G W) (he:∀ t,AVal G W β (env t) (a.tmps.getD t undef)) (hlt:∀ t,(env t).lt 0=true) :
  Conc (zDp P W G N) G β ⟨env,fun _=>none,0⟩ a W:={
 defers:=hd
 size:=hs
 env:=he
 envlt:=hlt
 hp:=fun k ob hk=>by cases hk
 hplt:=fun k ob hk=>by cases hk
 inj:=fun k k' ob ob' hk=>by cases hk
 lt:=hl
 sub:=fun b hb=>hb
 new:=fun b hb=>.inl hb
 fr:=Fr.refl _ _
 stay:=⟨Nat.le_refl _,fun k hk=>by cases hk⟩
 glob:=hg }
def evP (T:Nat->Option TI) (N:Nat) (ts:List Nat):List Oper->St->(St->Prop)->Prop
 | [],σ,K=>K σ
 | o::os,σ,K =>
  match o.dst,o.guard,zQX o&&zQY o with
  | some d,none,true=>match Nat.blt d N&&zTb d ts with
   | true=>match zB9 T false o σ.env with
    | some (φ,x)=>andO φ (evP T N ts os (σ.put (some d) x) K)
    | none=>False
   | false=>False
  | _,_,_=>False
theorem zNI {P:Program}{W0:World}{G0:Nat->Prop}{T:Nat->Option TI} (hT:TOk P T){N n:Nat}{ops rest:List Oper}{K:St->Prop}{Q:Exit->Act->World->Prop}{ts:List Nat}{v0:Nat->Value}
  (hr:∀ σ G β a w,K σ->Conc (zDp P W0 G0 N) G β σ a w->w.heap.size=W0.heap.size->(∀ t∈ts,a.tmps.getD t undef=v0 t)->wpListIn Fence.wide n P ops.toArray Q rest a w) :
  ∀ (l:List Oper) (σ:St) (G:Nat->Prop) (β:Nat->Value) (a:Act) (w:World),evP T N ts l σ K->Conc (zDp P W0 G0 N) G β σ a w->w.heap.size=W0.heap.size->(∀ t∈ts,a.tmps.getD t undef=v0 t)->wpListIn Fence.wide n P ops.toArray Q (l++rest) a w
 | [],σ,G,β,a,w,h,hc,hs,ht=>hr σ G β a w h hc hs ht
 | o::os,σ,G,β,a,w,h,hc,hs,ht=>by
  unfold evP at h;split at h
  ·rename_i d hd hg hnn
   simp only[Bool.and_eq_true]at hnn;split at h
   ·rename_i hdN
    simp only[Bool.and_eq_true]at hdN;have hdN1:d<N:=Nat.le_of_ble_eq_true hdN.1;have hdts:=zGC hdN.2;split at h
    ·rename_i φ x hp
     obtain⟨hφ,h⟩:=zMS h;rw[cons_append]
     unfold wpListIn;rw[if_pos (by simp[Region.wanted,hg])]
     refine zX7 (ro:=none) (K:=fun a' w'=>wpListIn Fence.wide n P ops.toArray Q (os++rest) a' w') (fun c e=>?_) (fun _ _ h=>h) ?_
     ·have:=hnn.2;unfold zQY at this;rw[e]at this;cases this
     ·refine zYf (c:=zDp P W0 G0 N) hT hc hp hφ fun G' w' v he hna hv=>?_
      have hww:=hna hnn.1;subst hww;rw[hd]
      have hput:=(hc.ext he).put (d:=some d) (fun t e=>by cases e; exact hdN1) hv (zVF hc.envlt hp)
      refine zNI hT hr os _ G' β _ _ h hput hs fun t htt=>?_
      rw[zOd (fun e=>hdts (by cases e; exact htt))]
      exact ht t htt
    ·exact h.elim
   ·exact h.elim
  ·exact h.elim
variable {W0 w:World}{Q:Exit->Act->World->Prop}{K:St->Prop}{l ops:List Oper}{n:Nat}{G0:Nat->Prop}
theorem zVh  (hT:TOk P T) (m:Nat) (ts:List Nat)
  (h:evP T N ts (l.take m) σ K) (hc:Conc (zDp P W0 G0 N) G β σ a w) (hs:w.heap.size=W0.heap.size)
  (hr:∀ σ G β a' w,K σ->Conc (zDp P W0 G0 N) G β σ a' w->w.heap.size=W0.heap.size->(∀ t∈ts,a'.tmps.getD t undef=a.tmps.getD t undef)->wpListIn Fence.wide n P ops.toArray Q (l.drop m) a' w):wpListIn Fence.wide n P ops.toArray Q l a w:=by
 have:=zNI (v0:=fun t=>a.tmps.getD t undef) hT hr (l.take m) σ G β a w h hc hs (fun _ _=>rfl)
 rwa [take_append_drop]at this
theorem zQD  (hT:TOk P T) (ts:List Nat)
  (h:evP T N ts l σ K) (hc:Conc (zDp P W0 G0 N) G β σ a w) (hs:w.heap.size=W0.heap.size)
  (hr:∀ σ G β a' w,K σ->Conc (zDp P W0 G0 N) G β σ a' w->w.heap.size=W0.heap.size->(∀ t∈ts,a'.tmps.getD t undef=a.tmps.getD t undef)->Q .normal a' w):wpListIn Fence.wide n P ops.toArray Q l a w:=by
 have:=zNI (rest:=[]) (v0:=fun t=>a.tmps.getD t undef) (ops:=ops) (n:=n) (Q:=Q) hT hr l σ G β a w h hc hs (fun _ _=>rfl)
 rwa [append_nil]at this
theorem zX3 {G:Nat->Prop}{w:World}{β:Nat->Value}{a:Act}:∀ {L:List (Nat×AV)},(∀ p∈L,AVal G w β p.2 (a.tmps.getD p.1 undef))->∀ t,AVal G w β (ofL L t) (a.tmps.getD t undef)
 | [],_,t=>by simp only[ofL,AVal]
 | (s,x)::r,h,t=>by
  simp only[ofL]
  cases e:Nat.beq t s with
  | true=>obtain rfl:=Nat.eq_of_beq_eq_true e; exact h _ mem_cons_self
  | false=>exact zX3 (fun p hp=>h p (mem_cons_of_mem _ hp)) t
theorem zWl  (L:List (Nat×AV)) (hd:a.defers=[]) (hs:a.tmps.size=N) (hl:∀ b,G b->b<W.heap.size) (hg:GlobOk G W) (hL:ltL 0 L=true) (he:∀ p∈L,AVal G W (fun _=>.tuple #[]) p.2 (a.tmps.getD p.1 undef)) :
  Conc (zDp P W G N) G (fun _=>.tuple #[]) ⟨ofL L,fun _=>none,0⟩ a W:=yCf hd hs hl hg (zX3 he) (zMW hL)
variable {o:Oper}
theorem zMD {ops:Array Oper}{rest:List Oper} (hg:o.guard=none) (h:o.wpIn Fence.wide n P a w (wpListIn Fence.wide n P ops Q rest) Q):wpListIn Fence.wide n P ops Q (o::rest) a w:=by
 unfold wpListIn;rw[if_pos (by simp[Region.wanted,hg])]
 exact h
theorem yAe {f x y:Operand}{ts:Array TypeId}{l:Nat}{K:Act->World->Prop}{R:Ending->World->Prop}{u:Value} (ho:o.op = .call { callee:=.value f,args:=#[x,y],argTypes:=ts })
  (hf:a.eval f = .func (.yield l) #[] #[]) (hY:YieldAt Fence.wide 0 P l #[a.eval x,a.eval y] w R) (hR:∀ e w',R e w'->e = .returned u/\K (a.put o.dst u) w'):o.wpIn Fence.wide 1 P a w K Q:=by
 obtain⟨fn,tmps,assign,body,hy,hr⟩:=hY;refine⟨fun _ _=>trivial,?_⟩
 rw[Oper.semAt_eq _ _ _ (by rw[ho]; intro c e; cases e)]
 have:(execOp a.eval o).run P w = .ok (.round l fn tmps assign body) w:=by
  simp[execOp,ho,resolve,hf,Deferred.ofValue,invoke,hy]
 rw[this]
 refine⟨fun h=>(by cases h),hr.mono fun e w' he=>?_⟩
 obtain⟨rfl,h⟩:=hR e w' he;exact h
theorem Conc.back {G':Nat->Prop} (hc:Conc (zDp P W G N) G' β σ a w) (hs:w.heap.size=W.heap.size):(∀ b,G' b->G b)/\∀ b,b<W.heap.size->w.heap[b]? = W.heap[b]? :=
 ⟨fun b hb=>(hc.new b hb).elim id (fun h=>h.elim False.elim (fun h=>by have:=hc.lt b hb; have h:W.heap.size<=b:=h; omega)),fun b hb=>hc.fr.old b hb (fun h=>h)⟩
end Go.Abs
namespace Go.Proofs.YtbfnjnljboncgaaGreat
open Go.Abs
def zKl (xs:List AV) (r:Ret):Prop:=∃ rows,xs=[.s (.sl 8 rows)]/\r = .val (.clo 66 [.s (.pt [.sl 8 rows])])
set_option maxHeartbeats 600000 in
theorem zOV:PSound prog 36 (zAu zKl):=by
 have gok:∀ f s,look? f []=some s->PSound prog f s:=zAn (by simp)
 refine psq tokW call36 func36 rfl ?_;rintro xs r w0 G0 ⟨rows,rfl,rfl⟩ _;refine yCp ?_;refine yCp ?_;refine zAd ?_;unfold zBK;exact gR
theorem zQE (a:Act) (t:Nat):a.eval (.tmp t)=a.tmps.getD t undef:=rfl
theorem yCm {α:Type}:∀ {l:List α},l.length=8->∃ a b c d e f g h,l=[a,b,c,d,e,f,g,h]
 | [a,b,c,d,e,f,g,h],_=>⟨a,b,c,d,e,f,g,h,rfl⟩
theorem yAD:zQa prog 66 8:=by
 intro G w0 v rows hlt hgl hv hrl hlen l J W hsz hk hJ hY h0;have hrep:∀ w:World,(∀ b,G b->w.heap[b]? = w0.heap[b]?)->Rep G w (.pt [.sl 8 rows]) v:=fun w hw=>hv.keep ⟨fun _ h=>h,hw⟩
 have hlt':∀ w:World,w0.heap.size<=w.heap.size->∀ b,G b->b<w.heap.size:=fun w hw b hb=>Nat.lt_of_lt_of_le (hlt b hb) hw
 have hgl':∀ w:World,(∀ b,G b->w.heap[b]? = w0.heap[b]?)->GlobOk G w:=fun w hw=>hgl.keep ⟨fun _ h=>h,hw⟩
 have step:∀ {N:Nat} {G':Nat->Prop} {β:Nat->Value} {σ:St} {a:Act} {wa wb:World} (i:Nat),Conc (zDp prog wa G N) G' β σ a wb->wb.heap.size=wa.heap.size->J i wa->w0.heap.size<=wa.heap.size->(∀ b,G b->wa.heap[b]? = w0.heap[b]?) ->
   J i wb/\w0.heap.size<=wb.heap.size/\(∀ b,G b->wb.heap[b]? = w0.heap[b]?):=fun {N G' β σ a wa wb} i hc hs hj h1 h2=>by
  obtain⟨g1,g2⟩:=hc.back hs;exact⟨hJ i wa wb hj ⟨hc.fr.os,hc.fr.tape,hc.fr.output,hc.fr.size,g2⟩,by rw[hs]; exact h1,fun b hb=>(g2 b (hlt' wa h1 b hb)).trans (h2 b hb)⟩
 let St:Nat->Act->World->Prop:=fun i a w=>a.defers=[]/\a.tmps.size=19/\a.tmps.getD 0 undef = .func (.yield l) #[] #[]/\a.tmps.getD 1 undef=v/\a.tmps.getD 3 undef = .int .i64 ((rows.length:Int) - 1 - i)/\J i w/\w0.heap.size<=w.heap.size/\(∀ b,G b->w.heap[b]? = w0.heap[b]?)
 refine callsIn_of_wp func66 rfl trivial ?_;generalize ha:({ tmps:=#[Value.func (.yield l) #[] #[],v]++Array.replicate _ undef,defers:=[] }:Act)=a;have a0:a.tmps.getD 0 undef = .func (.yield l) #[] #[] :=(by rw[← ha]; rfl);have a1:a.tmps.getD 1 undef=v :=(by rw[← ha]; rfl);have az:a.tmps.size=19 :=(by rw[← ha]; rfl);have ad:a.defers=[]:=by rw[← ha]
 clear ha
 refine wpIn_seq ?_;refine wpIn_region_lit ?_;refine zQD tokW (N:=19) (K:=fun σ=>σ.env 3 = .s (.int .i64 (i64.wrap ((rows.length:Int) - 1)))) [0,1] ?_ (zWl (G:=G) [(1,.s (.pt [.sl 8 rows]))] ad az (hlt' W hsz) (hgl' W hk) rfl (fun p hp=>by
  obtain rfl:=List.mem_singleton.1 hp;dsimp only;rw[a1]
  simp only[AVal]
  exact hrep W hk)) rfl ?_
 ·show _=_
  rfl
 intro σ1 G1 β1 b w1 hK hc hs hfr;have b0:=(hfr 0 (by simp)).trans a0;have b1:=(hfr 1 (by simp)).trans a1;have b3:=hc.env 3;rw[hK]at b3;simp only[AVal,Rep]at b3;rw[wrap64_in (n:=(rows.length:Int) - 1) (by omega) (by omega)]at b3;have hst:=step 0 hc hs h0 hsz hk;have hS:St 0 b w1:=⟨hc.defers,hc.size,b0,b1,by rw[b3]; congr 1; omega,hst⟩
 clear hst b0 b1 b3 hK hfr hc hs a0 a1 az ad
 refine wpIn_block ?_;refine wpIn_loop (fun a w=>∃ i,i<=rows.length/\St i a w) (fun a _=>match a.tmps.getD 3 undef with | .int _ z=>(z+1).toNat | _=>0) ⟨0,Nat.zero_le _,hS⟩ ?_;rintro a w ⟨i,hi,ad,az,a0,a1,a3,hj,hw1,hw2⟩
 refine wpIn_seq ?_;refine wpIn_seq ?_;refine wpIn_region_lit ?_;refine zQD tokW (N:=19) (K:=fun σ=>σ.env 8 = .s (.bool (decide (0<=(rows.length:Int) - 1 - i)))) [0,1,3] ?_ (zWl (G:=G) [(3,.s (.int .i64 ((rows.length:Int) - 1 - i)))] ad az (hlt' w hw1) (hgl' w hw2) rfl (fun p hp=>by
  obtain rfl:=List.mem_singleton.1 hp;dsimp only;rw[a3]
  simp[AVal,Rep])) rfl ?_
 ·show _=_
  rfl
 intro σ1 G1 β1 b w1 hK hc hs hfr;have b0:=(hfr 0 (by simp)).trans a0;have b1:=(hfr 1 (by simp)).trans a1;have b3:=(hfr 3 (by simp)).trans a3;have b8:=hc.env 8;rw[hK]at b8;simp only[AVal,Rep]at b8;obtain⟨hj1,hw3,hw4⟩:=step i hc hs hj hw1 hw2;have bd:b.defers=[]:=hc.defers;have bs:b.tmps.size=19:=hc.size
 clear hc hK hfr hs a0 a1 ad az hj hw1 hw2
 refine wpIn_cond_split (t:=decide (0<=(rows.length:Int) - 1 - i)) b8 (fun hb=>?_) (fun hb=>?_)
 ·have hb:=of_decide_eq_true hb;refine wpIn_skip ?_;obtain⟨j,hij⟩:∃ j,i+j+1=rows.length:=⟨rows.length - 1 - i,by omega⟩
  have hz:(rows.length:Int) - 1 - i=(j:Int) :=(by omega);rw[hz]at b3;have hjl:j<rows.length :=(by omega);have hrow:rows[j]? = some rows[j]:=List.getElem?_eq_getElem hjl;have hr8:=hrl _ (getElem_mem hjl)
  have hgd:rows.getD ((j:Int).toNat) []=rows[j] :=(by rw[Int.toNat_natCast,getD_eq_getElem?_getD,hrow]; rfl);generalize rows[j]=row at hrow hr8 hgd;refine wpIn_seq ?_;refine wpIn_block ?_;refine wpIn_seq ?_;refine wpIn_region_lit ?_;refine zMD rfl ?_;refine zX7 (ro:=none) (K:=fun a' w'=>a'=b.put (some 11) (.func (.yield l) #[] #[])/\w'=w1) (by intro c e; cases e) ?_ (zAG (v:=.func (.yield l) #[] #[]) (w':=w1) (by simp[execOp,zQE,b0]) ⟨rfl,rfl⟩)
  rintro a' w' ⟨ha',hw'⟩
  rw[ha',hw']
  clear ha' hw' a' w'
  have c0:(b.put (some 11) (.func (.yield l) #[] #[])).tmps.getD 0 undef = .func (.yield l) #[] #[]:=(zOd (by decide)).trans b0;have c1:(b.put (some 11) (.func (.yield l) #[] #[])).tmps.getD 1 undef=v:=(zOd (by decide)).trans b1;have c3:(b.put (some 11) (.func (.yield l) #[] #[])).tmps.getD 3 undef = .int .i64 (j:Int):=(zOd (by decide)).trans b3;have c11:(b.put (some 11) (.func (.yield l) #[] #[])).tmps.getD 11 undef = .func (.yield l) #[] #[]:=by
   simp only[Act.put]
   rw[zKT (by rw[bs]; decide),if_pos rfl]
  have cd:(b.put (some 11) (.func (.yield l) #[] #[])).defers=[]:=(put_defers ..).trans bd;have cs:(b.put (some 11) (.func (.yield l) #[] #[])).tmps.size=19:=(zRu ..).trans bs;generalize b.put (some 11) (.func (.yield l) #[] #[])=c at c0 c1 c3 c11 cd cs
  clear b0 b1 b3 b8 bd bs
  refine zVh tokW (N:=19) 4 (K:=fun σ=>σ.env 12 = .s (.int .i64 (j:Int))/\σ.env 15 = .s (.pt (rows.getD ((j:Int).toNat) []))) [0,1,3,11] ?_ (zWl (G:=G) [(1,.s (.pt [.sl 8 rows])),(3,nI (j:Int))] cd cs (hlt' w1 hw3) (hgl' w1 hw4) rfl (fun p hp=>by
   rcases List.mem_cons.1 hp with rfl | hp
   ·dsimp only;rw[c1]
    simp only[AVal]
    exact hrep w1 hw4
   ·obtain rfl:=List.mem_singleton.1 hp;dsimp only;rw[c3]
    simp[AVal,Rep])) rfl ?_
  ·exact⟨⟨by omega,by omega⟩,rfl,rfl⟩
  intro σ2 G2 β2 d w2 hK hc hs hfr;have d0:=(hfr 0 (by simp)).trans c0;have d1:=(hfr 1 (by simp)).trans c1;have d3:=(hfr 3 (by simp)).trans c3;have d11:=(hfr 11 (by simp)).trans c11;have d12:=hc.env 12;have d15:=hc.env 15;obtain⟨hgb,_⟩:=hc.back hs;rw[hK.1]at d12;rw[hK.2,hgd]at d15;simp only[AVal,Rep]at d12;have d15:=d15.keep (⟨hgb,fun _ _=>rfl⟩:Keep G2 G w2 w2)
  simp only[AVal]at d15;obtain⟨hj2,hw5,hw6⟩:=step i hc hs hj1 hw3 hw4;have dd:d.defers=[]:=hc.defers;have ds:d.tmps.size=19:=hc.size
  clear hc hK hfr hs c0 c1 c3 c11 cd cs hj1 hw3 hw4 hgb
  obtain⟨r1,r2,r3,r4,r5,r6,r7,r8,rfl⟩:=yCm hr8;refine zVh tokW (N:=19) 1 (K:=fun σ=>σ.env 16 = .agg ([r1,r2,r3,r4,r5,r6,r7,r8].map .s)) [0,1,3,11,12] ?_ (zWl (G:=G) [(15,.s (.pt [r1,r2,r3,r4,r5,r6,r7,r8]))] dd ds (hlt' w2 hw5) (hgl' w2 hw6) rfl (fun p hp=>by
   obtain rfl:=List.mem_singleton.1 hp;dsimp only;simp only[AVal]
   exact d15)) rfl ?_
  ·show _=_
   rfl
  intro σ3 G3 β3 e w3 hK hc hs hfr;have e0:=(hfr 0 (by simp)).trans d0;have e1:=(hfr 1 (by simp)).trans d1;have e3:=(hfr 3 (by simp)).trans d3;have e11:=(hfr 11 (by simp)).trans d11;have e12:=(hfr 12 (by simp)).trans d12;have e16:=hc.env 16;obtain⟨hgb,_⟩:=hc.back hs;rw[hK]at e16;have e16:=e16.keep (⟨hgb,fun _ _=>rfl⟩:Keep G3 G w3 w3)
  obtain⟨hj3,hw7,hw8⟩:=step i hc hs hj2 hw5 hw6;have ed:e.defers=[]:=hc.defers;have es:e.tmps.size=19:=hc.size
  clear hc hK hfr hs d0 d1 d3 d11 d12 d15 dd ds hj2 hw5 hw6 hgb
  refine zMD rfl ?_;have hYY:=hY i j _ (e.tmps.getD 16 undef) w3 hij hrow hj3 hw7 hw8 (fun β=>e16.beta (n:=0) (fun k hk=>by cases hk) (zQP _))
  refine yAe (u:=.bool true) (f:=.tmp 11) (x:=.tmp 12) (y:=.tmp 16) (l:=l) rfl e11 (by rw[zQE,zQE,e12]; exact hYY) ?_;rintro ee w4 ⟨rfl,hj4,hw9,hw10⟩
  refine⟨rfl,?_⟩
  have f0:(e.put (some 17) (.bool true)).tmps.getD 0 undef = .func (.yield l) #[] #[]:=(zOd (by decide)).trans e0;have f1:(e.put (some 17) (.bool true)).tmps.getD 1 undef=v:=(zOd (by decide)).trans e1;have f3:(e.put (some 17) (.bool true)).tmps.getD 3 undef = .int .i64 (j:Int):=(zOd (by decide)).trans e3;have f17:(e.put (some 17) (.bool true)).tmps.getD 17 undef = .bool true:=by
   simp only[Act.put]
   rw[zKT (by rw[es]; decide),if_pos rfl]
  have fd:(e.put (some 17) (.bool true)).defers=[]:=(put_defers ..).trans ed;have fs:(e.put (some 17) (.bool true)).tmps.size=19:=(zRu ..).trans es;show wpListIn _ _ _ _ _ _ (e.put (some 17) (.bool true)) _;generalize e.put (some 17) (.bool true)=f at f0 f1 f3 f17 fd fs
  clear e0 e1 e3 e11 e12 e16 ed es hj3 hw7 hw8 hYY
  refine zQD tokW (N:=19) (K:=fun σ=>σ.env 18 = .s (.bool false)) [0,1,3] ?_ (zWl (G:=G) [(17,nB true)] fd fs (hlt' w4 hw9) (hgl' w4 hw10) rfl (fun p hp=>by
   obtain rfl:=List.mem_singleton.1 hp;dsimp only;rw[f17]
   simp[AVal,Rep])) rfl ?_
  ·show _=_
   rfl
  intro σ5 G5 β5 g w5 hK hc hs hfr;have g0:=(hfr 0 (by simp)).trans f0;have g1:=(hfr 1 (by simp)).trans f1;have g3:=(hfr 3 (by simp)).trans f3;have g18:=hc.env 18;rw[hK]at g18;simp only[AVal,Rep]at g18;obtain⟨hj5,hw11,hw12⟩:=step (i+1) hc hs hj4 hw9 hw10;have gd:g.defers=[]:=hc.defers;have gs:g.tmps.size=19:=hc.size
  clear hc hK hfr hs f0 f1 f3 f17 fd fs hj4 hw9 hw10
  refine wpIn_cond_false g18 ?_;refine wpIn_skip ?_;refine wpIn_region_lit ?_;refine zQD tokW (N:=19) (K:=fun σ=>σ.env 3 = .s (.int .i64 (i64.wrap ((j:Int) - 1)))) [0,1] ?_ (zWl (G:=G) [(3,nI (j:Int))] gd gs (hlt' w5 hw11) (hgl' w5 hw12) rfl (fun p hp=>by
   obtain rfl:=List.mem_singleton.1 hp;dsimp only;rw[g3]
   simp[AVal,Rep])) rfl ?_
  ·show _=_
   rfl
  intro σ6 G6 β6 h w6 hK hc hs hfr;have h0':=(hfr 0 (by simp)).trans g0;have h1':=(hfr 1 (by simp)).trans g1;have h3':=hc.env 3;rw[hK]at h3';simp only[AVal,Rep]at h3';rw[wrap64_in (n:=(j:Int) - 1) (by omega) (by omega)]at h3';have hst:=step (i+1) hc hs hj5 hw11 hw12;refine⟨⟨i+1,by omega,hc.defers,hc.size,h0',h1',by rw[h3']; congr 1; omega,hst⟩,?_⟩
  rw[h3',a3]
  show((j:Int) - 1+1).toNat<((rows.length:Int) - 1 - i+1).toNat
  omega
 ·have hb:=of_decide_eq_false hb;refine wpIn_exit ?_;obtain rfl:i=rows.length :=(by omega);simp only[Exit.then,Exit.inBlock,if_true]
  exact⟨bd,_,results_none rfl _ _ _,⟨_,rfl⟩,hj1⟩
theorem yBo {c:Cx}{σ σ':Go.Abs.St}{x:Code}{Φ:Exit->Act->World->Prop} (hle:Le c σ σ') (h:TriX c x σ' Φ):TriX c x σ Φ:=fun G β a w hc=>by
 unfold Le at hle;obtain⟨G',β',h'⟩:=hle G β a w hc;exact h G' β' a w h'
theorem zJx {n:Nat}{ops:List zO8}:∀ {N:Nat}{y0:List zO8},zBb n ops N=some y0->∀ i,i<N ->
  ∃ acc o y,zBb n ops i=some acc/\ops[ops.length - 1 - i]? = some o/\zCd n o=some y/\acc.length+1<=4294967296/\zBb n ops (i+1)=some (acc++[y])
 | 0,_,_,i,hi=>by omega
 | N+1,y0,h,i,hi=>by
  have h':=h;unfold zBb at h;obtain⟨acc,h1,h⟩:=zAc h;obtain⟨o,h2,h⟩:=zAc h;obtain⟨y,h3,h⟩:=zAc h;obtain⟨h4,h5⟩:=zAx h
  by_cases e:i=N
  ·subst e;exact⟨acc,o,y,h1,h2,h3,h4,h'.trans h5.symm⟩
  ·exact zJx h1 i (by omega)
def zMF (n:Nat) (xs:List AV) (r:Ret):Prop:=∃ (a0:List zO8) (y0:List zO8),zCA n a0=some y0/\xs=[.s (.sl 8 ((List.map zAl) a0))]/\r = .val (.s (.sl 8 ((List.map zAl) y0)))
def zHZ:zAr:=pG zMF
theorem zLy:PSound prog 12 zHZ:=by
 have gok:∀ f s,look? f [(36,zAu zKl),(37,zKv)]=some s->PSound prog f s:=zAn (by
  simp only[forall_mem_cons]
  exact⟨zOV,zOY,by simp⟩)
 refine zYk call12 func12 rfl (fun xs r h=>by obtain⟨n,_,_,_,rfl,_⟩:=h; show 1<=16; decide) 16 rfl ?_;rintro xs r w0 G0 ⟨n,ops,y0,h,rfl,rfl⟩ _;rw[zCA]at h;obtain⟨hl,h⟩:=zAx h;obtain⟨acc,hacc⟩:∃ acc:Nat->List zO8,acc=fun i=>(zBb n ops i).getD []:=⟨_,rfl⟩
 have hfin:acc ops.length=y0 :=(by rw[hacc]; dsimp only; rw[h]; rfl);have h0:acc 0=[] :=(by rw[hacc]; rfl);have hst:∀ i,i<ops.length->∃ o y,ops[ops.length - 1 - i]? = some o/\zCd n o=some y/\(acc i).length+1<=4294967296/\acc (i+1)=acc i++[y]:=fun i hi=>by
  obtain⟨a,o,y,h1,h2,h3,h4,h5⟩:=zJx h i hi;rw[hacc]
  exact⟨o,y,h2,h3,by dsimp only; rw[h1]; exact h4,by dsimp only; rw[h1,h5]; rfl⟩
 clear hacc
 refine zLj rfl ?_;refine yCo ?_;refine⟨rfl,?_⟩
 refine zLj rfl ?_;refine zAb [3] [] rfl ?_;refine⟨rfl,?_⟩
 refine zVT ?_;refine zLj rfl ?_;refine yCo ?_;refine⟨_,⟨_,rfl,rfl⟩,?_⟩
 refine⟨rfl,?_⟩
 refine yBo (Le.trans (Le.takeNil 0 0 76 rfl rfl (by decide)) (Le.rnq [(0,0),(1,1)] [(3,.op 0 0),(7,.clo 66 [.s (.pt [.sl 8 ((List.map zAl) ops)])])] [(0,.box 33 [.orow 1]),(1,.row 76 8 [])] 2)) ?_;refine zP3 ?_;refine zW2 rfl rfl (sz:=8) (rows:=(List.map zAl) ops) yAD call66 rfl (fun r hr=>by obtain⟨o,_,rfl⟩:=List.mem_map.1 hr; rfl) (by rw[length_map]; omega)
  (fun i=>(ofH [(0,.box 33 [.orow 1]),(1,.row 76 8 ((List.map zAl) (acc i)))],2)) (by dsimp only; rw[h0]; rfl) 1 (zMW rfl) (Nat.zero_le _) (fun _=>by show 1<=2; decide) (by show 8<16; decide) (by show 9<16; decide) ?_ ?_
 ·intro i j row hij hrow l w X G B _;rw[length_map]at hij;obtain⟨o,y,h1,h2,h3,h4⟩:=hst i (by omega)
  rw[show ops.length - 1 - i=j by omega]at h1;rw[List.getElem?_map,h1]at hrow;obtain rfl:=Option.some.inj hrow;obtain⟨op_kind,op_row,op_at,op_n,op_nodes,op_slot,op_old,op_text⟩:=o;refine zAb [5] [] rfl ?_;refine⟨rfl,fun w X G B _=>?_⟩
  refine zAk ?_;refine zLi (by exact tokW) (by exact gok) (by exact mixed) [] [] [0,1,4,5] rfl (by decide +kernel) ?_;refine⟨_,⟨n,_,_,h2,rfl,rfl⟩,?_⟩
  obtain⟨z_kind,z_row,z_at,z_n,z_nodes,z_slot,z_old,z_text⟩:=y;refine And.intro (by simp only[length_map,length_cons,length_nil]; omega) ?_;refine⟨rfl,_,Le.rename [(0,0),(3,1)] [] [(0,.box 33 [.orow 1]),(1,.row 76 8 ((List.map zAl) (acc (i+1))))] 2 trivial ⟨rfl,⟨_,rfl,rfl⟩,rfl,⟨_,rfl,by rw[h4,map_append]; rfl⟩,trivial⟩ rfl rfl rfl rfl rfl,rfl,rfl⟩
 ·intro D w2 X G2 G' β' a2 hsw hc;rw[length_map,hfin]at hc;show(Code.seq _ _).wpIn _ _ _ _ a2 w2;refine zSR (c:=zDp prog w0 G0 16) tokW hsw (fun _ h=>h) rfl rfl ?_ G' β' a2 w2 hc;refine yCp ?_;refine zAd ?_;unfold zBK;exact⟨_,Le.giveRow 1 (e:=76) (sz:=8) (rows:=(List.map zAl) y0) rfl,rfl,rfl⟩
end Go.Proofs.YtbfnjnljboncgaaGreat
namespace Go.Abs
variable {c:Cx} {σ:St}
variable {sz:Nat}
theorem Le.ofA (k:Nat){e:Nat}{rows:List (List AV)} (rs:List (List S)) (hk:σ.hp k=some (.arow e sz rows)) (hs:zGK rows=some rs):Le c σ (zEe σ k (.row e sz rs)):=by
 unfold Le;intro G β a w hc;obtain⟨s1,s2,s3⟩:=zLN hs;have hget:∀ {j o},(zEe σ k (.row e sz rs)).hp j=some o->(j=k/\o = .row e sz rs)∨(j ≠ k/\σ.hp j=some o):=fun {j o} h=>by
  simp only[zEe]at h;cases hq:Nat.beq j k with
  | true=>rw[hq,cond_true]at h; cases h; exact .inl ⟨Nat.eq_of_beq_eq_true hq,rfl⟩
  | false=>rw[hq,cond_false]at h; exact .inr ⟨Nat.ne_of_beq_eq_false hq,h⟩
 have hget':∀ {j o},(zEe σ k (.row e sz rs)).hp j=some o->∃ o',σ.hp j=some o':=fun {j o} h=>by
  rcases hget h with ⟨rfl,_⟩ | ⟨_,h⟩
  ·exact⟨_,hk⟩
  ·exact⟨_,h⟩
 refine⟨G,β,{ hc with hp:=fun j o hj=>?_,hplt:=fun j o hj=>?_,inj:=fun j j' o o' hj hj'=>(let ⟨_,h1⟩:=hget' hj; let ⟨_,h2⟩:=hget' hj'; hc.inj j j' _ _ h1 h2) }⟩
 ·rcases hget hj with ⟨rfl,rfl⟩ | ⟨_,h⟩
  ·obtain⟨hlen,hsz,ho⟩:=hc.hp j _ hk;refine⟨fun r hr=>s3 sz hlen r hr,hsz,ho.imp (fun h=>⟨h.1,by have:=h.2; subst this; exact List.length_eq_zero_iff.1 (by simpa using s2.symm)⟩) ?_⟩
   rintro⟨b,cap,cur,h1,h2,h3,h4,h5,h6,h7⟩
   refine⟨b,cap,cur,by rw[← s2]; exact h1,by rw[← s2]; exact h2,h3,h4,h5,h6,fun i s hi=>?_⟩
   have hm:(rows.flatten.map AV.sc)[i]? = some (some s) :=(by rw[s1,List.getElem?_map,hi]; rfl);rw[List.getElem?_map]at hm;obtain⟨x,hx,hxs⟩:=Option.map_eq_some_iff.1 hm;obtain⟨u,hu,hr,_⟩:=h7 i x hx;exact⟨u,hu,AV.sc_rep hxs hr⟩
  ·exact hc.hp j o h
 ·rcases hget hj with ⟨rfl,rfl⟩ | ⟨_,h⟩
  ·exact⟨(hc.hplt j _ hk).1,rfl⟩
  ·exact hc.hplt j o h
theorem Le.dropNil (k off:Nat){bt:Nat}{cells:List AV} (hk:σ.hp k=some (.box bt cells)) (ho:cells[off]? = some (.nl sz)):Le c σ (zEe σ k (.box bt (cells.set off (.s (.sl sz []))))):=by
 unfold Le;intro G β a w hc;obtain⟨b,e0,cur,h1,h2,h3,h4,h5,h6⟩:=hc.hp k _ hk;have hcl:AV.ltAll σ.nx cells=true:=(hc.hplt k _ hk).2;have hset:AVals G w β (cells.set off (.s (.sl sz []))) cur.toList:=by
  refine AVals.mk (by rw[length_set]; exact h5.length) fun i x v hx hv=>?_
  rw[List.getElem?_set]at hx;split at hx
  ·rename_i hio
   subst hio;split at hx
   ·cases hx;obtain⟨u,hu,hn⟩:=h5.get ho;rw[hu]at hv; cases hv
    simp only[AVal]at hn ⊢;simp only[Rep]
    exact .inl ⟨trivial,none,0,hn⟩
   ·cases hx
  ·obtain⟨u,hu,hn⟩:=h5.get hx;rw[hu]at hv; cases hv; exact hn
 have hlt2:AV.ltAll σ.nx (cells.set off (.s (.sl sz [])))=true:=zCD fun q y hq=>by
  rw[List.getElem?_set]at hq;split at hq
  ·split at hq
   ·cases hq; rfl
   ·cases hq
  ·exact zBd hcl hq
 exact⟨G,β,hc.write (j:=k) (ob:=.box bt cells) (ob':=.box bt (cells.set off (.s (.sl sz [])))) (w':=w) hk (b:=b) (by rw[h1]; rfl) h3 h4 rfl rfl rfl rfl (fun _ _=>rfl) (fun _=>⟨b,e0,cur,h1,h2,h3,h4,hset,h6⟩) hlt2⟩
theorem zYH:∀ r:List S,zLM (r.map AV.s)=some r
 | []=>rfl
 | x::r=>by simp[zLM,AV.sc,zYH r]
theorem zVN:∀ rows:List (List S),zGK (rows.map (·.map AV.s))=some rows
 | []=>rfl
 | r::rows=>by simp[zGK,zYH r,zVN rows]
theorem zLf:∀ {a b:List (List AV)}{x y:List (List S)},zGK a=some x->zGK b=some y->zGK (a++b)=some (x++y)
 | [],b,x,y,h,h'=>by
  simp only[zGK,Option.some.injEq]at h;subst h;exact h'
 | r::a,b,x,y,h,h'=>by
  simp only[zGK]at h;split at h
  ·rename_i z zs h1 h2
   cases h;simp[zGK,h1,zLf h2 h']
  ·cases h
theorem zVl {k:Nat}{r:AV}{p:Nat->AV}:∀ l:List S,AV.frzAll k r p (l.map AV.s)=l.map AV.s
 | []=>rfl
 | x::l=>by simp[AV.frzAll,AV.frz,zVl l]
theorem zWu {k:Nat}{r:AV}{p:Nat->AV} (rows:List (List S)):(rows.map (·.map AV.s)).map (AV.frzAll k r p)=rows.map (·.map AV.s):=by
 rw[map_map]
 exact map_congr_left fun l _=>zVl l
end Go.Abs
namespace Go.Proofs
set_option maxHeartbeats 1000000 in
theorem Tryz.bld_check_used (b off:Nat) (w:World) (h0:w.cell? ⟨b,off,none⟩=some (.pointer (some ⟨b,off,none⟩))) :
  Calls prog 194 #[.pointer (some ⟨b,off,none⟩)] w fun e w'=>e = .returned (.tuple #[])/\w'=w:=by
 have hj:prog.info? 89=some Tryz.t89:=by kernel_rfl
 go_enter func194,Tryz.ntmps194
 go_wp2
 rw[Lib.run_neq_ptr_same w _ Tryz.underlying86 hj]
 go_wp2
 go_end0
 exact qH
set_option maxHeartbeats 1000000 in
theorem Tryz.bld_check_fresh (b off D n:Nat) (w:World) (h0:w.cell? ⟨b,off,none⟩=some (.pointer none)) (hsh:w.shape? b=some (D,n)) (hn:off<n) (hlies:liesAt prog prog.depth D (n / prog.cellsOf D) off 89 1=true) (hfz:w.frozen? ⟨b,off,none⟩=false) :
  Calls prog 194 #[.pointer (some ⟨b,off,none⟩)] w fun e w'=>e = .returned (.tuple #[])/\w'=w.setCell ⟨b,off,none⟩ (.pointer (some ⟨b,off,none⟩)):=by
 have hj:prog.info? 89=some Tryz.t89 :=(by kernel_rfl);have hjs:Tryz.t89.size ≠ 0:=by decide
 go_enter func194,Tryz.ntmps194
 go_wp2
 rw[Lib.run_to_unsafe w ⟨b,off,none⟩ Tryz.underlying86 Tryz.underlying265 hj hjs hsh hn]
 simp only[Result.andThen]
 rw[Oper.upon_value]
 go_wp2
 rw[run_callFunc_extern func227 (by kernel_rfl) (by kernel_rfl) (by kernel_rfl) (e:=Extern.AbiNoEscape.same) (by kernel_rfl)]
 rw[Lib.run_noEscape]
 simp only[Result.andThen]
 rw[Oper.upon_value]
 go_wp2
 rw[Lib.run_from_unsafe w ⟨b,off,none⟩ Tryz.underlying265 Tryz.underlying86 hj hsh hlies]
 simp only[Result.andThen]
 rw[Oper.upon_value]
 go_wp2
 go_end0
 exact qH
theorem Tryz.bld_String (b off g cap:Nat) (l:List UInt8) (w:World) (cur:Array Value) (mk:Nat×Nat) (h0:l ≠ []) (hb:w.cell? ⟨b,off+1,none⟩=some (.slice (some ⟨g,0,none⟩) l.length cap)) (hg:w.heap[g]? = some (.cells cur 5 mk)) (hc:cur.size=cap * 1) (hle:l.length<=cap) (hm:l.length<=9223372036854775807)
  (hx:∀ (j:Nat) x,l[j]? = some x->cur[j]? = some (.int .u8 x.toNat)) :
  Calls prog 40 #[.pointer (some ⟨b,off,none⟩)] w fun e w'=>e = .returned (.string ⟨l.toArray⟩)/\w'=w.drew.freeze ⟨g,0,none⟩ l.length:=by
 have hl0:l.length ≠ 0 :=(by simpa using h0);have c1:w.drew.cell? ⟨b,off+1,none⟩=some (.slice (some ⟨g,0,none⟩) l.length cap):=hb;have hSD:(Builtin.unsafeSliceData_ #[87] 140 #[.slice (some ⟨g,0,none⟩) l.length cap]).run prog w.drew = .ok (.pointer (some ⟨g,0,none⟩)) w.drew :=
  Lib.run_unsafeSliceData_row _ _ _ _ _ _ (by omega)
 have hg':w.drew.heap[g]? = some (.cells cur 5 mk):=hg;have hUS:(Builtin.unsafeString_ #[140,3] 9 #[.pointer (some ⟨g,0,none⟩),.int .i64 l.length]).run prog w.drew = .ok (.string ⟨l.toArray⟩) (w.drew.freeze ⟨g,0,none⟩ l.length):=by
  refine Lib.run_unsafeString_row w.drew 140 3 9 5 Tryz.underlying140 (by kernel_rfl) g cur.size (by simp[World.shape?,hg']) l h0 (by omega) hm ?_;intro j x hx';have e:(Addr.mk g 0 none).add j=⟨g,j,none⟩:=by
   unfold Addr.add;split
   ·rename_i e; rw[e]
   ·simp
  rw[e]
  simp only[World.cell?,hg']
  exact hx j x hx'
 have mixed:prog.follows .mixedOrders=true:=by kernel_rfl
 go_enter func40,Tryz.ntmps40
 go_wp2
 go_region_o
 all_goals (go_wp2; go_ret; exact⟨rfl,rfl⟩)
end Go.Proofs
namespace Go.Abs
section
attribute [local semireducible] Tri Le
variable {c:Cx} {σ:St} {Q:End->St->Prop}
def TriL (c:Cx) (x:Code) (σ:St) (Q:End->St->Prop):Prop :=
 ∀ G β a w,Conc c G β σ a w->∀ (b:Frame) (k:List Item) (cs:List Frame),b.roundOf=(rF c.ro).round->(rF c.ro).fn b.fn->(rF c.ro).room (cs.length+1+2) ->
  ∃ e a' w',(∃ e' G' β' σ',e=zFP e'/\Q e' σ'/\Conc c G' β' σ' a' w')/\ArrivesIn (Machine.fenced c.P (rF c.ro)) c.P (lone (b.atR a (.code x::.inLoop x::k)) cs w) b k cs e a' w'
variable {x:Code}
theorem zYR  (h:TriL c x σ Q):Tri c (.loop x) σ Q:=fun G β a w hc b k cs hro hb hr=>by
 obtain⟨e,a',w',hq,harr⟩:=h G β a w hc b k cs hro hb hr;exact⟨e,a',w',hq,.of_steps (.one (fenced_calm hb hr rfl) stepR_loop) harr⟩
def yAr (c:Cx) (x:Code) (Q:End->St->Prop):End->St->Prop
 | .normal,σ=>TriL c x σ Q
 | e,σ=>Q e σ
theorem zWZ  (h:Tri c x σ (yAr c x Q)):TriL c x σ Q:=fun G β a w hc b k cs hro hb hr=>by
 obtain⟨e,a',w',⟨e',G',β',σ',rfl,hq,hc'⟩,harr⟩:=h G β a w hc b (.inLoop x::k) cs hro hb hr;cases e' with
 | normal =>
  obtain⟨e2,a2,w2,hq2,harr2⟩:=hq G' β' a' w' hc' b k cs hro hb hr;exact gX
 | exit id=>exact⟨.exit id,a',w',⟨.exit id,G',β',σ',rfl,hq,hc'⟩,.pass (x:=.inLoop x) rfl (fun _ _=>.inl (by simp[zFP])) harr⟩
 | ret=>exact⟨.ret,a',w',⟨.ret,G',β',σ',rfl,hq,hc'⟩,.pass (x:=.inLoop x) rfl (fun _ _=>.inl (by simp[zFP])) harr⟩
theorem yBl {σ':St} (hl:Le c σ σ') (h:TriL c x σ' Q):TriL c x σ Q:=fun G β a w hc =>
 let ⟨G',β',h'⟩:=hl G β a w hc
 h G' β' a w h'
end
attribute [irreducible] TriL
def upF:Nat->List Nat->List Nat
 | 0,l=>l
 | n+1,l=>upF n (n::l)
def zUz (n:Int) (l:Nat):Bool:=decide (0<=n)&&decide (n<l)
theorem zGD {n:Int}{l:Nat} (h:zUz n l=true):0<=n/\n<l:=by simpa [zUz] using h
def rowB:List S->Bool
 | [.int .u8 n]=>zUz n 256
 | _=>false
def zZP (rows:List (List S)):Bool:=rows.all rowB
theorem zZO {r:List S} (h:rowB r=true):brow (zJG r)=r:=by
 unfold rowB at h;split at h
 ·rename_i n
  obtain⟨h1,h2⟩:=zGD h;obtain⟨m,rfl⟩:=Int.eq_ofNat_of_zero_le h1;have hm:m<256 :=(by omega);simp only[zJG,brow,Int.toNat_natCast,UInt8.toNat_ofNat',List.cons.injEq,S.int.injEq,true_and,and_true]
  simp[Nat.mod_eq_of_lt hm]
 ·cases h
theorem zOo {rows:List (List S)} (h:zZP rows=true):rows=(rows.map zJG).map brow:=by
 rw[map_map]
 conv=>lhs; rw[← map_id rows]
 refine map_congr_left fun r hr=>?_
 exact(zZO (List.all_eq_true.1 h r hr)).symm
def zNZ:Option Ob->Nat
 | some (.row _ _ rows)=>rows.length
 | some (.arow _ _ rows)=>rows.length
 | _=>0
def lenV (σ:St):AV->Nat
 | .orow k=>zNZ (σ.hp k)
 | .s (.str l)=>l.length
 | .s (.sl _ rows)=>rows.length
 | _=>0
def zX4 (op:BinOp) (x y:AV):Bool :=
 match x,y with
 | .s (.int _ _),.s (.int _ b)=>match op with
  | .quo | .rem=>!(decide (b=0))
  | .shl | .shr=>decide (0<=b)
  | _=>true
 | .s (.str a),.s (.str b)=>Nat.ble (a.length+b.length) 9223372036854775807
 | _,_=>true
def yA8 (a b m:Nat):Bool:=Nat.ble ((a+b) * m) 140737488355328&&Nat.ble (a+b) 9223372036854775807
theorem zTd {a b m:Nat} (h:yA8 a b m=true):(a+b) * m<=140737488355328/\a+b<=9223372036854775807:=by
 simp only[yA8,Bool.and_eq_true]at h;exact⟨Nat.le_of_ble_eq_true h.1,Nat.le_of_ble_eq_true h.2⟩
def zVz (T:Nat->Option TI) (σ:St) (dst:Nat) (y:AV):Bool :=
 match y with
 | .orow k=>match σ.hp k with
  | some (.row _ _ rows)=>match tk T dst with
   | .str=>zZP rows
   | _=>!rows.isEmpty
  | _=>true
 | .s (.sl _ rows)=>zZP rows
 | _=>true
def zUA (T:Nat->Option TI) (t:Nat) (y i:AV):Bool :=
 match i with
 | .s (.int _ n)=>match y with
  | .s (.str l)=>zUz n l.length
  | _=>match tk T t with | .arr len _=>zUz n len | _=>false
 | _=>false
def zJa (T:Nat->Option TI) (σ:St) (t:Nat) (y i:AV):Bool :=
 match i with
 | .s (.int _ n)=>match tk T t with
  | .arr len _=>zUz n len
  | _=>zUz n (lenV σ y)
 | _=>false
def okSl (l:Nat) (lo hi:Option AV):Bool :=
 match bnd 0 lo,bnd l hi with
 | some a,some b=>decide (0<=a)&&decide (a<=b)&&decide (b<=(l:Int))
 | _,_=>false
def okB (T:Nat->Option TI) (o:Oper) (σ:St):Bool :=
 match o.op with
 | .binOp op t x y u=>zX4 op (opd T σ.env t x) (opd T σ.env u y)
 | .convert src dst x=>zVz T σ dst (opd T σ.env src x)
 | .index t x i=>zUA T t (opd T σ.env t x) (opd T σ.env 0 i)
 | .indexAddr t x i=>zJa T σ t (opd T σ.env t x) (opd T σ.env 0 i)
 | .slice t x lo hi _=>okSl (lenV σ (opd T σ.env t x)) (lo.map (opd T σ.env 0)) (hi.map (opd T σ.env 0))
 | .makeSlice t l c=>match elemOf T t,opd T σ.env 0 l,opd T σ.env 0 c with
  | some (e,j),.s (.int _ n),.s (.int _ m)=>decide (0<=n)&&decide (n<=m)&&decide (m * j.bytes<=281474976710656)&&decide (m<=281474976710656)
  | _,_,_=>false
 | .store t x y=>match opd T σ.env 0 x with
  | .rp k _ j _=>Nat.blt j (zNZ (σ.hp k))
  | _=>true
 | .call { callee:=.builtin .append,args:=args,argTypes:=ts }=>match args.toList,ts.toList with
  | [x,y],[t,tx]=>match elemOf T t with
   | some (_,j)=>yA8 (lenV σ (opd T σ.env t x)) (lenV σ (opd T σ.env tx y)) j.bytes
   | none=>false
  | _,_=>false
 | .call { callee:=.builtin .copy,args:=args,argTypes:=ts }=>match args.toList,ts.toList with
  | [x,y],[t,tx]=>Nat.beq (lenV σ (opd T σ.env tx y)) (lenV σ (opd T σ.env t x))
  | _,_=>false
 | _=>true
section
variable {T:Nat->Option TI} {o:Oper} {σ σ':St} {own:Bool} {φ:Prop} {x:AV}
variable {t:Nat}
theorem yA9 {op:BinOp}{a b:AV} (h:pBin T t op a b=some (some φ,x)) (hk:zX4 op a b=true):φ:=by
 unfold pBin at h;split at h
 ·rename_i r hr
  cases h;unfold zYa at hr;split at hr
  ·cases hr; simpa [zX4] using hk
  ·cases hr; simpa [zX4] using hk
  ·split at hr
   ·unfold pInt at hr;split at hr <;> first | (cases hr; simpa [zX4] using hk) | cases hr
   ·cases hr
  ·unfold pStr at hr;split at hr <;> first | (cases hr; exact Nat.le_of_ble_eq_true hk) | cases hr
  all_goals (repeat' split at hr)
  all_goals cases hr
 ·unfold pArr at h
  repeat' split at h
  all_goals cases h
theorem zYO {e:Nat}{j:TI} (h:elemOf T t=some (e,j)):tk T t = .slice e:=by
 unfold elemOf at h;split at h
 ·rename_i i hi
  split at h
  ·rename_i e' he
   split at h
   ·cases h;simp only[tk,hi,he]
   ·cases h
  ·cases h
 ·cases h
theorem yAp (y:AV):y.nrm=y∨∃ sz,y = .nl sz/\y.nrm = .s (.sl sz []):=by
 cases y <;> first | exact .inl rfl | exact .inr ⟨_,rfl,rfl⟩
variable {y:AV}
theorem zZC {src dst:Nat} (h:zWR T src dst y.nrm=some (some φ,x)) (hk:zVz T σ dst y=true):φ:=by
 unfold zWR at h;split at h
 ·split at h
  ·cases h
  ·cases h
  ·rename_i sz rows _ _ hx
   split at h
   ·split at h
    ·cases h;rcases yAp y with e | ⟨sz',rfl,e⟩
     ·rw[e]at hx;subst hx;exact zOo hk
     ·rw[e]at hx;cases hx; rfl
    ·cases h
   ·cases h
  ·cases h
 ·cases h
theorem zYd {i:AV} (h:zOc T t y i=some (some φ,x)) (hk:zUA T t y i=true):φ:=by
 unfold zOc at h;split at h
 ·split at h
  ·cases h; exact zGD hk
  ·cases h
 ·rename_i ti xs k n ht
  split at h
  ·rename_i len e hk2
   split at h
   ·split at h
    ·cases h;have e1:tk T t = .arr len e :=(by simp only[tk,ht,hk2]);simp only[zUA,e1]at hk;exact zGD hk
    ·cases h
   ·cases h
  ·cases h
 ·cases h
theorem zVt (y:AV):lenV σ y.nrm=lenV σ y:=by
 rcases yAp y with e | ⟨sz',rfl,e⟩ <;> rw[e] <;> rfl
theorem zRr {i:AV} (h:zEQ T t y.nrm i=some (some φ,x)) (hk:zJa T σ t y i=true):φ:=by
 unfold zEQ at h;split at h
 ·rename_i ti k n ht
  split at h
  ·rename_i e sz rows hk2 hy
   split at h
   ·split at h
    ·cases h;have e1:tk T t = .slice e :=(by simp only[tk,ht,hk2]);simp only[zJa,e1]at hk;rw[← zVt,hy]at hk;exact zGD hk
    ·cases h
   ·cases h
  ·rename_i _ len e hk2
   split at h
   ·split at h
    ·cases h;have e1:tk T t = .arr len e :=(by simp only[tk,ht,hk2]);simp only[zJa,e1]at hk;exact zGD hk
    ·cases h
   ·cases h
  ·cases h
 ·cases h
theorem ok3 {a b l:Int} (h:(decide (0<=a)&&decide (a<=b)&&decide (b<=l))=true):0<=a/\a<=b/\b<=l:=by
 simp only[Bool.and_eq_true,decide_eq_true_eq]at h;exact⟨h.1.1,h.1.2,h.2⟩
variable {hi lo:Option AV}
theorem zK1 {l:Nat}{a b:Int} (h:okSl l lo hi=true) (h1:bnd 0 lo=some a) (h2:bnd l hi=some b):0<=a/\a<=b/\b<=l:=by
 unfold okSl at h;rw[h1,h2]at h;exact ok3 h
theorem zTt  (h:zK7 T t y lo hi=some (some φ,x)) (hk:okSl (lenV σ y) lo hi=true):φ:=by
 unfold zK7 at h;split at h
 ·split at h
  ·rename_i a b _ h1 h2
   cases h;exact zK1 hk h1 h2
  ·cases h
 ·split at h
  ·rename_i e a b _ h1 h2
   split at h
   ·split at h
    ·cases h;exact zK1 hk h1 h2
    ·cases h
   ·cases h
  ·cases h
 ·cases h
theorem zWU {sz:Nat} (h:zLF T t sz lo hi=some (some φ,x)) (hk:okSl 0 lo hi=true):φ:=by
 unfold zLF at h;split at h
 ·rename_i e a b _ h1 h2
  split at h
  ·cases h;exact zK1 hk h1 h2
  ·cases h
 ·cases h
theorem zVG (h:zB9 T own o σ.env=some (some φ,x)) (hk:okB T o σ=true):φ:=by
 unfold zB9 at h;split at h
 case h_1=>split at h <;> cases h
 case h_2=>split at h <;> cases h
 case h_3=>split at h <;> cases h
 case h_4 =>
  split at h
  ·cases h
  ·split at h <;> cases h
 case h_5 =>
  repeat' split at h
  all_goals cases h
 case h_6 =>
  unfold zTs at h
  repeat' split at h
  all_goals cases h
 case h_7 =>
  repeat' split at h
  all_goals cases h
 case h_8=>split at h <;> cases h
 case h_9 ho =>
  simp only[okB,ho]at hk;exact yA9 h hk
 case h_10=>unfold pUn at h; split at h <;> cases h
 case h_11 ho =>
  simp only[okB,ho]at hk;exact zZC h hk
 case h_12 =>
  repeat' split at h
  all_goals cases h
 case h_13 ho =>
  simp only[okB,ho]at hk;split at h
  ·rename_i sz hx
   rw[hx]at hk;split at h
   ·exact zWU h hk
   ·exact zTt (σ:=σ) h hk
  ·refine zTt (σ:=σ) h ?_;rw[zVt]
   exact hk
 case h_14 =>
  unfold zGd at h
  repeat' split at h
  all_goals cases h
 case h_15 =>
  unfold zPS at h
  repeat' split at h
  all_goals cases h
 case h_16 ho =>
  simp only[okB,ho]at hk;exact zRr h hk
 case h_17 ho =>
  simp only[okB,ho]at hk;exact zYd h hk
 case h_18 =>
  repeat' split at h
  all_goals cases h
 case h_19 =>
  split at h
  ·unfold pLen at h;split at h <;> cases h
  ·cases h
 case h_20 =>
  unfold pMin at h
  repeat' split at h
  all_goals cases h
 case h_21 =>
  unfold pMin at h
  repeat' split at h
  all_goals cases h
 case h_22 =>
  split at h
  ·unfold zWS at h
   repeat' split at h
   all_goals cases h
  ·cases h
 case h_23 =>
  split at h
  ·unfold pCap at h;split at h <;> cases h
  ·cases h
 case h_24=>cases h
theorem zZu (h:zDa T own o σ=some (some φ,x,σ')) (hk:okB T o σ=true):φ:=by
 unfold zDa at h;split at h
 case h_1 =>
  repeat' split at h
  all_goals cases h
 case h_2 =>
  repeat' split at h
  all_goals cases h
 case h_3=>split at h <;> cases h
 case h_4 =>
  split at h
  ·rw[zCL]at h; cases h
  ·cases h
 case h_5 =>
  repeat' split at h
  all_goals cases h
 case h_6 ho =>
  simp only[okB,ho]at hk;split at h
  ·rename_i e j k n k' m h1 h2 h3
   split at h
   ·cases h;rw[h1,h2,h3]at hk;simp only[Bool.and_eq_true,decide_eq_true_eq]at hk;exact⟨hk.1.1.1,hk.1.1.2,hk.1.2,hk.2⟩
   ·cases h
  ·cases h
 case h_7 =>
  repeat' split at h
  all_goals cases h
 case h_8 ho =>
  simp only[okB,ho]at hk;split at h
  ·split at h
   ·dsimp only at h;split at h
    ·rw[zCL]at h; cases h
    ·cases h
   ·cases h
  ·rename_i k sz j off i h1 h2
   rw[h1]at hk;dsimp only at hk;split at h
   ·rename_i e sz' rows ss h3 h4
    rw[h3]at hk;split at h
    ·cases h;exact Nat.le_of_ble_eq_true hk
    ·cases h
   ·cases h
  ·cases h
 case h_9 ho =>
  simp only[okB,ho]at hk;split at h
  ·rename_i e j k k' n h1 h2 h3
   split at h
   ·rename_i e' sz rows h4
    split at h
    ·cases h;have e1:tk T _ = .slice _:=zYO h1;rw[h2,h3]at hk;simp only[zJa,e1,lenV,h4,zNZ]at hk;exact zGD hk
    ·cases h
   ·cases h
  ·cases h
 case h_10 ho =>
  simp only[okB,ho]at hk;split at h
  ·rename_i e j k h1 h2 h3
   rw[h3]at hk;split at h
   ·rename_i e' sz rows h4 h5
    split at h
    ·cases h;simp only[zVz,h5,h2]at hk;exact zOo hk
    ·cases h
   ·cases h
  ·rename_i e j e2 k h1 h2 h3
   rw[h3]at hk;split at h
   ·rename_i e' sz rows h4 h5
    split at h
    ·cases h;simp only[zVz,h5,h2]at hk;intro e0;rw[e0]at hk;cases hk
    ·cases h
   ·cases h
  ·cases h
 case h_11 ho =>
  simp only[okB,ho]at hk;split at h
  ·rename_i e j k k' n h1 h2 h3
   rw[h2]at hk;split at h
   ·rename_i e' sz rows h4
    split at h
    ·cases h;simp only[lenV,h4,zNZ]at hk;obtain⟨h5,h6,h7⟩:=zK1 (a:=0) (b:=n) hk rfl (by rw[Option.map_some,h3]; rfl)
     exact⟨h6,h7⟩
    ·cases h
   ·cases h
  ·cases h
 case h_12 =>
  repeat' split at h
  all_goals cases h
 case h_13 ho =>
  simp only[okB,ho]at hk;split at h
  ·rename_i x' y t tx ha hts
   simp only[ha,hts]at hk;unfold zIB at h;split at h
   ·rename_i e j k e' sz rows sz' rows' h1 h2 h3
    simp only[h1]at hk;have l1:lenV σ (opd T σ.env t x')=rows.length:=by
     unfold zJF at h2;split at h2
     ·rename_i hx; cases h2; rw[hx]; rfl
     ·rename_i hx
      split at h2
      ·rename_i hh; cases h2; rw[hx]; simp only[lenV,hh,zNZ]
      ·cases h2
     ·cases h2
    have l2:lenV σ (opd T σ.env tx y)=rows'.length:=by
     unfold rowsOf at h3;split at h3
     ·rename_i hx; cases h3; rw[hx]; rfl
     ·rename_i hx; cases h3; rw[hx]; rfl
     ·rename_i hx
      split at h3
      ·rename_i hh; cases h3; rw[hx]; simp only[lenV,hh,zNZ]
      ·cases h3
     ·rename_i hx; cases h3; rw[hx]; simp only[lenV,length_map]
     ·cases h3
    rw[l1,l2]at hk;have hk:=zTd hk;split at h
    ·split at h
     ·cases h;have e0:rows=[]:=by
       unfold zJF at h2
       repeat' split at h2
       all_goals cases h2
       rfl
      rw[e0,length_nil,Nat.zero_add]at hk;exact hk
     ·split at h
      ·cases h; exact hk
      ·cases h
    ·cases h
   ·cases h
  ·cases h
 case h_14=>cases h
theorem zXU (h:zCQ T o σ=some (some φ,x,σ')) (hk:okB T o σ=true):φ:=by
 have rowsA_len:∀ {tx:Nat} {y:AV} {sz:Nat} {rows:List (List AV)},zLd T σ tx y=some (sz,rows)->lenV σ y=rows.length:=fun {tx y sz rows} h3=>by
  unfold zLd at h3;split at h3
  ·cases h3; rfl
  ·cases h3; simp only[lenV,length_map]
  ·split at h3
   ·rename_i hh; cases h3; simp only[lenV,hh,zNZ,length_map]
   ·rename_i hh; cases h3; simp only[lenV,hh,zNZ]
   ·cases h3
  ·cases h3
 have baseA_len:∀ {y:AV} {k e sz:Nat} {rows:List (List AV)},zKL σ y=some (k,e,sz,rows)->lenV σ y=rows.length:=fun {y k e sz rows} h3=>by
  unfold zKL at h3;split at h3
  ·split at h3
   ·rename_i hh; cases h3; simp only[lenV,hh,zNZ]
   ·cases h3
  ·cases h3
 unfold zCQ at h;split at h
 case h_1 =>
  repeat' split at h
  all_goals cases h
 case h_2 ho =>
  simp only[okB,ho]at hk;split at h
  ·rename_i k sz j off i h1 h2
   rw[h1]at hk;dsimp only at hk;split at h
   ·rename_i e sz' rows h3
    rw[h3]at hk;split at h
    ·cases h;exact Nat.le_of_ble_eq_true hk
    ·cases h
   ·cases h
  ·cases h
 case h_3 ho =>
  simp only[okB,ho]at hk;split at h
  ·rename_i e j k k' n h1 h2 h3
   split at h
   ·rename_i e' sz rows h4
    split at h
    ·cases h;have e1:tk T _ = .slice _:=zYO h1;rw[h2,h3]at hk;simp only[zJa,e1,lenV,h4,zNZ]at hk;exact zGD hk
    ·cases h
   ·cases h
  ·cases h
 case h_4 ho =>
  simp only[okB,ho]at hk;split at h
  ·rename_i e j k k' n h1 h2 h3
   rw[h2]at hk;split at h
   ·rename_i e' sz rows h4
    split at h
    ·cases h;simp only[lenV,h4,zNZ]at hk;obtain⟨h5,h6,h7⟩:=zK1 (a:=0) (b:=n) hk rfl (by rw[Option.map_some,h3]; rfl)
     exact⟨h6,h7⟩
    ·cases h
   ·cases h
  ·cases h
 case h_5 =>
  repeat' split at h
  all_goals cases h
 case h_6 ho =>
  simp only[okB,ho]at hk;split at h
  ·rename_i x' y t tx ha hts
   simp only[ha,hts]at hk;split at h
   ·rename_i e j k e' sz rows sz' rows' h1 h2 h3
    simp only[h1]at hk;rw[baseA_len h2,rowsA_len h3]at hk;split at h
    ·cases h; exact zTd hk
    ·cases h
   ·cases h
  ·cases h
 case h_7 ho =>
  simp only[okB,ho]at hk;split at h
  ·rename_i x' y t tx ha hts
   simp only[ha,hts]at hk;split at h
   ·rename_i e j k e' sz rows sz' rows' h1 h2 h3
    rw[baseA_len h2,rowsA_len h3]at hk;split at h
    ·cases h; exact Nat.eq_of_beq_eq_true hk
    ·cases h
   ·cases h
  ·cases h
 case h_8=>cases h
theorem zVS {φ:Option Prop} (h:step1 T own o σ=some (φ,x,σ')) (hk:okB T o σ=true):φ.getD True:=by
 cases φ with
 | none=>exact trivial
 | some p =>
  unfold step1 at h;split at h
  ·rename_i hp; cases h; exact zVG hp hk
  ·unfold zBQ at h;split at h
   ·rename_i hl; cases h; cases(zNS hl).1
   split at h
   ·rename_i hl; cases h; exact zZu hl hk
   ·exact zXU h hk
end
mutual
def S.eqb:S->S->Bool
 | .int k n,y=>(match y with | .int k' n'=>kEq k k'&&decide (n=n') | _=>false)
 | .bool a,y=>(match y with | .bool b=>a == b | _=>false)
 | .str a,y=>(match y with | .str b=>a == b | _=>false)
 | .sl z r,y=>(match y with | .sl z' r'=>Nat.beq z z'&&S.eqbss r r' | _=>false)
 | .np,y=>(match y with | .np=>true | _=>false)
 | .pt r,y=>(match y with | .pt r'=>S.eqbs r r' | _=>false)
 | .fn f,y=>(match y with | .fn f'=>Nat.beq f f' | _=>false)
 | .nf,y=>(match y with | .nf=>true | _=>false)
 | .nm,y=>(match y with | .nm=>true | _=>false)
def S.eqbs:List S->List S->Bool
 | [],y=>(match y with | []=>true | _=>false)
 | a::r,y=>(match y with | b::r'=>S.eqb a b&&S.eqbs r r' | _=>false)
def S.eqbss:List (List S)->List (List S)->Bool
 | [],y=>(match y with | []=>true | _=>false)
 | a::r,y=>(match y with | b::r'=>S.eqbs a b&&S.eqbss r r' | _=>false)
end
mutual
theorem S.eqb_eq:∀ (a:S){b:S},S.eqb a b=true->a=b
 | .int k n,b,h=>by
  cases b <;> simp only[S.eqb,Bool.and_eq_true,decide_eq_true_eq,reduceCtorEq]at h
  rw[zMo h.1,h.2]
 | .bool a,b,h=>by
  cases b <;> simp only[S.eqb,beq_iff_eq,reduceCtorEq]at h
  rw[h]
 | .str a,b,h=>by
  cases b <;> simp only[S.eqb,beq_iff_eq,reduceCtorEq]at h
  rw[h]
 | .sl z r,b,h=>by
  cases b <;> simp only[S.eqb,Bool.and_eq_true,reduceCtorEq]at h
  rw[Nat.eq_of_beq_eq_true h.1,S.eqbss_eq r h.2]
 | .np,b,h=>by cases b <;> simp only[S.eqb,reduceCtorEq]at h; rfl
 | .pt r,b,h=>by
  cases b <;> simp only[S.eqb,reduceCtorEq]at h
  rw[S.eqbs_eq r h]
 | .fn f,b,h=>by
  cases b <;> simp only[S.eqb,reduceCtorEq]at h
  rw[Nat.eq_of_beq_eq_true h]
 | .nf,b,h=>by cases b <;> simp only[S.eqb,reduceCtorEq]at h; rfl
 | .nm,b,h=>by cases b <;> simp only[S.eqb,reduceCtorEq]at h; rfl
theorem S.eqbs_eq:∀ (a:List S){b:List S},S.eqbs a b=true->a=b
 | [],b,h=>by cases b <;> simp only[S.eqbs,reduceCtorEq]at h; rfl
 | a::r,b,h=>by
  cases b <;> simp only[S.eqbs,Bool.and_eq_true,reduceCtorEq]at h
  rw[S.eqb_eq a h.1,S.eqbs_eq r h.2]
theorem S.eqbss_eq:∀ (a:List (List S)){b:List (List S)},S.eqbss a b=true->a=b
 | [],b,h=>by cases b <;> simp only[S.eqbss,reduceCtorEq]at h; rfl
 | a::r,b,h=>by
  cases b <;> simp only[S.eqbss,Bool.and_eq_true,reduceCtorEq]at h
  rw[S.eqbs_eq a h.1,S.eqbss_eq r h.2]
end
mutual
def AV.eqb:AV->AV->Bool
 | .s a,y=>(match y with | .s b=>S.eqb a b | _=>false)
 | .nl z,y=>(match y with | .nl z'=>Nat.beq z z' | _=>false)
 | .agg r,y=>(match y with | .agg r'=>AV.eqbs r r' | _=>false)
 | .tup r,y=>(match y with | .tup r'=>AV.eqbs r r' | _=>false)
 | .op k o,y=>(match y with | .op k' o'=>Nat.beq k k'&&Nat.beq o o' | _=>false)
 | .orow k,y=>(match y with | .orow k'=>Nat.beq k k' | _=>false)
 | .rp _ _ _ _,y=>false
 | .mref k,y=>(match y with | .mref k'=>Nat.beq k k' | _=>false)
 | .clo f r,y=>(match y with | .clo f' r'=>Nat.beq f f'&&AV.eqbs r r' | _=>false)
 | .junk,y=>(match y with | .junk=>true | _=>false)
def AV.eqbs:List AV->List AV->Bool
 | [],y=>(match y with | []=>true | _=>false)
 | a::r,y=>(match y with | b::r'=>AV.eqb a b&&AV.eqbs r r' | _=>false)
end
mutual
theorem AV.eqb_eq:∀ (a:AV){b:AV},AV.eqb a b=true->a=b
 | .s a,b,h=>by
  cases b <;> simp only[AV.eqb,reduceCtorEq]at h
  rw[S.eqb_eq a h]
 | .nl z,b,h=>by
  cases b <;> simp only[AV.eqb,reduceCtorEq]at h
  rw[Nat.eq_of_beq_eq_true h]
 | .agg r,b,h=>by
  cases b <;> simp only[AV.eqb,reduceCtorEq]at h
  rw[AV.eqbs_eq r h]
 | .tup r,b,h=>by
  cases b <;> simp only[AV.eqb,reduceCtorEq]at h
  rw[AV.eqbs_eq r h]
 | .op k o,b,h=>by
  cases b <;> simp only[AV.eqb,Bool.and_eq_true,reduceCtorEq]at h
  rw[Nat.eq_of_beq_eq_true h.1,Nat.eq_of_beq_eq_true h.2]
 | .orow k,b,h=>by
  cases b <;> simp only[AV.eqb,reduceCtorEq]at h
  rw[Nat.eq_of_beq_eq_true h]
 | .rp _ _ _ _,b,h=>by simp only[AV.eqb,reduceCtorEq]at h
 | .mref k,b,h=>by
  cases b <;> simp only[AV.eqb,reduceCtorEq]at h
  rw[Nat.eq_of_beq_eq_true h]
 | .clo f r,b,h=>by
  cases b <;> simp only[AV.eqb,Bool.and_eq_true,reduceCtorEq]at h
  rw[Nat.eq_of_beq_eq_true h.1,AV.eqbs_eq r h.2]
 | .junk,b,h=>by cases b <;> simp only[AV.eqb,reduceCtorEq]at h; rfl
theorem AV.eqbs_eq:∀ (a:List AV){b:List AV},AV.eqbs a b=true->a=b
 | [],b,h=>by cases b <;> simp only[AV.eqbs,reduceCtorEq]at h; rfl
 | a::r,b,h=>by
  cases b <;> simp only[AV.eqbs,Bool.and_eq_true,reduceCtorEq]at h
  rw[AV.eqb_eq a h.1,AV.eqbs_eq r h.2]
end
def AV.eqbss:List (List AV)->List (List AV)->Bool
 | [],y=>(match y with | []=>true | _=>false)
 | a::r,y=>(match y with | b::r'=>AV.eqbs a b&&AV.eqbss r r' | _=>false)
theorem AV.eqbss_eq:∀ (a:List (List AV)){b:List (List AV)},AV.eqbss a b=true->a=b
 | [],b,h=>by cases b <;> simp only[AV.eqbss,reduceCtorEq]at h; rfl
 | a::r,b,h=>by
  cases b <;> simp only[AV.eqbss,Bool.and_eq_true,reduceCtorEq]at h
  rw[AV.eqbs_eq a h.1,AV.eqbss_eq r h.2]
def Ob.eqb:Ob->Ob->Bool
 | .box t x,.box t' y=>Nat.beq t t'&&AV.eqbs x y
 | .row e s x,.row e' s' y=>Nat.beq e e'&&Nat.beq s s'&&S.eqbss x y
 | .arow e s x,.arow e' s' y=>Nat.beq e e'&&Nat.beq s s'&&AV.eqbss x y
 | _,_=>false
theorem Ob.eqb_eq:∀ {a b:Ob},Ob.eqb a b=true->a=b:=fun {a b} h=>by
 unfold Ob.eqb at h;split at h
 ·simp only[Bool.and_eq_true]at h;rw[Nat.eq_of_beq_eq_true h.1,AV.eqbs_eq _ h.2]
 ·simp only[Bool.and_eq_true]at h;rw[Nat.eq_of_beq_eq_true h.1.1,Nat.eq_of_beq_eq_true h.1.2,S.eqbss_eq _ h.2]
 ·simp only[Bool.and_eq_true]at h;rw[Nat.eq_of_beq_eq_true h.1.1,Nat.eq_of_beq_eq_true h.1.2,AV.eqbss_eq _ h.2]
 ·cases h
def zZY (hp:Nat->Option Ob):List (Nat×Option Ob)->Bool
 | []=>true
 | (j,o)::r=>(match hp j,o with | some a,some b=>Ob.eqb a b | _,_=>false)&&zZY hp r
theorem zVM {hp:Nat->Option Ob}:∀ {l:List (Nat×Option Ob)},zZY hp l=true->∀ k,lookO l hp k=hp k
 | [],_,k=>rfl
 | (j,o)::r,h,k=>by
  simp only[zZY,Bool.and_eq_true]at h;simp only[lookO]
  cases e:Nat.beq k j with
  | false=>exact zVM h.2 k
  | true =>
   obtain rfl:=Nat.eq_of_beq_eq_true e;have h1:=h.1;rw[cond_true]
   split at h1
   ·rename_i a b e1
    rw[e1,Ob.eqb_eq h1]
   ·cases h1
def zP1:List (AV×List (Option Ob))->Option (AV×List (Option Ob))
 | []=>none
 | [p]=>some p
 | (x,[])::r=>match zP1 r with
  | some (y,[])=>match AV.eqb x y with | true=>some (x,[]) | false=>none
  | _=>none
 | _=>none
theorem zLP:∀ {l:List (AV×List (Option Ob))}{p:AV×List (Option Ob)},zP1 l=some p->∀ q∈l,q=p
 | [],p,h,q,hq=>by cases hq
 | [a],p,h,q,hq=>by
  simp only[zP1,Option.some.injEq]at h;subst h
  simpa using hq
 | (x,[])::b::r,p,h,q,hq=>by
  simp only[zP1]at h;split at h
  ·rename_i y hy
   split at h
   ·rename_i he
    cases h;have e:=AV.eqb_eq x he;subst e;rcases List.mem_cons.1 hq with rfl | hq
    ·rfl
    ·exact zLP hy q hq
   ·cases h
  ·cases h
 | (x,a::u)::b::r,p,h,q,hq=>by simp only[zP1,reduceCtorEq]at h
section
variable {β:Type}
def fN (n:Nat) (K:Nat->β):β:=match n with | 0=>K 0 | m+1=>K (m+1)
theorem zFc (n:Nat) (K:Nat->β):fN n K=K n:=by cases n <;> rfl
def fI (n:Int) (K:Int->β):β:=match n with | .ofNat m=>fN m fun m=>K (.ofNat m) | .negSucc m=>fN m fun m=>K (.negSucc m)
theorem yCi (n:Int) (K:Int->β):fI n K=K n:=by cases n <;> simp only[fI,zFc]
def fY (b:UInt8) (K:UInt8->β):β:=fN b.toNat fun n=>K (UInt8.ofNat n)
theorem yBQ (b:UInt8) (K:UInt8->β):fY b K=K b:=by simp only[fY,zFc,UInt8.ofNat_toNat]
def fT (b:Bool) (K:Bool->β):β:=match b with | true=>K true | false=>K false
theorem yCk (b:Bool) (K:Bool->β):fT b K=K b:=by cases b <;> rfl
def fL {α:Type} (f:α->(α->β)->β):List α->(List α->β)->β
 | [],K=>K []
 | x::xs,K=>f x fun y=>fL f xs fun ys=>K (y::ys)
theorem zIx {α:Type}{f:α->(α->β)->β} (hf:∀ x K,f x K=K x):∀ (l:List α) (K:List α->β),fL f l K=K l
 | [],K=>rfl
 | x::xs,K=>by simp only[fL,hf]; exact zIx hf xs _
mutual
def fS:S->(S->β)->β
 | .int k n,K=>fI n fun n=>K (.int k n)
 | .bool b,K=>fT b fun b=>K (.bool b)
 | .str l,K=>fL fY l fun l=>K (.str l)
 | .sl sz rows,K=>fSss rows fun rows=>K (.sl sz rows)
 | .np,K=>K .np
 | .pt row,K=>fSs row fun row=>K (.pt row)
 | .fn f,K=>fN f fun f=>K (.fn f)
 | .nf,K=>K .nf
 | .nm,K=>K .nm
def fSs:List S->(List S->β)->β
 | [],K=>K []
 | x::xs,K=>fS x fun y=>fSs xs fun ys=>K (y::ys)
def fSss:List (List S)->(List (List S)->β)->β
 | [],K=>K []
 | x::xs,K=>fSs x fun y=>fSss xs fun ys=>K (y::ys)
end
mutual
theorem yBP:∀ (x:S) (K:S->β),fS x K=K x
 | .int k n,K=>by simp only[fS,yCi]
 | .bool b,K=>by simp only[fS,yCk]
 | .str l,K=>by simp only[fS,zIx yBQ]
 | .sl sz rows,K=>by simp only[fS]; exact zQF rows _
 | .np,K=>by simp only[fS]
 | .pt row,K=>by simp only[fS]; exact zXK row _
 | .fn f,K=>by simp only[fS,zFc]
 | .nf,K=>by simp only[fS]
 | .nm,K=>by simp only[fS]
theorem zXK:∀ (x:List S) (K:List S->β),fSs x K=K x
 | [],K=>by simp only[fSs]
 | x::xs,K=>by
  simp only[fSs]
  rw[yBP x]
  exact zXK xs _
theorem zQF:∀ (x:List (List S)) (K:List (List S)->β),fSss x K=K x
 | [],K=>by simp only[fSss]
 | x::xs,K=>by
  simp only[fSss]
  rw[zXK x]
  exact zQF xs _
end
mutual
def fV:AV->(AV->β)->β
 | .s x,K=>fS x fun x=>K (.s x)
 | .nl sz,K=>K (.nl sz)
 | .agg xs,K=>fVs xs fun ys=>K (.agg ys)
 | .tup xs,K=>fVs xs fun ys=>K (.tup ys)
 | .op k o,K=>fN k fun k=>fN o fun o=>K (.op k o)
 | .orow k,K=>fN k fun k=>K (.orow k)
 | .rp k sz i o,K=>fN k fun k=>fN i fun i=>fN o fun o=>K (.rp k sz i o)
 | .mref k,K=>fN k fun k=>K (.mref k)
 | .clo f xs,K=>fN f fun f=>fVs xs fun ys=>K (.clo f ys)
 | .junk,K=>K .junk
def fVs:List AV->(List AV->β)->β
 | [],K=>K []
 | x::xs,K=>fV x fun y=>fVs xs fun ys=>K (y::ys)
end
mutual
theorem zWs:∀ (x:AV) (K:AV->β),fV x K=K x
 | .s x,K=>by simp only[fV,yBP]
 | .nl sz,K=>by simp only[fV]
 | .agg xs,K=>by simp only[fV]; exact zKR xs _
 | .tup xs,K=>by simp only[fV]; exact zKR xs _
 | .op k o,K=>by simp only[fV,zFc]
 | .orow k,K=>by simp only[fV,zFc]
 | .rp k sz i o,K=>by simp only[fV,zFc]
 | .mref k,K=>by simp only[fV,zFc]
 | .clo f xs,K=>by simp only[fV,zFc]; exact zKR xs _
 | .junk,K=>by simp only[fV]
theorem zKR:∀ (x:List AV) (K:List AV->β),fVs x K=K x
 | [],K=>by simp only[fVs]
 | x::xs,K=>by
  simp only[fVs]
  rw[zWs x]
  exact zKR xs _
end
def fTag:Tag->(Tag->β)->β
 | .map keys,K=>fL (fL fY) keys fun l=>K (.map l)
 | .iter a b c,K=>fN a fun a=>fL fN b fun b=>fN c fun c=>K (.iter a b c)
theorem yAX (x:Tag) (K:Tag->β):fTag x K=K x:=by
 cases x <;> simp only[fTag,zIx (zIx yBQ),zFc,zIx zFc]
def fO:Ob->(Ob->β)->β
 | .box t cs,K=>fVs cs fun l=>K (.box t l)
 | .row e sz rows,K=>fSss rows fun l=>K (.row e sz l)
 | .arow e sz rows,K=>fL fVs rows fun l=>K (.arow e sz l)
 | .any τ xs,K=>fTag τ fun τ=>fVs xs fun l=>K (.any τ l)
theorem zWr (x:Ob) (K:Ob->β):fO x K=K x:=by
 cases x <;> simp only[fO,zKR,zQF,zIx zKR,yAX]
def fOo:Option Ob->(Option Ob->β)->β
 | none,K=>K none
 | some o,K=>fO o fun o=>K (some o)
theorem yBN (x:Option Ob) (K:Option Ob->β):fOo x K=K x:=by cases x <;> simp only[fOo,zWr]
def fH (q:Option Nat) (σ:St) (K:St->β):β :=
 match q with
 | none=>K σ
 | some k=>match σ.hp k with
  | none=>K σ
  | some ob=>fO ob fun ob=>K ⟨σ.env,fun j=>bif Nat.beq j k then some ob else σ.hp j,σ.nx⟩
theorem yBM (q:Option Nat) (σ:St) (K:St->β):fH q σ K=K σ:=by
 unfold fH;split
 ·rfl
 ·rename_i k
  split
  ·rfl
  ·rename_i ob h
   rw[zWr]
   congr 1
   obtain⟨env,hp,nx⟩:=σ;simp only[St.mk.injEq,true_and,and_true]
   funext j
   cases e:Nat.beq j k with
   | true=>obtain rfl:=Nat.eq_of_beq_eq_true e; exact h.symm
   | false=>rfl
end
abbrev zHh:=Nat->List AV->List Ob->Option (AV×List (Option Ob))
def layP (ρ:List (Nat×Nat)) (f:Nat->Nat):Nat->List (Option Ob)->List (Nat×Option Ob)->List (Nat×Option Ob)
 | _,[],acc=>acc
 | i,o::os,acc=>layP ρ f (i+1) os ((f i,o.map (Ob.ren ρ))::acc)
theorem zXQ {ρ:List (Nat×Nat)}{f:Nat->Nat}:∀ {i:Nat}{os:List (Option Ob)}{acc:List (Nat×Option Ob)}{K:List (Nat×Option Ob)->Prop},layG ρ f i os acc K=K (layP ρ f i os acc)
 | _,[],acc,K=>rfl
 | i,o::os,acc,K=>by
  simp only[layG,layP]
  rw[zLx,yAq]
  exact zXQ
def layX {β:Type} (ρ:List (Nat×Nat)) (f:Nat->Nat):Nat->List (Option Ob)->List (Nat×Option Ob)->(List (Nat×Option Ob)->β)->β
 | _,[],acc,K=>K acc
 | i,o::os,acc,K=>fN (f i) fun j=>fOo (o.map (Ob.ren ρ)) fun o'=>layX ρ f (i+1) os ((j,o')::acc) K
theorem zVr {β:Type}{ρ:List (Nat×Nat)}{f:Nat->Nat}:∀ {i:Nat}{os:List (Option Ob)}{acc:List (Nat×Option Ob)}{K:List (Nat×Option Ob)->β},layX ρ f i os acc K=K (layP ρ f i os acc)
 | _,[],acc,K=>rfl
 | i,o::os,acc,K=>by
  simp only[layX,layP]
  rw[zFc,yBN]
  exact zVr
def zW5 (T:Nat->Option TI) (o:Oper) (σ:St):Option (AV×St) :=
 match o.op with
 | .load t x=>match opd T σ.env 0 x with
  | .rp k sz i off=>match σ.hp k with
   | some (.row _ sz' rows)=>match Nat.beq sz sz',Nat.blt i rows.length,zNR T t ((rows.getD i []).drop off) with
    | true,true,some y=>some (y,σ)
    | _,_,_=>none
   | some (.arow _ sz' rows)=>match Nat.beq sz sz',Nat.blt i rows.length,zOS T t ((rows.getD i []).drop off) with
    | true,true,some y=>some (y,σ)
    | _,_,_=>none
   | _=>none
  | _=>none
 | _=>none
def zYW (T:Nat->Option TI) (F:zHh) (o:Oper) (σ:St):Option (AV×St×Bool) :=
 match zBm T o σ.env with
 | none=>match zW5 T o σ with | some (x,σ')=>some (x,σ',false) | none=>none
 | some (g,xs)=>fL fN (zAp σ.hp 64 (AV.keysAll xs) []) fun ks=>fN σ.nx fun nx0 =>
  match distinct ks,zKZ σ.hp (zipI 0 ks) ks with
  | true,some os=>fVs (AV.renAll (zipI 0 ks) xs) fun xs'=>fL fO os fun os'=>match F g xs' os' with
   | some (x,r)=>layX (zEg ks nx0 0 r) (zES ks nx0) 0 r [] fun l=>fN (nx0+(r.length - ks.length)) fun nx'=>some (x.ren (zEg ks nx0 0 r),St.lay σ l nx',zZY σ.hp l)
   | none=>none
  | _,_=>none
def zLr {α β:Type}:List α->(α->Option (List β))->Option (List β)
 | [],_=>some []
 | a::r,f=>match f a with
  | none=>none
  | some l=>match zLr r f with
   | none=>none
   | some l'=>some (l++l')
theorem zDF {α β:Type}{f:α->Option (List β)}:∀ {l:List α}{L:List β},zLr l f=some L->∀ a∈l,∃ l',f a=some l'/\∀ y∈l',y∈L
 | [],L,h,a,ha=>by cases ha
 | b::r,L,h,a,ha=>by
  unfold zLr at h;split at h
  ·cases h
  ·rename_i l h1
   split at h
   ·cases h
   ·rename_i l' h2
    cases h;rcases List.mem_cons.1 ha with rfl | ha
    ·exact⟨l,h1,fun y hy=>List.mem_append.2 (.inl hy)⟩
    ·obtain⟨l2,h3,h4⟩:=zDF h2 a ha;exact⟨l2,h3,fun y hy=>List.mem_append.2 (.inr (h4 y hy))⟩
def nextL {α:Type} (f:Nat->List UInt8->AV->α) (seen:List Nat):Nat->List (List UInt8)->List AV->List α
 | i,s::ks,x::xs=>match inL i seen with
  | true=>nextL f seen (i+1) ks xs
  | false=>f i s x::nextL f seen (i+1) ks xs
 | _,_,_=>[]
theorem zS8 {α:Type}{f:Nat->List UInt8->AV->α}{seen:List Nat}{s:List UInt8}{x:AV}:∀ {i j:Nat}{ks:List (List UInt8)}{xs:List AV},ks[j]? = some s->xs[j]? = some x->i+j ∉ seen->f (i+j) s x∈nextL f seen i ks xs
 | i,j,[],xs,h,_,_=>by simp at h
 | i,j,k::ks,[],_,h,_=>by simp at h
 | i,0,k::ks,y::xs,h1,h2,h3=>by
  simp at h1 h2;subst h1;subst h2;unfold nextL;split
  ·rename_i e; exact absurd (zNP.1 e) h3
  ·exact mem_cons_self
 | i,j+1,k::ks,y::xs,h1,h2,h3=>by
  have:=zS8 (f:=f) (i:=i+1) (j:=j) (ks:=ks) (xs:=xs) (by simpa using h1) (by simpa using h2) (by rw[show i+1+j=i+(j+1) by omega]; exact h3)
  rw[show i+1+j=i+(j+1) by omega]at this;unfold nextL;split
  ·exact this
  ·exact mem_cons_of_mem _ this
variable {α:Type}
theorem zWD {f:Nat->List UInt8->AV->α}{seen:List Nat}{s:List UInt8}{x:AV}{j:Nat}{ks:List (List UInt8)}{xs:List AV} (h1:ks[j]? = some s) (h2:xs[j]? = some x) (h3:j ∉ seen):f j s x∈nextL f seen 0 ks xs:=by
 have:=zS8 (f:=f) (i:=0) h1 h2 (by rw[Nat.zero_add]; exact h3)
 rwa [Nat.zero_add]at this
def xMap (T:Nat->Option TI) (o:Oper) (σ:St):Option (List (AV×St)) :=
 match o.op with
 | .makeMap _ none=>some [(.mref σ.nx,zBi σ (.any (.map []) []))]
 | .insert t m k x=>match tk T t,opd T σ.env 0 m,opd T σ.env 0 k with
  | .mp kt e,.mref q,.s (.str s)=>match tk T kt,σ.hp q,(opd T σ.env e x).nrm.one with
   | .str,some (.any (.map keys) xs),true=>match zMJ s keys 0 with
    | none=>some [(.junk,zEe σ q (.any (.map (keys++[s])) (xs++[(opd T σ.env e x).nrm])))]
    | some _=>none
   | _,_,_=>none
  | _,_,_=>none
 | .range t m=>match tk T t,opd T σ.env 0 m with
  | .mp _ _,.mref q=>match σ.hp q with
   | some (.any (.map keys) _)=>some [(.op σ.nx 0,zBi σ (.any (.iter keys.length [] keys.length) [.mref q]))]
   | _=>none
  | _,_=>none
 | .next it false=>match opd T σ.env 0 it with
  | .op q 0=>match σ.hp q with
   | some (.any (.iter since seen c) [.mref k])=>match σ.hp k with
    | some (.any (.map keys) xs)=>match Nat.beq keys.length since,Nat.ble since c with
     | true,true=>some ((match (List.range keys.length).all (fun i=>inL i seen) with | true=>[(.tup [.s (.bool false)],σ)] | false=>[]) ++
       nextL (fun i s x=>(.tup [.s (.bool true),.s (.str s),x],zEe σ q (.any (.iter since (seen++[i]) keys.length) [.mref k]))) seen 0 keys xs)
     | _,_=>none
    | _=>none
   | _=>none
  | _=>none
 | .entry it=>match opd T σ.env 0 it with
  | .op q 0=>match σ.hp q with
   | some (.any (.iter since seen c) [.mref k])=>match σ.hp k,seen.getLast? with
    | some (.any (.map keys) xs),some i=>match Nat.beq c keys.length,keys[i]?,xs[i]? with
     | true,some s,some x=>some [(.tup [.s (.str s),x],σ)]
     | _,_,_=>none
    | _,_=>none
   | _=>none
  | _=>none
 | _=>none
theorem zW6 {T:Nat->Option TI}{o:Oper}{σ:St}{L:List (AV×St)} (h:xMap T o σ=some L):∃ Φ,mapQ T o σ=some Φ/\∀ K:AV->St->Prop,(∀ p∈L,K p.1 p.2)->Φ K:=by
 unfold xMap at h;unfold mapQ;split at h
 ·rename_i ho; cases h; try simp only[ho]
  exact⟨_,rfl,fun K hk=>hk _ mem_cons_self⟩
 ·rename_i ho
  try simp only[ho]
  split at h
  ·rename_i h1 h2 h3
   try simp only[h1,h2,h3]
   split at h
   ·rename_i h4 h5 h6
    try simp only[h4,h5,h6]
    split at h
    ·rename_i h7; cases h; exact⟨_,rfl,fun K hk=>⟨h7,hk _ mem_cons_self⟩⟩
    ·cases h
   ·cases h
  ·cases h
 ·rename_i ho
  try simp only[ho]
  split at h
  ·rename_i h1 h2
   try simp only[h1,h2]
   split at h
   ·rename_i h4
    try simp only[h4]
    cases h; exact⟨_,rfl,fun K hk=>hk _ mem_cons_self⟩
   ·cases h
  ·cases h
 ·rename_i ho
  try simp only[ho]
  split at h
  ·rename_i h1
   try simp only[h1]
   split at h
   ·rename_i h2
    try simp only[h2]
    split at h
    ·rename_i h3
     try simp only[h3]
     split at h
     ·rename_i h4 h5
      cases h;refine⟨_,rfl,fun K hk=>⟨⟨Nat.eq_of_beq_eq_true h4,Nat.le_of_ble_eq_true h5⟩,fun i s x hi hx hn=>?_,fun hall=>?_⟩⟩
      ·exact hk _ (List.mem_append.2 (.inr (zWD hi hx hn)))
      ·refine hk (_,_) (List.mem_append.2 (.inl ?_))
       rw[List.all_eq_true.2 fun i hi=>zNP.2 (hall i (by simpa using hi))]
       exact mem_cons_self
     ·cases h
    ·cases h
   ·cases h
  ·cases h
 ·rename_i ho
  try simp only[ho]
  split at h
  ·rename_i h1
   try simp only[h1]
   split at h
   ·rename_i h2
    try simp only[h2]
    split at h
    ·rename_i h3 h4
     try simp only[h3,h4]
     split at h
     ·rename_i h5 h6 h7
      try simp only[h5,h6,h7]
      cases h; exact⟨_,rfl,fun K hk=>hk _ mem_cons_self⟩
     ·cases h
    ·cases h
   ·cases h
  ·cases h
 ·cases h
def touch (T:Nat->Option TI) (o:Oper) (σ:St) (x:AV):Option Nat :=
 match x with
 | .orow k=>some k
 | _=>match o.op with
  | .store _ y _=>match opd T σ.env 0 y with
   | .rp k _ _ _=>some k
   | _=>none
  | .insert _ m _ _=>match opd T σ.env 0 m with
   | .mref k=>some k
   | _=>none
  | _=>none
def zYX (T:Nat->Option TI) (F:zHh) (o:Oper) (σ:St):Option (AV×St) :=
 match zF5 T o σ.env with
 | none=>none
 | some (g,xs)=>fL fN (zAp σ.hp 64 (AV.keysAll xs) []) fun ks=>fN σ.nx fun nx0 =>
  match distinct ks,zKZ σ.hp (zipI 0 ks) ks with
  | true,some os=>fVs (AV.renAll (zipI 0 ks) xs) fun xs'=>fL fO os fun os'=>match F g xs' os' with
   | some (x,r)=>layX (zEg ks nx0 0 r) (zES ks nx0) 0 r [] fun l=>fN (nx0+(r.length - ks.length)) fun nx'=>some (x.ren (zEg ks nx0 0 r),St.lay σ l nx')
   | none=>none
  | _,_=>none
def oneL:Option α->Option (List α)
 | some a=>some [a]
 | none=>none
def xRun (T:Nat->Option TI) (F:zHh) (own nmd:Bool) (o:Oper) (σ:St):Option (List (AV×St)) :=
 match zIA T nmd o σ with
 | some x=>some [(x,σ)]
 | none=>match zF5 T o σ.env with
 | some _=>oneL (zYX T F o σ)
 | none=>match step1 T own o σ with
  | some (_,x,σ')=>match okB T o σ with | true=>some [(x,σ')] | false=>none
  | none=>match zMh T o σ with
   | some x=>some [(x,σ)]
   | none=>match nilQ T o σ with
    | some (_::_)=>some [(.s (.bool false),σ)]
    | some []=>none
    | none=>match xMap T o σ with
     | some r=>some r
     | none=>oneL (zW5 T o σ)
def putO (σ:St) (d:Option Nat) (x:AV):St:=match d with | none=>σ | some d=>σ.putN d x
def xOps (T:Nat->Option TI) (F:zHh) (M nm:List Nat) (N:Nat) (all:List Oper):List Oper->St->Option (List St)
 | [],σ=>some [σ]
 | o::os,σ=>match (match o.dst with | some t=>Nat.blt t N | none=>true),gate all o σ.env with
  | true,some true=>match xRun T F (dIn o.dst M) (dIn o.dst nm) o σ with
   | some L=>zLr L fun p=>fV p.1 fun y=>fH (touch T o σ y) p.2 fun σ2=>xOps T F M nm N all os (putO σ2 o.dst y)
   | none=>none
  | true,some false=>xOps T F M nm N all os (putO σ o.dst (.tup []))
  | _,_=>none
def zBl (R:List AV->List Ob->AV->List (Option Ob)->Prop):zAr:=⟨fun _ _=>False,some R,none,none,true⟩
def Tells (Γ:Nat->Option zAr) (F:zHh):Prop :=
 (∀ g s,Γ g=some s->s=zBl fun xs os x os'=>F g xs os=some (x,os'))/\∀ g xs os r,F g xs os=some r->Γ g ≠ none
section
variable {T:Nat->Option TI} {Γ:Nat->Option zAr} {F:zHh} {o:Oper} {σ σ':St} {x:AV} {own:Bool}
theorem Tells.get (h:Tells Γ F){g:Nat}{xs:List AV}{os:List Ob}{r:AV×List (Option Ob)} (h1:F g xs os=some r):Γ g=some (zBl fun xs os x os'=>F g xs os=some (x,os')):=by
 cases e:Γ g with
 | none=>exact absurd e (h.2 g xs os r h1)
 | some s=>rw[h.1 g s e]
theorem Tells.callOf (h:Tells Γ F) (env:Nat->AV):callOf T Γ o env=none:=by
 unfold Go.Abs.callOf;split
 ·split
  ·split
   ·rename_i s hs
    rw[h.1 _ s hs]
    simp only[zBl]
   ·rfl
  ·rfl
 ·rfl
variable {K:AV->St->Prop}
theorem zOH (h:zW5 T o σ=some (x,σ')) (hK:K x σ'):zHd T o σ K:=by
 unfold zW5 at h;unfold zHd;split at h
 ·rename_i ho
  simp only[ho]
  split at h
  ·rename_i h1
   simp only[h1]
   split at h
   ·rename_i h2
    simp only[h2]
    split at h
    ·rename_i h3 h4 h5
     cases h;simp only[h3]
     exact⟨Nat.le_of_ble_eq_true h4,_,rfl,by simp only[h5]; exact hK⟩
    ·cases h
   ·rename_i h2
    simp only[h2]
    split at h
    ·rename_i h3 h4 h5
     cases h;simp only[h3]
     exact⟨Nat.le_of_ble_eq_true h4,_,rfl,by simp only[h5]; exact hK⟩
    ·cases h
   ·cases h
  ·cases h
 ·cases h
theorem zOG (ht:Tells Γ F){b:Bool} (h:zYW T F o σ=some (x,σ',b)) (hK:K x σ'):zNA T Γ own o σ K:=by
 unfold zYW at h;unfold zNA;split at h
 ·rename_i h1
  simp only[h1]
  split at h
  ·rename_i h2; cases h; exact zOH h2 hK
  ·cases h
 ·rename_i g xs h1
  simp only[h1]
  rw[zIx zFc,zFc]at h;split at h
  ·rename_i os h2 h3
   rw[zKR,zIx zWr]at h;split at h
   ·rename_i y r h4
    rw[zVr,zFc]at h;cases h;rw[ht.get h4]
    simp only[zBl,zFO,zQW,zLx,h2,h3]
    refine⟨y,r,h4,?_⟩
    rw[zXQ]
    exact hK
   ·cases h
  ·cases h
theorem yAc (h:zYW T F o σ=some (x,σ',true)):(∀ k,σ'.hp k=σ.hp k)/\cOp o=true:=by
 unfold zYW at h;split at h
 ·split at h
  ·cases h
  ·cases h
 ·rename_i g xs h1
  rw[zIx zFc,zFc]at h;split at h
  ·rw[zKR,zIx zWr]at h;split at h
   ·rename_i y r h4
    rw[zVr,zFc]at h;have h5:=(Prod.mk.inj (Prod.mk.inj (Option.some.inj h)).2).2;have h6:=(Prod.mk.inj (Prod.mk.inj (Option.some.inj h)).2).1;subst h6;refine⟨zVM h5,?_⟩
    unfold zBm at h1;split at h1
    ·rename_i ho; unfold cOp; rw[ho]
    ·cases h1
   ·cases h
  ·cases h
theorem zTS (ht:Tells Γ F) (h:zYX T F o σ=some (x,σ')):∃ Φ,zLt T Γ o σ=some Φ/\∀ K:AV->St->Prop,K x σ'->Φ K:=by
 unfold zYX at h;unfold zLt;split at h
 ·cases h
 ·rename_i g xs h1
  rw[zIx zFc,zFc]at h;split at h
  ·rename_i os h2 h3
   rw[zKR,zIx zWr]at h;split at h
   ·rename_i y r h4
    rw[zVr,zFc]at h;cases h;simp only[h1,ht.get h4]
    simp only[zBl,h2,h3]
    refine⟨_,rfl,fun K hK=>⟨y,r,h4,?_⟩⟩
    have:handed σ (zAp σ.hp 64 (AV.keysAll xs) []) r=St.lay σ (layP (zEg (zAp σ.hp 64 (AV.keysAll xs) []) σ.nx 0 r) (zES (zAp σ.hp 64 (AV.keysAll xs) []) σ.nx) 0 r []) (σ.nx+(r.length - (zAp σ.hp 64 (AV.keysAll xs) []).length)):=by
     have:=zUs (hp:=σ.hp) (ρ:=zEg (zAp σ.hp 64 (AV.keysAll xs) []) σ.nx 0 r) (f:=zES (zAp σ.hp 64 (AV.keysAll xs) []) σ.nx) 0 r [] (fun hp=>hp=lookO (layP (zEg (zAp σ.hp 64 (AV.keysAll xs) []) σ.nx 0 r) (zES (zAp σ.hp 64 (AV.keysAll xs) []) σ.nx) 0 r []) σ.hp)
     rw[zXQ]at this;have h9:=this.mp rfl;simp only[handed,St.lay,St.mk.injEq,true_and,and_true]
     exact h9
    rw[this]
    exact hK
   ·cases h
  ·cases h
theorem zWj (h:zF5 T o σ.env=none):zLt T Γ o σ=none:=by
 unfold zLt;rw[h]
theorem zTz (h:zF5 T o σ.env=none):zBm T o σ.env=none:=by
 unfold zF5 at h;unfold zBm;split at h
 ·rename_i ho
  split at h
  ·cases h
  ·split at h <;> cases h
  ·first | rfl | (split <;> first | rfl | simp_all)
 ·first | rfl | (split <;> first | rfl | simp_all)
theorem zXY (h:zW5 T o σ=some (x,σ')):mapQ T o σ=none:=by
 unfold zW5 at h;split at h
 ·rename_i ho
  unfold mapQ;simp only[ho]
 ·cases h
theorem zZw {x:AV}{K:AV->Prop} (h:K x):named x K:=by
 unfold named;split
 ·intro b hb; rw[hb]; exact h
 ·intro b hb; rw[hb]; exact h
 ·intro b hb; rw[hb]; exact h
 ·intro b hb; rw[hb]; exact h
 ·intro b hb; rw[hb]; exact h
 ·rw[zHp]; exact h
theorem zQL {nm:Bool}{d:Option Nat}{K:St->Prop} (h:K (putO σ d x)):lay nm d x σ K:=by
 unfold lay;unfold putO at h;split
 ·exact h
 ·split
  ·exact zZw h
  ·rw[zHp]; exact h
theorem zHF (ht:Tells Γ F){M nm:List Nat}{N:Nat}{all:List Oper}{K:St->Prop}:∀ {os:List Oper}{σ:St}{L:List St},xOps T F M nm N all os σ=some L->(∀ τ∈L,K τ)->zBF T Γ M nm N all os σ K
 | [],σ,L,h,hk=>by cases h; exact hk _ mem_cons_self
 | o::os,σ,L,h,hk=>by
  unfold xOps at h;unfold zBF;have hrun:∀ {J:List (AV×St)},xRun T F (dIn o.dst M) (dIn o.dst nm) o σ=some J->(∀ p∈J,∃ l',xOps T F M nm N all os (putO p.2 o.dst p.1)=some l'/\∀ y∈l',y∈L)->(match zIA T (dIn o.dst nm) o σ with
    | some x=>lay false o.dst x σ fun σ''=>zBF T Γ M nm N all os σ'' K
    | none=>match zLt T Γ o σ with
    | some Φ=>Φ fun x σ'=>lay (dIn o.dst nm) o.dst x σ' fun σ''=>zBF T Γ M nm N all os σ'' K
    | none=>match callOf T Γ o σ.env with
    | some (_,s,xs)=>∃ r,s.spec xs r/\match zBz (dIn o.dst M) σ r with
     | none=>False
     | some (x,σ')=>lay (dIn o.dst nm) o.dst x σ' fun σ''=>zBF T Γ M nm N all os σ'' K
    | none=>match step1 T (dIn o.dst M) o σ with
     | none=>match zMh T o σ with
      | some x=>lay (dIn o.dst nm) o.dst x σ fun σ''=>zBF T Γ M nm N all os σ'' K
      | none=>match nilQ T o σ with
      | some rows=>∀ b:Bool,(b=true->rows=[])->lay (dIn o.dst nm) o.dst (.s (.bool b)) σ fun σ''=>zBF T Γ M nm N all os σ'' K
      | none=>match mapQ T o σ with
       | some Φ=>Φ fun x σ'=>lay (dIn o.dst nm) o.dst x σ' fun σ''=>zBF T Γ M nm N all os σ'' K
       | none=>zNA T Γ (dIn o.dst M) o σ fun x σ'=>lay (dIn o.dst nm) o.dst x σ' fun σ''=>zBF T Γ M nm N all os σ'' K
     | some (φ,x,σ')=>andO φ (lay (dIn o.dst nm) o.dst x σ' fun σ''=>zBF T Γ M nm N all os σ'' K)):=fun {J} hr hn=>by
   have hl:∀ p∈J,∀ nmd,lay nmd o.dst p.1 p.2 fun σ''=>zBF T Γ M nm N all os σ'' K:=fun p hp nmd=>by
    obtain⟨l',h1,h2⟩:=hn p hp;exact zQL (zHF ht h1 fun τ hτ=>hk τ (h2 τ hτ))
   unfold xRun at hr;split at hr
   ·cases hr; exact hl _ mem_cons_self _
   ·rename_i h1
    try simp only[h1]
    split at hr
    ·unfold oneL at hr;split at hr
     ·rename_i q hq
      cases hr;obtain⟨Φ,h8,h9⟩:=zTS ht hq;rw[h8]
      exact h9 _ (hl _ mem_cons_self _)
     ·cases hr
    rename_i hraw
    rw[zWj hraw]
    dsimp only;rw[ht.callOf]
    dsimp only;split at hr
    ·rename_i φ x1 σ1' h2
     split at hr
     ·rename_i h3
      cases hr;simp only[h2]
      have:=zVS h2 h3;cases φ with
      | none=>exact hl _ mem_cons_self _
      | some p=>exact⟨this,hl _ mem_cons_self _⟩
     ·cases hr
    ·rename_i h2
     simp only[h2]
     split at hr
     ·cases hr; exact hl _ mem_cons_self _
     ·rename_i h3
      try dsimp only
      split at hr
      ·rename_i h4
       cases hr;simp only[h4]
       intro b hb;cases b with
       | true=>exact absurd (hb rfl) (by simp)
       | false=>exact hl _ mem_cons_self _
      ·cases hr
      ·rename_i h4
       simp only[h4]
       split at hr
       ·rename_i r h5
        cases hr;obtain⟨Φ,h6,h7⟩:=zW6 h5;simp only[h6]
        exact h7 _ fun p hp=>hl p hp _
       ·unfold oneL at hr;split at hr
        ·rename_i q hq
         cases hr;simp only[zXY hq]
         unfold zNA;rw[zTz hraw]
         exact zOH hq (hl _ mem_cons_self _)
        ·cases hr
  have hdst:∀ (p:Prop),p->(match (match o.dst with | some t=>Nat.blt t N | none=>true) with | false=>False | true=>p)∨(match o.dst with | some t=>Nat.blt t N | none=>true)=false:=fun p hp=>by
   cases(match o.dst with | some t=>Nat.blt t N | none=>true) with
   | true=>exact .inl hp
   | false=>exact .inr rfl
  split at h
  ·rename_i hd hg
   split at h
   ·rename_i J hr
    have:=hrun hr fun p hp=>by
     obtain⟨l',h1,h2⟩:=zDF h p hp;rw[zWs,yBM]at h1;exact⟨l',h1,h2⟩
    refine(hdst _ ?_).resolve_right fun e=>absurd (hd.symm.trans e) (by simp)
    dsimp only;unfold gate at hg;split at hg
    ·rename_i e; rw[e]; exact this
    ·rename_i j want e
     rw[e]
     dsimp only;split at hg
     ·rename_i g e1
      rw[e1]
      dsimp only;split at hg
      ·rename_i b e2
       rw[e2]
       cases b <;> cases want <;> first | exact this | cases hg
      ·cases hg
      ·cases hg
     ·cases hg
   ·cases h
  ·rename_i hd hg
   have hs:lay false o.dst (.tup []) σ fun σ''=>zBF T Γ M nm N all os σ'' K:=zQL (zHF ht h hk)
   refine(hdst _ ?_).resolve_right fun e=>absurd (hd.symm.trans e) (by simp)
   dsimp only;unfold gate at hg;split at hg
   ·cases hg
   ·rename_i j want e
    rw[e]
    dsimp only;split at hg
    ·rename_i g e1
     rw[e1]
     dsimp only;split at hg
     ·rename_i b e2
      rw[e2]
      cases b <;> cases want <;> first | exact hs | cases hg
     ·rename_i e2
      rw[e2]
      exact hs
     ·cases hg
    ·cases hg
  ·cases h
end
def makes (o:Oper):Bool :=
 match o.op with
 | .move x=>zA7 x
 | .assign x=>zA7 x
 | .box _ _=>true
 | .buildSlice _ _ _=>true
 | _=>false
def zXq:AV->Option Nat
 | .op k _=>some k
 | .orow k=>some k
 | .rp k _ _ _=>some k
 | .mref k=>some k
 | _=>none
def zZH (T:Nat->Option TI) (o:Oper) (env:Nat->AV):Option Nat :=
 match o.op with
 | .load _ x=>zXq (opd T env 0 x)
 | .indexAddr t x _=>zXq (opd T env t x)
 | .call { callee:=.builtin .len,args:=args,argTypes:=ts }=>match args.toList,ts.toList with
  | [x],[t]=>zXq (opd T env t x)
  | _,_=>none
 | _=>none
variable {k:Nat}{n:Nat->Bool}
theorem zNv {x:AV} (h:zXq x=some k) (hn:n k=true):zTq n x=true:=by
 cases x <;> simp only[zXq,Option.some.injEq,reduceCtorEq]at h <;> subst h <;> exact hn
variable {env:Nat->AV}{o:Oper}{T:Nat->Option TI}
theorem zYp  (h:zZH T o env=some k) (hn:n k=true):zEp T n o env=true:=by
 unfold zZH at h;unfold zEp;split at h
 ·rename_i ho; simp only[ho]; exact zNv h hn
 ·rename_i ho; simp only[ho]; exact zNv h hn
 ·rename_i ho
  simp only[ho]
  split at h
  ·rename_i h1 h2; simp only[h1,h2]; exact zNv h hn
  ·cases h
 ·cases h
def zZ0 (T:Nat->Option TI) (o:Oper) (env:Nat->AV):Option Nat :=
 match o.op with
 | .store _ x _=>match opd T env 0 x with
  | .op k _=>some k
  | .rp k _ _ _=>some k
  | _=>none
 | _=>none
theorem zYM  (h:zZ0 T o env=some k) (hn:n k=false):zEp T n o env=true:=by
 unfold zZ0 at h;unfold zEp;split at h
 ·rename_i ho
  simp only[ho]
  split at h
  ·rename_i e; cases h; rw[e]; simp only[zWC,hn]; rfl
  ·rename_i e; cases h; rw[e]; simp only[zWC,hn]; rfl
  ·cases h
 ·cases h
inductive Inf where
 | no
 | cl
 | rd (k:Nat)
 | st (k:Nat)
def yBV (T:Nat->Option TI) (o:Oper) (env:Nat->AV):Inf :=
 match zZH T o env with
 | some k=>.rd k
 | none=>match zZ0 T o env with
  | some k=>.st k
  | none=>.no
def dRun (T:Nat->Option TI) (F:zHh) (own:Bool) (o:Oper) (σ:St):Option (AV×St×Bool×Inf) :=
 match (match own&&makes o with | true=>none | false=>zB9 T (slO own o) o σ.env) with
 | some (_,x)=>match okB T o σ with | true=>some (x,σ,false,.no) | false=>none
 | none=>match step1 T own o σ with
  | some (_,x,σ')=>match okB T o σ with | true=>some (x,σ',true,yBV T o σ.env) | false=>none
  | none=>match zYW T F o σ with
   | some (x,σ',true)=>some (x,σ',true,.cl)
   | some (x,σ',false)=>some (x,σ',true,.no)
   | none=>none
def dOps (T:Nat->Option TI) (F:zHh) (M:List Nat) (all:List Oper):List Oper->St->Option (St×List (Bool×Inf))
 | [],σ=>some (σ,[])
 | o::os,σ=>match gate all o σ.env with
  | some true=>match dRun T F (dIn o.dst M) o σ with
   | some (x,σ',b)=>fV x fun y=>fH (touch T o σ x) σ' fun σ2=>match dOps T F M all os (putO σ2 o.dst y) with
    | some (σ3,l)=>some (σ3,b::l)
    | none=>none
   | none=>none
  | some false=>match dOps T F M all os (putO σ o.dst (.tup [])) with
   | some (σ3,l)=>some (σ3,(false,.no)::l)
   | none=>none
  | none=>none
def idxs:Nat->List Bool->List Nat
 | _,[]=>[]
 | k,true::r=>k::idxs (k+1) r
 | k,false::r=>idxs (k+1) r
theorem zUo:∀ {l:List Bool}{k j:Nat},j<k->inL j (idxs k l)=false
 | [],_,_,_=>rfl
 | true::r,k,j,h=>by
  simp only[idxs,inL,zUo (l:=r) (k:=k+1) (by omega:j<k+1),Bool.or_false]
  cases e:Nat.beq j k with
  | true=>have:=Nat.eq_of_beq_eq_true e; omega
  | false=>rfl
 | false::r,k,j,h=>zUo (l:=r) (k:=k+1) (by omega:j<k+1)
theorem zMU:∀ {l:List Bool}{k i:Nat}{b:Bool},l[i]? = some b->inL (k+i) (idxs k l)=b
 | [],_,_,_,h=>by simp at h
 | true::r,k,0,b,h=>by
  simp at h; subst h
  simp[idxs,inL]
 | false::r,k,0,b,h=>by
  simp at h; subst h
  exact zUo (l:=r) (k:=k+1) (by omega)
 | true::r,k,i+1,b,h=>by
  have:=zMU (l:=r) (k:=k+1) (i:=i) (b:=b) (by simpa using h)
  rw[show k+1+i=k+(i+1) by omega]at this;simp only[idxs,inL,this]
  cases e:Nat.beq (k+(i+1)) k with
  | true=>have:=Nat.eq_of_beq_eq_true e; omega
  | false=>rfl
 | false::r,k,i+1,b,h=>by
  have:=zMU (l:=r) (k:=k+1) (i:=i) (b:=b) (by simpa using h)
  rw[show k+1+i=k+(i+1) by omega]at this;exact this
section
variable {T:Nat->Option TI} {Γ:Nat->Option zAr} {F:zHh}
theorem Tells.noHeap (h:Tells Γ F):Tells (noHeap Γ) F :=
 ⟨fun g s hs=>h.1 g s (zHx hs).1,fun g xs os r hr hn=>by
  have:=h.get hr;simp only[Go.Abs.noHeap,this,zBl]at hn;cases hn⟩
def Fits (L Ro:List Nat) (n:Nat->Bool) (k:Nat) (l:List (Bool×Inf)):Prop :=
 ∀ i p,l[i]? = some p->inL (k+i) L=p.1/\inL (k+i+1000) Ro=false/\(inL (k+i) Ro=true->match p.2 with | .no=>False | .cl=>True | .rd q=>n q=true | .st q=>n q=false)
theorem Fits.tail {L Ro:List Nat}{n:Nat->Bool}{k:Nat}{p:Bool×Inf}{l:List (Bool×Inf)} (h:Fits L Ro n k (p::l)):Fits L Ro n (k+1) l:=fun i q hi=>by
 have:=h (i+1) q (by simpa using hi)
 rw[show k+(i+1)=k+1+i by omega]at this;exact this
theorem zLv (ht:Tells Γ F){M L Ro:List Nat}{n:Nat->Bool}{all:List Oper}{K:St->Prop}:∀ {os:List Oper}{k:Nat}{σ σ':St}{l:List (Bool×Inf)},dOps T F M all os σ=some (σ',l)->Fits L Ro n k l->K σ'->evD T Γ M [] L Ro n all os k σ K
 | [],k,σ,σ',l,h,hL,hk=>by cases h; exact hk
 | o::os,k,σ,σ',l,h,hL,hk=>by
  unfold dOps at h;unfold evD;have hrun:∀ {x:AV} {σ1:St} {b:Bool×Inf} {l':List (Bool×Inf)},dRun T F (dIn o.dst M) o σ=some (x,σ1,b)->dOps T F M all os (putO σ1 o.dst x)=some (σ',l')->l=b::l'->(match callOf T Γ o σ.env with
    | some (_,s,xs)=>∃ r,s.spec xs r/\match zBz (dIn o.dst M&&inL k L) σ r with
     | none=>False
     | some (x,σ')=>lay (dIn o.dst []) o.dst x σ' fun σ''=>evD T Γ M [] L Ro n all os (k+1) σ'' K
    | none=>match inL k L with
     | true=>match step1 T (dIn o.dst M) o σ with
      | none=>zNA T (Go.Abs.noHeap Γ) (dIn o.dst M) o σ fun x σ'=>zZo (inL k Ro&&cOp o) n σ σ' (zZv (inL (k+1000) Ro) (cmP T Γ o σ σ') (lay (dIn o.dst []) o.dst x σ' fun σ''=>evD T Γ M [] L Ro n all os (k+1) σ'' K))
      | some (φ,x,σ')=>andO φ (lay (dIn o.dst []) o.dst x σ' fun σ''=>evD T Γ M [] L Ro n all os (k+1) σ'' K)
     | false=>match zB9 T (slO (dIn o.dst M) o) o σ.env with
      | none=>False
      | some (φ,x)=>andO φ (lay (dIn o.dst []) o.dst x σ fun σ''=>evD T Γ M [] L Ro n all os (k+1) σ'' K)) /\
    ((inL k Ro&&!(zEp T n o σ.env||clB T Γ (dIn o.dst M) (inL k L) o σ))||(inL (k+1000) Ro&&!(clB T Γ (dIn o.dst M) (inL k L) o σ&&o.guard.isNone)))=false:=fun {x σ1 b l'} hr hn hl=>by
   subst hl;obtain⟨hb,h1000,hro⟩:=hL 0 b rfl;rw[Nat.add_zero]at hb h1000 hro;have hl:∀ nmd,lay nmd o.dst x σ1 fun σ''=>evD T Γ M [] L Ro n all os (k+1) σ'' K:=fun nmd=>zQL (zLv ht hn hL.tail hk)
   rw[ht.callOf,hb,h1000]
   unfold dRun at hr;split at hr
   ·rename_i φ y hp
    split at hr
    ·rename_i hok
     cases hr;have hr0:inL k Ro=false:=by
      cases e:inL k Ro with
      | false=>rfl
      | true=>exact(hro e).elim
     rw[hr0]
     refine⟨?_,rfl⟩
     dsimp only;have hp':zB9 T (slO (dIn o.dst M) o) o σ.env=some (φ,x):=by
      split at hp
      ·cases hp
      ·exact hp
     rw[hp']
     cases φ with
     | none=>exact hl _
     | some p=>exact⟨zVG hp' hok,hl _⟩
    ·cases hr
   ·split at hr
    ·rename_i φ y σ2 hs
     split at hr
     ·rename_i hok
      cases hr;refine⟨?_,?_⟩
      ·dsimp only;rw[hs]
       have:=zVS hs hok;cases φ with
       | none=>exact hl _
       | some p=>exact⟨this,hl _⟩
      ·cases e:inL k Ro with
       | false=>rfl
       | true =>
        have h1:=hro e;unfold yBV at h1;cases e2:zZH T o σ.env with
        | none =>
         rw[e2]at h1;dsimp only at h1;cases e3:zZ0 T o σ.env with
         | none=>rw[e3]at h1; exact h1.elim
         | some q =>
          rw[e3]at h1;rw[zYM e3 h1]
          rfl
        | some q =>
         rw[e2]at h1;rw[zYp e2 h1]
         rfl
     ·cases hr
    ·rename_i hs
     split at hr
     ·rename_i y σ2 hc
      cases hr;obtain⟨hhp,hco⟩:=yAc hc;refine⟨?_,?_⟩
      ·dsimp only;rw[hs]
       refine zOG ht.noHeap hc ?_;have:kp n σ σ1:=fun k _=>hhp k
       cases inL k Ro&&cOp o
       ·exact hl _
       ·exact⟨this,hl _⟩
      ·have:clB T Γ (dIn o.dst M) true o σ=true:=by
        unfold clB;rw[hco,ht.callOf]
        dsimp only;rw[hs]
       rw[this]
       simp
     ·rename_i y σ2 hc
      cases hr;have hr0:inL k Ro=false:=by
       cases e:inL k Ro with
       | false=>rfl
       | true=>exact(hro e).elim
      rw[hr0]
      refine⟨?_,rfl⟩
      dsimp only;rw[hs]
      exact zOG ht.noHeap hc (hl _)
     ·cases hr
  have hskip:∀ {l':List (Bool×Inf)},l=(false,.no)::l'->((inL k Ro&&!(zEp T n o σ.env||clB T Γ (dIn o.dst M) (inL k L) o σ))||(inL (k+1000) Ro&&!(clB T Γ (dIn o.dst M) (inL k L) o σ&&o.guard.isNone)))=false:=fun {l'} hl=>by
   subst hl;obtain⟨hb,h1000,hro⟩:=hL 0 _ rfl;rw[Nat.add_zero]at hb h1000 hro;have hr0:inL k Ro=false:=by
    cases e:inL k Ro with
    | false=>rfl
    | true=>exact(hro e).elim
   rw[hr0,h1000]
   rfl
  split at h
  ·rename_i hg
   split at h
   ·rename_i y σ1 b hr
    rw[zWs,yBM]at h;split at h
    ·rename_i σ3 l' hd
     cases h;obtain⟨this,hgate⟩:=hrun hr hd rfl;rw[hgate]
     dsimp only;unfold gate at hg;split at hg
     ·exact this
     ·rename_i j want e
      try rw[e]
      try dsimp only
      split at hg
      ·rename_i g e1
       try rw[e1]
       try dsimp only
       split at hg
       ·rename_i b e2
        try rw[e2]
        cases b <;> cases want <;> first | exact this | cases hg
       ·cases hg
       ·cases hg
      ·cases hg
    ·cases h
   ·cases h
  ·rename_i hg
   split at h
   ·rename_i σ3 l' hd
    cases h;have hs:lay false o.dst (.tup []) σ fun σ''=>evD T Γ M [] L Ro n all os (k+1) σ'' K:=zQL (zLv ht hd hL.tail hk)
    rw[hskip rfl]
    dsimp only;unfold gate at hg;split at hg
    ·cases hg
    ·rename_i j want e
     try rw[e]
     try dsimp only
     split at hg
     ·rename_i g e1
      try rw[e1]
      try dsimp only
      split at hg
      ·rename_i b e2
       try rw[e2]
       cases b <;> cases want <;> first | exact hs | cases hg
      ·rename_i e2
       try rw[e2]
       exact hs
      ·cases hg
     ·cases hg
   ·cases h
  ·cases h
end
def zJ7 (M:List Nat):List Oper->List Nat
 | []=>[]
 | o::os=>match o.op,o.dst with
  | .move _,some d=>(match inL d M with | true=>zJ7 M os | false=>d::zJ7 M os)
  | .assign _,some d=>(match inL d M with | true=>zJ7 M os | false=>d::zJ7 M os)
  | _,_=>zJ7 M os
def envX {β:Type} (env:Nat->AV):Nat->List (Nat×AV)->(List (Nat×AV)->β)->β
 | 0,l,K=>K l
 | t+1,l,K=>fV (env t) fun x=>match x with
  | .junk=>envX env t l K
  | x=>envX env t ((t,x)::l) K
theorem zNH {β:Type}{env:Nat->AV}:∀ {t:Nat}{l:List (Nat×AV)}{K:List (Nat×AV)->β},holds env l->∃ l',holds env l'/\envX env t l K=K l'
 | 0,l,K,h=>⟨l,h,rfl⟩
 | t+1,l,K,h=>by
  simp only[envX]
  rw[zWs]
  split
  ·exact zNH h
  ·exact zNH ⟨rfl,h⟩
def hpX {β:Type} (hp:Nat->Option Ob):Nat->List (Nat×Ob)->(List (Nat×Ob)->β)->β
 | 0,l,K=>K l
 | k+1,l,K=>match hp k with
  | none=>hpX hp k l K
  | some ob=>hpX hp k ((k,ob)::l) K
theorem zQI {β:Type}{hp:Nat->Option Ob}:∀ {n:Nat}{l:List (Nat×Ob)}{K:List (Nat×Ob)->β},(∀ k ob,ofH l k=some ob->hp k=some ob)->∃ l',(∀ k ob,ofH l' k=some ob->hp k=some ob)/\hpX hp n l K=K l'
 | 0,l,K,h=>⟨l,h,rfl⟩
 | q+1,l,K,h=>by
  simp only[hpX]
  split
  ·exact zQI h
  ·rename_i ob hq
   refine zQI fun k ob' hk=>?_
   simp only[ofH]at hk;cases e:Nat.beq k q with
   | true =>
    rw[e,cond_true]at hk;obtain rfl:=Nat.eq_of_beq_eq_true e;rw[hq,← hk]
   | false =>
    rw[e,cond_false]at hk;exact h k ob' hk
variable {β:Type}
def tidy  (N:Nat) (σ:St) (K:St->β):β:=envX σ.env N [] fun l=>fN σ.nx fun n=>hpX σ.hp n [] fun H=>K ⟨ofL l,ofH H,n⟩
theorem zOA {N:Nat}{σ:St}{K:St->β}:∃ σ',(∀ c,Le c σ σ')/\tidy N σ K=K σ':=by
 unfold tidy;obtain⟨l,h1,h2⟩:=zNH (env:=σ.env) (t:=N) (l:=[]) (K:=fun l=>fN σ.nx fun n=>hpX σ.hp n [] fun H=>K ⟨ofL l,ofH H,n⟩) trivial;rw[h2,zFc]
 obtain⟨H,h3,h4⟩:=zQI (hp:=σ.hp) (n:=σ.nx) (l:=[]) (K:=fun H=>K ⟨ofL l,ofH H,σ.nx⟩) (fun k ob h=>by simp[ofH]at h)
 rw[h4]
 exact⟨_,fun c=>Le.fewer l (ofH H) h1 h3,rfl⟩
def rds (nx:Nat):List (Bool×Inf)->List Nat
 | []=>[]
 | p::r=>match p.2 with
  | .rd q=>(match Nat.blt q nx with | true=>q::rds nx r | false=>rds nx r)
  | _=>rds nx r
def roB (nx:Nat) (rl:List Nat) (p:Bool×Inf):Bool :=
 match p.2 with
 | .no=>false
 | .cl=>true
 | .rd q=>Nat.blt q nx
 | .st q=>!(inL q rl)
theorem zUn:∀ {l:List Bool}{k j:Nat},k+l.length<=j->inL j (idxs k l)=false
 | [],_,_,_=>rfl
 | true::r,k,j,h=>by
  simp only[length_cons]at h;simp only[idxs,inL,zUn (l:=r) (k:=k+1) (j:=j) (by omega),Bool.or_false]
  cases e:Nat.beq j k with
  | true=>have:=Nat.eq_of_beq_eq_true e; omega
  | false=>rfl
 | false::r,k,j,h=>by
  simp only[length_cons]at h;exact zUn (l:=r) (k:=k+1) (by omega)
theorem zYr {nx q:Nat}:∀ {l:List (Bool×Inf)}{i:Nat}{b:Bool},l[i]? = some (b,.rd q)->Nat.blt q nx=true->inL q (rds nx l)=true
 | [],i,b,h,_=>by simp at h
 | p::r,0,b,h,hq=>by
  simp at h;subst h;simp only[rds,hq,inL,Nat.beq_refl,Bool.true_or]
 | p::r,i+1,b,h,hq=>by
  have:=zYr (l:=r) (i:=i) (b:=b) (by simpa using h) hq;unfold rds;split
  ·split
   ·simp only[inL,this,Bool.or_true]
   ·exact this
  ·exact this
theorem zVI {nx k:Nat}:∀ {l:List (Bool×Inf)},inL k (rds nx l)=true->k<nx
 | [],h=>by cases h
 | p::r,h=>by
  unfold rds at h;split at h
  ·split at h
   ·rename_i hq
    simp only[inL,Bool.or_eq_true]at h;rcases h with h | h
    ·obtain rfl:=Nat.eq_of_beq_eq_true h;exact Nat.le_of_ble_eq_true hq
    ·exact zVI h
   ·exact zVI h
  ·exact zVI h
theorem yAY {nx:Nat}{l:List (Bool×Inf)} (hl:l.length<=1000):Fits (idxs 0 (l.map (·.1))) (idxs 0 (l.map (roB nx (rds nx l)))) (fun q=>inL q (rds nx l)) 0 l:=fun i p hi=>by
 refine⟨zMU (by rw[List.getElem?_map,hi]; rfl),zUn (by rw[length_map]; omega),fun h=>?_⟩
 have h1:roB nx (rds nx l) p=true:=by
  rw[← h]
  exact(zMU (by rw[List.getElem?_map,hi]; rfl)).symm
 obtain⟨b,f⟩:=p;cases f with
 | no=>cases h1
 | cl=>trivial
 | rd q=>exact zYr hi h1
 | st q=>simpa [roB] using h1
def nrmE (σs:List St):List (Go.Abs.End×St):=σs.map fun σ=>(.normal,σ)
def zHE (T:Nat->Option TI) (F:zHh) (M:List Nat) (N:Nat):Nat->Code->St->Option (List (End×St))
 | 0,_,_=>none
 | n+1,code,σ=>match code with
  | .seq x y=>match zHE T F M N n x σ with
   | none=>none
   | some l=>zLr l fun p=>match p with
    | (.normal,σ1)=>zHE T F M N n y σ1
    | r=>some [r]
  | .region _ ops drawn=>match zEG N ops.toList with
   | false=>none
   | true=>match drawn with
    | false=>match xOps T F M (zJ7 M ops.toList) N ops.toList ops.toList σ with
     | some σs=>some (nrmE σs)
     | none=>none
    | true=>match dOps T F M ops.toList ops.toList σ with
     | some (σ1,l)=>match Nat.ble l.length 1000,lexD ops (idxs 0 (l.map (·.1))) (idxs 0 (l.map (roB σ.nx (rds σ.nx l)))) ops.toList.length 0 (Array.replicate ops.toList.length false) with
      | true,true=>some [(.normal,σ1)]
      | _,_=>none
     | none=>none
  | .cond (.tmp t) x y=>match σ.env t with
   | .s (.bool true)=>zHE T F M N n x σ
   | .s (.bool false)=>zHE T F M N n y σ
   | _=>none
  | .skip=>some [(.normal,σ)]
  | .ret=>some [(.ret,σ)]
  | .exit id=>some [(.exit id,σ)]
  | .block id x=>match zHE T F M N n x σ with
   | none=>none
   | some l=>some (l.map fun p=>match p with
    | (.exit j,σ1)=>(match Nat.beq j id with | true=>(.normal,σ1) | false=>(.exit j,σ1))
    | r=>r)
  | .loop x=>match zHE T F M N n x σ with
   | none=>none
   | some l=>zLr l fun p=>match p with
    | (.normal,σ1)=>tidy N σ1 fun σ2=>zHE T F M N n (.loop x) σ2
    | r=>some [r]
  | _=>none
section
variable {c:Cx} {T:Nat->Option TI} {Γ:Nat->Option zAr} {F:zHh}
theorem zDV (hT:TOk c.P T) (hΓ:∀ f s,Γ f=some s->PSound c.P f s) (hm:c.P.follows .mixedOrders=true) (ht:Tells Γ F){M:List Nat}:∀ {n:Nat}{code:Code}{σ:St}{L:List (End×St)}{Q:End->St->Prop},zHE T F M c.N n code σ=some L->(∀ p∈L,Q p.1 p.2) ->
  Tri c code σ Q/\∀ x,code = .loop x->TriL c x σ Q
 | 0,_,_,_,_,h,_=>by cases h
 | n+1,code,σ,L,Q,h,hq=>by
  have ih:=fun {code:Code} {σ:St} {L:List (End×St)} {Q:End->St->Prop}=>zDV hT hΓ hm ht (M:=M) (n:=n) (code:=code) (σ:=σ) (L:=L) (Q:=Q)
  have h1q:∀ {e σ'},L=[(e,σ')]->Q e σ':=fun {e σ'} e=>hq (_,_) (by rw[e]; exact mem_cons_self)
  unfold zHE at h;split at h
  ·rename_i x y
   refine⟨zAa ?_,fun _ h=>by cases h⟩
   split at h
   ·cases h
   ·rename_i l h1
    refine(ih h1 (Q:=zZ3 c y Q) fun p hp=>?_).1;obtain⟨l',h2,h3⟩:=zDF h p hp;obtain⟨e,τ⟩:=p;cases e with
    | normal=>exact(ih h2 fun p hp=>hq p (h3 p hp)).1
    | exit id=>cases h2; exact hq _ (h3 _ mem_cons_self)
    | ret=>cases h2; exact hq _ (h3 _ mem_cons_self)
  ·rename_i id ops drawn
   refine⟨?_,fun _ h=>by cases h⟩
   split at h
   ·cases h
   ·rename_i hd
    split at h
    ·split at h
     ·rename_i σs h1
      cases h;have:=zLR (id:=id) (Q:=Q) hT hΓ M (zJ7 M ops.toList) hd (zHF ht h1 fun τ hτ=>hq (.normal,τ) (List.mem_map.2 ⟨τ,hτ,rfl⟩))
      simpa using this
     ·cases h
    ·split at h
     ·rename_i σ1 l h1
      split at h
      ·rename_i h3 h2
       cases h;have:=zLQ (id:=id) (Q:=Q) hT hΓ hm (fun q=>inL q (rds σ.nx l)) (fun _ h=>zVI h) M [] (idxs 0 (l.map (·.1))) (idxs 0 (l.map (roB σ.nx (rds σ.nx l)))) hd (by simpa using h2) (zLv ht h1 (yAY (Nat.le_of_ble_eq_true h3)) (h1q rfl))
       simpa using this
      ·cases h
     ·cases h
  ·rename_i t x y
   refine⟨?_,fun _ h=>by cases h⟩
   split at h
   ·rename_i hb
    exact zAI hb (fun _=>(ih h hq).1) (fun h=>by cases h)
   ·rename_i hb
    exact zAI hb (fun h=>by cases h) (fun _=>(ih h hq).1)
   ·cases h
  ·cases h; exact⟨zAe (h1q rfl),fun _ h=>by cases h⟩
  ·cases h; exact⟨zAd (h1q rfl),fun _ h=>by cases h⟩
  ·cases h; exact⟨zAD (h1q rfl),fun _ h=>by cases h⟩
  ·rename_i id x
   refine⟨zAk ?_,fun _ h=>by cases h⟩
   split at h
   ·cases h
   ·rename_i l h1
    cases h;refine(ih h1 (Q:=zPt id Q) fun p hp=>?_).1;have:=hq _ (List.mem_map.2 ⟨p,hp,rfl⟩)
    obtain⟨e,τ⟩:=p;cases e with
    | normal=>exact this
    | exit j =>
     show match Nat.beq j id with | true=>Q .normal τ | false=>Q (.exit j) τ
     dsimp only at this;cases e:Nat.beq j id with
     | true=>rw[e]at this; exact this
     | false=>rw[e]at this; exact this
    | ret=>exact this
  ·rename_i x
   have key:TriL c x σ Q:=by
    refine zWZ ?_;split at h
    ·cases h
    ·rename_i l h1
     refine(ih h1 (Q:=yAr c x Q) fun p hp=>?_).1;obtain⟨l',h2,h3⟩:=zDF h p hp;obtain⟨e,τ⟩:=p;cases e with
     | normal =>
      obtain⟨σ2,h4,h5⟩:=zOA (N:=c.N) (σ:=τ) (K:=fun σ2=>zHE T F M c.N n (.loop x) σ2)
      dsimp only at h2;rw[h5]at h2;exact yBl (h4 _) ((ih h2 fun p hp=>hq p (h3 p hp)).2 x rfl)
     | exit id=>cases h2; exact hq _ (h3 _ mem_cons_self)
     | ret=>cases h2; exact hq _ (h3 _ mem_cons_self)
   exact⟨zYR key,fun y hy=>by cases hy; exact key⟩
  ·cases h
end
def xFrz (n0:Nat):List Nat->St->St
 | [],σ=>σ
 | k::r,σ=>match Nat.ble n0 k,σ.hp k with
  | true,some (.row e sz rows)=>xFrz n0 r (zMn σ k (.s (.sl sz rows)) (fun _=>.junk))
  | true,some (.arow e sz rows)=>match zGK rows with
   | some rs=>fSss rs fun rs=>xFrz n0 r (zMn σ k (.s (.sl sz rs)) (fun _=>.junk))
   | none=>xFrz n0 r σ
  | _,_=>xFrz n0 r σ
theorem zLT {c:Cx}{n0:Nat}:∀ {l:List Nat}{σ:St},Le c σ (xFrz n0 l σ)
 | [],σ=>Le.refl c σ
 | k::r,σ=>by
  unfold xFrz;split
  ·rename_i h
   exact Le.trans (Le.giveRow k h) zLT
  ·rename_i h
   split
   ·rename_i rs hs
    rw[zQF]
    exact Le.trans (Le.giveArow k rs h hs) zLT
   ·exact zLT
  ·exact zLT
def resT:ResultVar->Nat
 | .tmp t=>t
 | .cell t _=>t
def zQV (l:List Nat):List Nat->List Nat
 | []=>[]
 | k::r=>match kin k l with | true=>zQV l r | false=>k::zQV l r
def there (hp:Nat->Option Ob):List (Nat×Nat)->List (Nat×Nat)
 | []=>[]
 | (k,j)::r=>match hp k with | some _=>(k,j)::there hp r | none=>there hp r
def hpR (hp:Nat->Option Ob) (ρ:List (Nat×Nat)):List (Nat×Nat)->List (Nat×Ob)
 | []=>[]
 | (k,j)::r=>match hp k with | some ob=>(j,ob.ren ρ)::hpR hp ρ r | none=>hpR hp ρ r
theorem zQH {hp:Nat->Option Ob}{ρ:List (Nat×Nat)}:∀ {l:List (Nat×Nat)},kept hp ρ (there hp l) (hpR hp ρ l)
 | []=>trivial
 | (k,j)::r=>by
  simp only[there,hpR]
  cases e:hp k with
  | none=>exact zQH
  | some ob=>exact⟨rfl,⟨ob,e,rfl⟩,zQH⟩
theorem zNN {hp:Nat->Option Ob}{ρ:List (Nat×Nat)}:∀ {l:List (Nat×Nat)},hpR hp ρ (there hp l)=hpR hp ρ l
 | []=>rfl
 | (k,j)::r=>by
  simp only[there,hpR]
  cases e:hp k with
  | none=>exact zNN
  | some ob=>simp only[hpR,e,zNN]
def envR (env:Nat->AV) (ρ:List (Nat×Nat)):List Nat->List (Nat×AV)
 | []=>[]
 | t::r=>(t,(env t).ren ρ)::envR env ρ r
theorem zSL {env:Nat->AV}{ρ:List (Nat×Nat)}:∀ {l:List Nat},rens env ρ (envR env ρ l)
 | []=>trivial
 | t::r=>⟨rfl,zSL⟩
def obsL (hl:List (Nat×Ob)):Nat->List (Option Ob)->List (Option Ob)
 | 0,l=>l
 | k+1,l=>obsL hl k (ofH hl k::l)
def zQ2 (n:Nat):List (Option Ob)->Bool
 | []=>true
 | none::r=>zQ2 n r
 | some ob::r=>ob.lt n&&zQ2 n r
theorem zVy {hl:List (Nat×Ob)}{n:Nat}:∀ {k:Nat}{l:List (Option Ob)},zQ2 n (obsL hl k l)=true->(zPD (ofH hl) n k l)->zPD (ofH hl) n 0 (obsL hl k l)
 | 0,l,_,h=>h
 | k+1,l,h1,h=>by
  simp only[obsL]at h1 ⊢;refine zVy h1 ?_;have h2:zQ2 n (ofH hl k::l)=true:=by
   have:∀ {k:Nat} {l:List (Option Ob)},zQ2 n (obsL hl k l)=true->zQ2 n l=true:=fun {k}=>by
    induction k with
    | zero=>intro l h; exact h
    | succ k ih =>
     intro l h;have:=ih h;cases e:ofH hl k with
     | none=>rw[e]at this; exact this
     | some ob=>rw[e]at this; simp only[zQ2,Bool.and_eq_true]at this; exact this.2
   exact this h1
  cases e:ofH hl k with
  | none=>exact h
  | some ob =>
   rw[e]at h2;simp only[zQ2,Bool.and_eq_true]at h2;exact⟨e,h2.1,h⟩
theorem zMZ {hl:List (Nat×Ob)}:∀ {k:Nat}{l:List (Option Ob)},(obsL hl k l).length=k+l.length
 | 0,l=>by simp[obsL]
 | k+1,l=>by simp only[obsL,zMZ,length_cons]; omega
variable {β:Type}
def fP  (p:Nat×Ob) (K:Nat×Ob->β):β:=fN p.1 fun j=>fO p.2 fun ob=>K (j,ob)
theorem yCj  (p:Nat×Ob) (K:Nat×Ob->β):fP p K=K p:=by simp only[fP,zFc,zWr]
def fPN  (p:Nat×Nat) (K:Nat×Nat->β):β:=fN p.1 fun j=>fN p.2 fun k=>K (j,k)
theorem yBO  (p:Nat×Nat) (K:Nat×Nat->β):fPN p K=K p:=by simp only[fPN,zFc]
def xOut (T:Nat->Option TI) (n0:Nat) (rs:List ResultVar) (n1 n:Nat) (l:List (Nat×AV)) (hl:List (Nat×Ob)):Option (AV×List (Option Ob)) :=
 match zH9 T ⟨ofL l,ofH hl,n⟩ rs with
 | some x=>match zQ2 n1 (obsL hl n1 []),x.lt n1,Nat.ble n0 n1 with
  | true,true,true=>fV x fun x=>some (x,obsL hl n1 [])
  | _,_,_=>none
 | none=>none
def xRen (T:Nat->Option TI) (n0:Nat) (rs:List ResultVar) (σ:St) (n1 n:Nat) (ρ:List (Nat×Nat)):Option (AV×List (Option Ob)) :=
 fL fP (hpR σ.hp ρ ρ) fun hl=>match distinct (ρ.map (·.1)),distinct (ρ.map (·.2)),ltL n (envR σ.env ρ (rs.map resT)),ltH n hl,zOy n0 n ρ with
  | true,true,true,true,true=>xOut T n0 rs n1 n (envR σ.env ρ (rs.map resT)) hl
  | _,_,_,_,_=>none
def yCa (T:Nat->Option TI) (n0:Nat) (rs:List ResultVar) (σ:St) (x:AV):Option (AV×List (Option Ob)) :=
 fL fN (zAp σ.hp 500 (upF n0 []++x.keys) []) fun k1=>fL fN (upF n0 []++zQV (upF n0 []) k1) fun o1 =>
  fL fN (o1++zQV o1 (zAp σ.hp 500 (AV.keysAll ((rs.map resT).map σ.env)) [])) fun o2=>fL fPN (there σ.hp (zipI 0 o2)) fun ρ =>
   fN o1.length fun n1=>fN o2.length fun n=>xRen T n0 rs σ n1 n ρ
def xEnd (T:Nat->Option TI) (n0:Nat) (rs:List ResultVar) (σ:St):Option (AV×List (Option Ob)) :=
 match zH9 T σ rs with
 | none=>none
 | some x0=>fL fN (zAp σ.hp 500 x0.keys []).reverse fun k0=>match zH9 T (xFrz n0 k0 σ) rs with
  | none=>none
  | some x1=>fV x1 fun x1=>yCa T n0 rs (xFrz n0 k0 σ) x1
variable {T:Nat->Option TI}{P:Program}
theorem zLS {w0:World}{B0:Nat->Value}{G0:Nat->Prop}{n0 N:Nat}{rs:List ResultVar}{σ:St}{x:AV}{os':List (Option Ob)} (h:xEnd T n0 rs σ=some (x,os')) :
  zDz (zE7 P w0 B0 n0 G0 N) T rs x os' σ/\n0<=os'.length:=by
 unfold xEnd at h;split at h
 ·cases h
 ·rw[zIx zFc]at h;split at h
  ·cases h
  ·rename_i x1 _
   rw[zWs]at h;unfold yCa at h;simp only[zIx zFc,zFc,zIx yBO]at h;unfold xRen at h;rw[zIx yCj]at h;split at h
   ·rename_i h1 h2 h3 h4 h5
    rw[zNN]at h h4;unfold xOut at h;split at h
    ·rename_i y hy
     split at h
     ·rename_i g1 g2 g3
      rw[zWs]at h;cases h;rw[zMZ,length_nil,Nat.add_zero]
      unfold zDz;refine⟨⟨_,Le.trans zLT (Le.rename _ _ _ _ zSL zQH h1 h2 h3 h4 h5),hy,?_,?_⟩,Nat.le_of_ble_eq_true g3⟩
      ·rw[zMZ,length_nil,Nat.add_zero]; exact g2
      ·rw[zMZ,length_nil,Nat.add_zero]; exact zVy g1 trivial
     ·cases h
    ·cases h
   ·cases h
structure Fi where
 fn:Func
 M:List Nat
def zH3 (T:Nat->Option TI) (ext:Nat->Option (List AV->List Ob->Option (AV×List (Option Ob)))) (tab:Nat->Option Fi):Nat->zHh
 | 0,_,_,_=>none
 | n+1,g,xs,os=>match ext g with
  | some h=>h xs os
  | none=>match tab g with
   | none=>none
   | some fi=>match Nat.ble xs.length fi.fn.ntmps,fi.fn.body with
    | true,some code=>match zHE T (zH3 T ext tab n) fi.M fi.fn.ntmps 100000 code (zOx xs os) with
     | none=>none
     | some l=>match zLr l fun p=>(match p with
       | (.exit _,_)=>none
       | (_,σ)=>match xEnd T os.length fi.fn.results.toList σ with | some r=>some [r] | none=>none) with
      | none=>none
      | some rs=>zP1 rs
    | _,_=>none
def oF (F:zHh) (g:Nat):zAr:=zBl fun xs os x os'=>F g xs os=some (x,os')
variable {R:List AV->List Ob->AV->List (Option Ob)->Prop}
theorem PSound.tell {f:Nat} (h:PSound P f (zEA R)):PSound P f (zBl R):=⟨h.1,h.2.1,h.2.2.1,fun R hR=>by cases hR⟩
theorem PSound.untell {f:Nat} (h:PSound P f (zBl R)):PSound P f (zEA R):=⟨h.1,h.2.1,h.2.2.1,fun R hR=>by cases hR⟩
theorem zNz {ext:Nat->Option (List AV->List Ob->Option (AV×List (Option Ob)))}{tab:Nat->Option Fi}{n:Nat} (ih:∀ g,(ext g ≠ none∨tab g ≠ none)->PSound P g (oF (zH3 T ext tab n) g)) :
  ∃ Γ:Nat->Option zAr,(∀ f s,Γ f=some s->PSound P f s)/\Tells Γ (zH3 T ext tab n):=by
 have hget:∀ g s,(match ext g,tab g with | none,none=>none | _,_=>some (oF (zH3 T ext tab n) g):Option zAr)=some s->s=oF (zH3 T ext tab n) g/\(ext g ≠ none∨tab g ≠ none):=fun g s hs=>by
  split at hs
  ·cases hs
  ·rename_i hn
   cases hs;refine⟨rfl,?_⟩
   cases e1:ext g with
   | some h=>exact .inl (by simp)
   | none=>cases e2:tab g with
    | some fi=>exact .inr (by simp)
    | none=>exact absurd e2 (hn e1)
 refine⟨fun g=>match ext g,tab g with | none,none=>none | _,_=>some (oF (zH3 T ext tab n) g),fun f s hs=>?_,fun g s hs=>(hget g s hs).1,fun g xs os r hr hn=>?_⟩
 ·obtain⟨rfl,h2⟩:=hget f s hs;exact ih f h2
 ·dsimp only at hn;split at hn
  ·rename_i e1 e2
   cases n with
   | zero=>cases hr
   | succ n =>
    simp only[zH3,e1,e2]at hr;cases hr
  ·cases hn
theorem zHM {P:Program}{T:Nat->Option TI} (hT:TOk P T) (hm:P.follows .mixedOrders=true){ext:Nat->Option (List AV->List Ob->Option (AV×List (Option Ob)))}{tab:Nat->Option Fi}
  (hext:∀ g h,ext g=some h->PSound P g (zBl fun xs os x os'=>h xs os=some (x,os')))
  (htab:∀ g fi,tab g=some fi->(∀ args w,(callFunc g args).run P w = .ok (.enter g args) w)/\P.funcs[g]? = some fi.fn) :
  ∀ (n g:Nat),(ext g ≠ none∨tab g ≠ none)->PSound P g (oF (zH3 T ext tab n) g)
 | 0,g,hg=>by
  refine(zHW ?_ (fun xs os x os' h=>by cases h) none).tell;rcases hg with hg | hg
  ·cases e:ext g with
   | none=>exact absurd e hg
   | some h=>exact(hext g h e).1
  ·cases e:tab g with
   | none=>exact absurd e hg
   | some fi=>exact(htab g fi e).1
 | n+1,g,hg=>by
  have ih:=zHM hT hm hext htab n
  let F:=zH3 T ext tab n
  obtain⟨Γ,hΓ,ht⟩:=zNz (T:=T) ih;cases e1:ext g with
  | some h =>
   have:oF (zH3 T ext tab (n+1)) g=zBl fun xs os x os'=>h xs os=some (x,os'):=by
    unfold oF
    congr 1
    funext xs os x os'
    simp only[zH3,e1]
   rw[this]
   exact hext g h e1
  | none =>
   cases e2:tab g with
   | none=>rcases hg with hg | hg <;> contradiction
   | some fi =>
    obtain⟨t1,t2⟩:=htab g fi e2;have key:∀ {xs os x os'},zH3 T ext tab (n+1) g xs os=some (x,os')->xs.length<=fi.fn.ntmps/\∃ code l,fi.fn.body=some code/\zHE T F fi.M fi.fn.ntmps 100000 code (zOx xs os)=some l/\l ≠ []/\∀ p∈l,(∀ id,p.1 ≠ .exit id)/\xEnd T os.length fi.fn.results.toList p.2=some (x,os'):=fun {xs os x os'} h=>by
     simp only[zH3,e1,e2]at h;split at h
     ·rename_i code hb hbody
      refine⟨Nat.le_of_ble_eq_true hb,?_⟩
      split at h
      ·cases h
      ·rename_i l h1
       split at h
       ·cases h
       ·rename_i rs h2
        refine⟨code,l,hbody,h1,fun e=>?_,fun p hp=>?_⟩
        ·subst e;cases h2;cases h
        ·obtain⟨l',h3,h4⟩:=zDF h2 p hp;obtain⟨e,τ⟩:=p;cases e with
         | exit id=>cases h3
         | normal =>
          dsimp only at h3;split at h3
          ·rename_i r hr
           cases h3;have:=zLP h r (h4 r mem_cons_self)
           subst this;exact⟨(fun id h=>by cases h),hr⟩
          ·cases h3
         | ret =>
          dsimp only at h3;split at h3
          ·rename_i r hr
           cases h3;have:=zLP h r (h4 r mem_cons_self)
           subst this;exact⟨(fun id h=>by cases h),hr⟩
          ·cases h3
     ·cases h
    cases hbody:fi.fn.body with
    | none =>
     refine(zHW t1 (fun xs os x os' h=>?_) none).tell;obtain⟨_,code,l,h2,_⟩:=key h;rw[hbody]at h2;cases h2
    | some code =>
    refine(zX8 hT t1 t2 hbody (fun xs os x os' h=>?_) fi.fn.ntmps rfl (fun xs os x os' w0 G0 B0 h _=>?_)).tell
    ·obtain⟨h1,code',l,hc,h2,h3,h4⟩:=key h;obtain⟨p,hp⟩:=exists_mem_of_ne_nil l h3;exact⟨h1,(zLS (P:=P) (w0:=default) (B0:=fun _=>.tuple #[]) (G0:=fun _=>False) (N:=0) (h4 p hp).2).2⟩
    ·obtain⟨h1,code',l,hc,h2,h3,h4⟩:=key h;rw[hbody]at hc;cases hc;refine(zDV (c:=zE7 P w0 B0 os.length G0 fi.fn.ntmps) hT hΓ hm ht h2 fun p hp=>?_).1;obtain⟨h5,h6⟩:=h4 p hp;obtain⟨e,τ⟩:=p;cases e with
     | normal=>exact(zLS h6).1
     | exit id=>exact absurd rfl (h5 id)
     | ret=>exact(zLS h6).1
variable {P:Program}
theorem PSound.extO {f:Nat}{R:List AV->List Ob->AV->List (Option Ob)->Prop} (hp:PSound P f (zEA R)){h:List AV->List Ob->Option (AV×List (Option Ob))}
  (hk:∀ xs os x os',h xs os=some (x,os')->R xs os x os'):PSound P f (zBl fun xs os x os'=>h xs os=some (x,os')) :=
 ⟨hp.1,fun G w xs vs r _ _ _ _ hs=>hs.elim,fun R' hR'=>by
  obtain rfl:(fun xs os x os'=>h xs os=some (x,os'))=R' :=(by simpa [zBl] using hR');exact fun G w β xs vs os x os' h1 h2 h3 h4 h5 h6=>hp.2.2.1 R rfl G w β xs vs os x os' h1 h2 h3 h4 h5 (hk _ _ _ _ h6),fun R hR=>by cases hR⟩
theorem PSound.extP {f:Nat}{s:zAr} (hp:PSound P f s){h:List AV->Option AV}
  (hk:∀ xs x,h xs=some x->AV.persAll xs=true/\s.spec xs (.val x)):PSound P f (zBl fun xs os x os'=>(match os,h xs with | [],some y=>some (y,[]) | _,_=>none)=some (x,os')) :=
 PSound.extO (h:=fun xs os=>match os,h xs with | [],some y=>some (y,[]) | _,_=>none) hp.toOwn fun xs os x os' e=>by
  split at e
  ·rename_i y hy
   cases e;obtain⟨h1,h2⟩:=hk _ _ hy;exact⟨h1,h2,rfl,rfl⟩
  ·cases e
structure Hd where
 c:Cx
 env:Nat->AV
 a:Act
 N:Nat
 m:Nat
 l:Nat
 D:Nat
 ky:Nat
 p:Nat
 rc:Loop
structure Hd.Ok (h:Hd):Prop where
 ro:h.c.ro=none
 ds:h.c.ds=[]
 n0:h.c.n0<=h.m
 lt:∀ t,(h.env t).lt h.m=true
 l:h.c.w0.heap.size<=h.l
 D:h.c.w0.heap.size<=h.D
 ne:h.D ≠ h.l
 ky:h.ky<h.m
 st:h.rc.state = .ready
 pe:h.rc.pending=none
 ps:h.rc.params = #[h.p]
 tm:h.rc.tmps=h.a.tmps
 p:h.p<h.c.N
def Hd.held (h:Hd) (τ:St) (ai:Act) (W:World):Prop :=
 ∃ G β,Conc h.c G β ⟨h.env,τ.hp,τ.nx⟩ h.a W/\Conc { h.c with N:=h.N } G β τ ai W/\W.heap[h.l]? = some (.loop h.rc)/\W.heap[h.D]? = some (.deferred (some []))/\¬ G h.l/\¬ G h.D/\h.m<=τ.nx/\β h.ky = .func (.yield h.l) #[] #[]
def Hd.cx (h:Hd) (w:World) (X G:Nat->Prop) (B:Nat->Value):Cx:={ P:=h.c.P,w0:=w,X:=X,G0:=G,N:=h.N,n0:=h.m,B0:=B }
def TriY (h:Hd) (x:Code) (τ:St) (Q:End->St->Prop):Prop :=
 ∀ a W,h.held τ a W->x.wpIn (rF none) 1 h.c.P (fun e a' W'=>∃ e' τ',e=zFP e'/\Q e' τ'/\h.held τ' a' W') a W
section
variable {h:Hd} (ho:h.Ok) {τ:St} {Q:End->St->Prop}
include ho
theorem Hd.go {ai:Act}{W:World} (hh:h.held τ ai W):∃ G β,Conc (h.cx W (ownB β τ.hp) G β) G β τ ai W/\∀ G' β' τ' a' W',Conc (h.cx W (ownB β τ.hp) G β) G' β' τ' a' W'->h.held τ' a' W':=by
 obtain⟨G,β,h1,h2,hl,hD,nl,nD,hm,hy⟩:=hh;have e0:h2.defers.trans ho.ds=h2.defers.trans ho.ds:=rfl;refine⟨G,β,h2.re (c2:=h.cx W (ownB β τ.hp) G β) (fun _ _=>rfl) (fun _ _=>rfl) (Nat.le_refl _) (h2.defers.trans ho.ds) h2.size h2.env h2.envlt (fun _ h=>.inl h) (fun _ h=>h) (fun _ h=>.inl h) (Fr.refl _ _) ⟨hm,fun _ _=>rfl⟩,fun G' β' τ' a' W' hc=>?_⟩
 have s1:=h1.stand hc rfl (fun _ h=>h) rfl rfl rfl ho.lt ho.n0;have nol:¬ ownB β τ.hp h.l:=h2.not_own hl rfl;have noD:¬ ownB β τ.hp h.D:=h2.not_own hD rfl;have ll:=(Array.getElem?_eq_some_iff.1 hl).1;have lD:=(Array.getElem?_eq_some_iff.1 hD).1;have new:∀ b,b<W.heap.size->¬ G b->¬ ownB β τ.hp b->¬ G' b:=fun b hb h1 h2 h=>(hc.new b h).elim h1 fun h=>h.elim h2 fun h=>by have:W.heap.size<=b:=h; omega
 exact⟨G',β',s1,hc.re (c2:={ h.c with N:=h.N }) (fun _ _=>rfl) (fun _ _=>rfl) (Nat.le_refl _) (hc.defers.trans ho.ds.symm) hc.size hc.env hc.envlt s1.own_mine s1.sub s1.new s1.fr s1.stay,
  (hc.fr.old _ ll nol).trans hl,(hc.fr.old _ lD noD).trans hD,new _ ll nl nol,new _ lD nD noD,hc.stay.1,(hc.stay.2 _ ho.ky).trans hy⟩
variable {x:Code}
theorem yBm  (ht:∀ W X G B,Tri (h.cx W X G B) x τ Q):TriY h x τ Q:=fun a W hh=>by
 obtain⟨G,β,hc,hk⟩:=Hd.go ho hh;have:=ht W (ownB β τ.hp) G β;unfold Tri at this;refine wpIn_mono (zYV (m:=1) (this G β a W hc)) ?_;rintro e a' W' ⟨e',G',β',τ',rfl,hq,hc'⟩
 exact⟨e',τ',rfl,hq,hk G' β' τ' a' W' hc'⟩
omit ho
def yB8 (h:Hd) (y:Code) (Q:End->St->Prop):End->St->Prop
 | .normal,τ=>TriY h y τ Q
 | e,τ=>Q e τ
variable {y:Code}
theorem zZ6  (ht:TriY h x τ (yB8 h y Q)):TriY h (.seq x y) τ Q:=fun a W hh=>by
 refine wpIn_seq (wpIn_mono (ht a W hh) ?_)
 rintro e a' W' ⟨e',τ',rfl,hq,hh'⟩
 cases e' with
 | normal=>exact hq a' W' hh'
 | exit id=>exact⟨.exit id,τ',rfl,hq,hh'⟩
 | ret=>exact⟨.ret,τ',rfl,hq,hh'⟩
theorem zW0 {id:Nat} (ht:TriY h x τ (zPt id Q)):TriY h (.block id x) τ Q:=fun a W hh=>by
 refine wpIn_block (wpIn_mono (ht a W hh) ?_)
 rintro e a' W' ⟨e',τ',rfl,hq,hh'⟩
 cases e' with
 | normal=>exact⟨.normal,τ',rfl,hq,hh'⟩
 | ret=>exact⟨.ret,τ',rfl,hq,hh'⟩
 | exit j =>
  simp only[zPt]at hq;show Exit.inBlock id _ (.exit j) a' W';unfold Exit.inBlock;dsimp only;split at hq
  ·rename_i e
   rw[if_pos (Nat.eq_of_beq_eq_true e)]
   exact⟨.normal,τ',rfl,hq,hh'⟩
  ·rename_i e
   rw[if_neg (Nat.ne_of_beq_eq_false e)]
   exact⟨.exit j,τ',rfl,hq,hh'⟩
theorem zTN {t:Nat}{b:Bool} (hb:τ.env t = .s (.bool b)) (h1:b=true->TriY h x τ Q) (h2:b=false->TriY h y τ Q):TriY h (.cond (.tmp t) x y) τ Q:=fun a W hh=>by
 obtain⟨G,β,_,hc,_⟩:=id hh;have e:=hc.env t;rw[hb]at e;simp only[AVal,Rep]at e;exact wpIn_cond_split (t:=b) e (fun e=>h1 e a W hh) (fun e=>h2 e a W hh)
def zUc (h:Hd) (x:Code) (τ:St) (Q:End->St->Prop):Prop :=
 ∀ a W,h.held τ a W->∀ (b:Frame) (k:List Item) (cs:List Frame),b.roundOf=(rF none).round->(rF none).fn b.fn->(rF none).room (cs.length+1+1) ->
  ∃ e a' W',(∃ e' τ',e=zFP e'/\Q e' τ'/\h.held τ' a' W')/\ArrivesIn (Machine.fenced h.c.P (rF none)) h.c.P (lone (b.atR a (.code x::.inLoop x::k)) cs W) b k cs e a' W'
theorem zYQ  (ht:zUc h x τ Q):TriY h (.loop x) τ Q:=fun a W hh b k cs hro hb hr=>by
 obtain⟨e,a',W',hq,harr⟩:=ht a W hh b k cs hro hb hr;exact⟨e,a',W',hq,.of_steps (.one (fenced_calm hb hr rfl) stepR_loop) harr⟩
def yAs (h:Hd) (x:Code) (Q:End->St->Prop):End->St->Prop
 | .normal,τ=>zUc h x τ Q
 | e,τ=>Q e τ
theorem zU2  (ht:TriY h x τ (yAs h x Q)):zUc h x τ Q:=fun a W hh b k cs hro hb hr=>by
 obtain⟨e,a',W',⟨e',τ',rfl,hq,hh'⟩,harr⟩:=ht a W hh b (.inLoop x::k) cs hro hb hr;cases e' with
 | normal =>
  obtain⟨e2,a2,w2,hq2,harr2⟩:=hq a' W' hh' b k cs hro hb hr;exact gX
 | exit id=>exact⟨.exit id,a',W',⟨.exit id,τ',rfl,hq,hh'⟩,.pass (x:=.inLoop x) rfl (fun _ _=>.inl (by simp[zFP])) harr⟩
 | ret=>exact⟨.ret,a',W',⟨.ret,τ',rfl,hq,hh'⟩,.pass (x:=.inLoop x) rfl (fun _ _=>.inl (by simp[zFP])) harr⟩
include ho
theorem zZ5 {τ':St} (hl:∀ W X G B,Le (h.cx W X G B) τ τ') (ht:zUc h x τ' Q):zUc h x τ Q:=fun a W hh=>by
 obtain⟨G,β,hc,hk⟩:=Hd.go ho hh;have:=hl W (ownB β τ.hp) G β;unfold Le at this;obtain⟨G',β',hc'⟩:=this _ _ _ _ hc;exact ht a W (hk _ _ _ _ _ hc')
omit ho
end
variable {Q:Exit->Act->World->Prop}{K:Act->World->Prop}{w:World}{a:Act}{o:Oper}{P:Program}
theorem zZz {Q':Exit->Act->World->Prop} (hQ:∀ e a w,e ≠ .normal->Q e a w->Q' e a w) (h:o.wp P a w K Q):o.wp P a w K Q':=by
 unfold Oper.wp at h ⊢;unfold Oper.upon at h ⊢;generalize Sem.run P (execOp a.eval o) w=r at h ⊢;split at h
 ·exact h
 ·exact h
 ·exact h
 ·refine h.mono fun e w' he=>?_
  cases e with
  | returned v=>exact he
  | panicked c=>exact hQ _ _ _ (by intro h; cases h) he
  | outgrown=>exact he.imp fun a h=>h.imp fun w h=>hQ _ _ _ (by intro h; cases h) h
 ·exact h
 ·exact hQ _ _ _ (by intro h; cases h) h
 ·exact h.elim
theorem zP7 {ro:Option Nat}{n:Nat}{P:Program}{ops:Array Oper}{Q Q1:Exit->Act->World->Prop}{rest:List Oper} (hno:∀ e a w,e ≠ .normal->¬ Q1 e a w) (hn:∀ a w,Q1 .normal a w->wpListIn (rF ro) n P ops Q rest a w) :
  ∀ (l:List Oper),(∀ o∈l,∀ c,o.op ≠ .defer c)->∀ a w,wpList P ops Q1 l a w->wpListIn (rF ro) n P ops Q (l++rest) a w
 | [],_,a,w,h=>hn a w h
 | o::l,hd,a,w,h=>by
  have ih:=fun a w=>zP7 hno hn l (fun o ho=>hd o (mem_cons_of_mem _ ho)) a w
  unfold wpList at h;show wpListIn _ _ _ _ _ (o::(l++rest)) a w;unfold wpListIn;split
  ·rename_i hw
   rw[if_pos hw]at h;rcases h with h | ⟨_,a',w',h⟩
   ·exact zX7 (hd o mem_cons_self) ih (zZz (fun e a w he h=>(hno e a w he h).elim) h)
   ·exact(hno _ _ _ (by intro h; cases h) h).elim
  ·rename_i hw
   rw[if_neg hw]at h;exact⟨fun _ _=>trivial,ih _ _ h⟩
theorem zYZ {f x:Operand}{ts:Array TypeId}{l:Nat}{R:Ending->World->Prop}{u:Value} (ho:o.op = .call { callee:=.value f,args:=#[x],argTypes:=ts })
  (hf:a.eval f = .func (.yield l) #[] #[]) (hY:YieldAt Fence.wide 0 P l #[a.eval x] w R) (hR:∀ e w',R e w'->e = .returned u/\K (a.put o.dst u) w'):o.wpIn (rF none) 1 P a w K Q:=by
 obtain⟨fn,tmps,assign,body,hy,hr⟩:=hY;refine⟨fun _ _=>trivial,?_⟩
 rw[Oper.semAt_eq _ _ _ (by rw[ho]; intro c e; cases e)]
 have:(execOp a.eval o).run P w = .ok (.round l fn tmps assign body) w:=by
  simp[execOp,ho,resolve,hf,Deferred.ofValue,invoke,hy]
 rw[this]
 refine⟨fun h=>(by cases h),hr.mono fun e w' he=>?_⟩
 obtain⟨rfl,h⟩:=hR e w' he;exact h
def renv (env:Nat->AV) (p:Nat) (row:List S) (t:Nat):AV:=bif Nat.beq t p then .agg (row.map .s) else env t
def zSf (h:Hd) (row:List S) (hp:Nat->Option Ob) (nx:Nat) (Q:(Nat->Option Ob)->Nat->Prop):Prop :=
 ∀ w X G B,Rl w X h.l->Tri (rcx h.c.P h.c.N nx h.l w X G B) h.rc.assign ⟨renv h.env h.p row,hp,nx⟩ (fun e σ1=>e = .normal/\∀ w X G B,Rl w X h.l ->
  Tri (rcx h.c.P h.c.N nx h.l w X G B) h.rc.body σ1 (fun e σ2=>e = .normal/\∃ σ3,Le (rcx h.c.P h.c.N nx h.l w X G B) σ2 σ3/\Q σ3.hp σ3.nx))
theorem zip1 {α β:Type} (a:α) (x:β) : #[a].zip #[x] = #[(a,x)]:=by
 apply Array.ext'
 simp[Array.toList_zip]
theorem zWw {h:Hd} (ho:h.Ok){τ:St}{W:World} (hh:h.held τ a W){row:List S}{x:Nat} (hx:τ.env x = .agg (row.map .s)){Q:(Nat->Option Ob)->Nat->Prop} (hr:zSf h row τ.hp τ.nx Q) :
  YieldAt Fence.wide 0 h.c.P h.l #[a.eval (.tmp x)] W (fun e W2=>e = .returned (.bool true)/\∃ hp' nx',Q hp' nx'/\h.held ⟨τ.env,hp',nx'⟩ a W2):=by
 obtain⟨G,β,h1,h2,hl,hD,nl,nD,hm,hy⟩:=hh;have hv:=h2.env x;rw[hx]at hv;have hs:h.p<h.a.tmps.size :=(by rw[h1.size]; exact ho.p);have hA:Conc (rcx h.c.P h.c.N τ.nx h.l W (ownB β τ.hp) G β) G β ⟨renv h.env h.p row,τ.hp,τ.nx⟩ { tmps:=(h.rc.params.zip #[a.eval (.tmp x)]).foldl (fun tmps (t,a)=>tmps.setIfInBounds t a) h.rc.tmps,defers:=[] } W:=by
  rw[ho.ps,ho.tm]
  have htm:(#[h.p].zip #[a.eval (.tmp x)]).foldl (fun(tmps:Array Value) (y:Nat×Value)=>tmps.setIfInBounds y.1 y.2) h.a.tmps=h.a.tmps.setIfInBounds h.p (a.tmps.getD x undef) :=(by rw[zip1]; rfl);refine h1.re (c2:=rcx h.c.P h.c.N τ.nx h.l W (ownB β τ.hp) G β) (fun _ _=>rfl) (fun _ _=>rfl) (Nat.le_refl _) rfl (by show Array.size ((#[h.p].zip #[a.eval (.tmp x)]).foldl (fun(tmps:Array Value) (y:Nat×Value)=>tmps.setIfInBounds y.1 y.2) h.a.tmps)=_; rw[htm,Array.size_setIfInBounds]; exact h1.size) (fun t=>?_) (fun t=>?_) (fun _ h=>.inl h) (fun _ h=>h) (fun _ h=>.inl h) (Fr.refl _ _) ⟨Nat.le_refl _,fun _ _=>rfl⟩
  ·show AVal G W β (renv h.env h.p row t) (((#[h.p].zip #[a.eval (.tmp x)]).foldl (fun(tmps:Array Value) (y:Nat×Value)=>tmps.setIfInBounds y.1 y.2) h.a.tmps).getD t undef)
   rw[htm,zKT hs]
   unfold renv
   by_cases e1:t=h.p
   ·subst e1;rw[if_pos rfl,Nat.beq_refl,cond_true]
    exact hv
   ·rw[if_neg e1,nbeq e1,cond_false]
    exact h1.env t
  ·show(renv h.env h.p row t).lt _=true;unfold renv
   by_cases e1:t=h.p
   ·subst e1; rw[Nat.beq_refl,cond_true]; simp only[AV.lt]; exact zQP row
   ·rw[nbeq e1,cond_false]; exact h1.envlt t
 have noD:¬ ownB β τ.hp h.D:=h2.not_own hD rfl;have lD:=(Array.getElem?_eq_some_iff.1 hD).1;refine zOm hl ho.st ho.pe nl (by rw[ho.ps]; rfl) hA hr fun G' β' hp' nx' W2 hQ e1 e2 e3 e4 e5 e6 e8 e9 e7=>⟨rfl,hp',nx',hQ,?_⟩
 have s1:=e7 _ _ _ h1 h1.envlt h1.stay.1 ho.l;exact⟨G',β',s1,e7 { h.c with N:=h.N } _ _ h2 h2.envlt h2.stay.1 ho.l,e1,(e6 _ lD ho.ne noD).trans hD,e2,fun q=>(e4 _ q).elim nD fun q=>q.elim noD fun q=>by omega,
  Nat.le_trans hm e8,(e9 _ (Nat.lt_of_lt_of_le ho.ky hm)).trans hy⟩
theorem zW1 {h:Hd} (ho:h.Ok){T:Nat->Option TI}{Γ:Nat->Option zAr} (hT:TOk h.c.P T) (hΓ:∀ f s,Γ f=some s->PSound h.c.P f s){id:Nat}{ops pre post:List Oper}{yo:Oper} (hops:ops=pre++yo::post){M nm:List Nat} (hN:zEG h.N ops=true){τ:St}{Q:End->St->Prop}
  (hpre:zBF T Γ M nm h.N ops pre τ fun τ1=>∃ f x d ts row Q2,yo.op = .call { callee:=.value (.tmp f),args:=#[.tmp x],argTypes:=ts }/\yo.dst=some d/\gate ops yo τ1.env=some true/\τ1.env f = .mref h.ky/\τ1.env x = .agg (row.map .s)/\zSf h row τ1.hp τ1.nx Q2 /\
   ∀ hp' nx',Q2 hp' nx'->zBF T Γ M nm h.N ops post ((⟨τ1.env,hp',nx'⟩:St).put (some d) (.s (.bool true))) (Q .normal)) :
  TriY h (.region id ops.toArray false) τ Q:=fun a W hh=>by
 have hno:¬ LetsOut (fun e a' w'=>∃ e' τ',e=zFP e'/\Q e' τ'/\h.held τ' a' w'):=by
  rintro⟨a,w,e',_,h,_⟩
  cases e' <;> cases h
 obtain⟨G,β,hc,hk⟩:=Hd.go ho hh;refine wpIn_region_lit ?_;have hd:=zKP hN;rw[hops]at hd;show wpListIn _ _ _ _ _ ops a W;have key:=zB4 (Q:=fun e a' w'=>e=Exit.normal/\∃ σ',(∃ f x d ts row Q2,yo.op = .call { callee:=.value (.tmp f),args:=#[.tmp x],argTypes:=ts }/\yo.dst=some d/\gate ops yo σ'.env=some true/\σ'.env f = .mref h.ky/\σ'.env x = .agg (row.map .s)/\zSf h row σ'.hp σ'.nx Q2 /\
   ∀ hp' nx',Q2 hp' nx'->zBF T Γ M nm h.N ops post ((⟨σ'.env,hp',nx'⟩:St).put (some d) (.s (.bool true))) (Q .normal))/\h.held σ' a' w') hT hΓ (c:=h.cx W (ownB β τ.hp) G β) (fun σ' G' β' a' w' hk' hc'=>⟨rfl,σ',hk',hk _ _ _ _ _ hc'⟩) (zEu hN) pre τ G β a W hpre hc
 have key2:=zP7 (ro:=none) (n:=1) (Q:=fun e a' w'=>∃ e' τ',e=zFP e'/\Q e' τ'/\h.held τ' a' w') (rest:=yo::post) (fun e a w he h=>he h.1) (fun a1 w1 hq=>?_) pre (fun o ho c=>hd o (mem_append_left _ ho) c) a W key
 ·have e:pre++yo::post=ops:=hops.symm;rw[e]at key2;exact key2
 obtain⟨_,τ1,⟨f,x,d,ts,row,Q2,q1,q2,q3,q4,q5,q6,q7⟩,hh1⟩:=hq;obtain⟨G1,β1,hc1,hk1⟩:=Hd.go ho hh1;unfold wpListIn;rw[if_pos (zNM hc1 (zEu hN) q3)]
 have hf:a1.eval (.tmp f) = .func (.yield h.l) #[] #[]:=by
  obtain⟨G',β',_,e2,_,_,_,_,_,e9⟩:=hh1;have:=e2.env f;rw[q4]at this;simp only[AVal]at this;exact this.1.trans e9
 refine zYZ (u:=.bool true) (l:=h.l) q1 hf (zWw ho hh1 q5 q6) ?_;rintro e w2 ⟨rfl,hp',nx',hQ,hh2⟩
 refine⟨rfl,?_⟩
 obtain⟨G2,β2,hc2,hk2⟩:=Hd.go ho hh2;have hp:=hc2.put (d:=yo.dst) (x:=.s (.bool true)) (v:=.bool true) (fun t ht=>zEu hN pre.length t (by rw[hops]; simpa using ht)) (by simp[AVal,Rep]) rfl;rw[q2]at hp ⊢;exact zOE hno post (fun o ho=>hd o (mem_append_right _ (mem_cons_of_mem _ ho))) _ _ (zB4 (Q:=fun e a' w'=>∃ e' τ',e=zFP e'/\Q e' τ'/\h.held τ' a' w') (c:=h.cx w2 (ownB β2 hp') G2 β2) hT hΓ (fun σ' G' β' a' w' hk' hc'=>⟨.normal,σ',rfl,hk',hk2 _ _ _ _ _ hc'⟩) (zEu hN) post _ G2 β2 _ _ (q7 _ _ hQ) hp)
theorem Ob.lt_up {n:Nat}{ob:Ob} (hl:ob.lt n=true):ob.lt (n+1)=true:=by
 cases ob with
 | row=>rfl
 | _=>exact AV.ltAll_mono (Nat.le_succ _) (by simpa [Ob.lt] using hl)
theorem Conc.key {c:Cx}{G:Nat->Prop}{β:Nat->Value}{σ:St} (h:Conc c G β σ a w) (v:Value):∃ β',(∀ k,k<σ.nx->β' k=β k)/\β' σ.nx=v/\Conc c G β' { σ with nx:=σ.nx+1 } a w:=by
 refine⟨fun k=>if k=σ.nx then v else β k,fun k hk=>if_neg (by omega),if_pos rfl,?_⟩
 have hb:∀ k,k<σ.nx->(fun k=>if k=σ.nx then v else β k) k=β k:=fun k hk=>if_neg (by omega)
 have hk:∀ k ob,σ.hp k=some ob->(if k=σ.nx then v else β k)=β k:=fun k ob hk=>if_neg (by have:=(h.hplt k ob hk).1; omega)
 refine { h with env:=fun t=>(h.env t).beta hb (h.envlt t),envlt:=fun t=>AV.lt_mono (Nat.le_succ _) (h.envlt t),hp:=fun k ob hk'=>?_,hplt:=fun k ob hk'=>⟨Nat.lt_succ_of_lt (h.hplt k ob hk').1,Ob.lt_up (h.hplt k ob hk').2⟩,inj:=fun k k' ob ob' e1 e2=>(by rw[hk k ob e1,hk k' ob' e2]; exact h.inj k k' ob ob' e1 e2),stay:=⟨Nat.le_succ_of_le h.stay.1,fun k hk=>?_⟩ }
 ·rw[hk k ob hk']
  have hu:=h.hp k ob hk';have hlt:=(h.hplt k ob hk').2;cases ob with
  | box cells =>
   exact kY
  | row e sz rows=>exact hu
  | arow e sz rows=>exact hu.moveA (fun _ _ _ h=>h) (fun _ _ _ _ h=>h) (fun _ _ h=>h) (fun i x u hx hr=>hr.beta hb (zI6 (by simpa [Ob.lt] using hlt) hx))
  | any τ xs =>
   exact qD
 ·have h1:=h.stay.1;rw[if_neg (by omega)]
  exact h.stay.2 k hk
theorem zU3 {c:Cx}{σ:St}{Φ:Exit->Act->World->Prop} (hro:c.ro=none) (hds:c.ds=[]){tg p fid:Nat}{ifn:Func}{icode:Code}{caps:List AV}{assign body:Code} (hcall:∀ args w,(callFunc fid args).run c.P w = .ok (.enter fid args) w) (hf:c.P.funcs[fid]? = some ifn) (hb:ifn.body=some icode) (hres:ifn.results = #[])
  (hN:caps.length+1<=ifn.ntmps) (he:σ.env tg = .clo fid caps) (hp:p<c.N) {Q:(Nat->Option Ob)->Nat->Prop}
  (hit:∀ h:Hd,h.Ok->h.c=c->h.env=σ.env->h.N=ifn.ntmps->h.p=p->h.ky=σ.nx->h.rc.assign=assign->h.rc.body=body->TriY h icode ⟨fun t=>(AV.mref σ.nx::caps).getD t .junk,σ.hp,σ.nx+1⟩ (fun e τ=>(∀ id,e ≠ .exit id)/\Q τ.hp τ.nx))
  (hdone:∀ D w2 X G2 G' β' a2 hp' nx',Q hp' nx'->Sw c (lcx c.P c.N c.n0 w2 X G2 c.B0 D) D->Conc (lcx c.P c.N c.n0 w2 X G2 c.B0 D) G' β' ⟨σ.env,hp',nx'⟩ a2 w2->Φ .normal a2 w2) (hfid:Nat.ble 1048576 fid=false:=by rfl) :
  TriX c (.rangeFunc (.tmp tg) #[p] assign body) σ Φ:=fun G β a w hc=>by
 have hg:=hc.env tg;rw[he]at hg;simp only[AVal]at hg;obtain⟨vs,hg,hvs⟩:=hg;have hg:a.eval (.tmp tg) = .func (.func fid) #[] vs.toArray :=(by rw[zSA hfid]at hg; exact hg);have hlc:=hc.envlt tg;rw[he]at hlc;simp only[AV.lt]at hlc;refine wpIn_rangeFunc fun fn _=>?_
 obtain⟨rec,hrec⟩:∃ rec:Loop,rec={ state:=.ready,pending:=none,fn:=fn,tmps:=a.tmps,params:=#[p],assign:=assign,body:=body,defers:=w.heap.size }:=⟨_,rfl⟩
 obtain⟨l,hl0⟩:∃ l,l=w.heap.size+1:=⟨_,rfl⟩
 obtain⟨D,hD0⟩:∃ D,D=w.heap.size:=⟨_,rfl⟩
 obtain⟨W1,hW1⟩:∃ W1,(w.alloc (.deferred (some []))).alloc (.loop rec)=W1:=⟨_,rfl⟩
 have hL1:W1.heap[l]? = some (.loop rec):=by
  have:=World.alloc_heap_new (w.alloc (.deferred (some []))) (.loop rec)
  rw[World.size_alloc]at this;rw[← hW1,hl0]; exact this
 have hDD:W1.heap[D]? = some (.deferred (some [])):=by
  have:=zBv (w.alloc (.deferred (some []))) (.loop rec) (b:=w.heap.size) (by rw[World.size_alloc]; omega)
  rw[← hW1,hD0,this]
  exact World.alloc_heap_new w _
 have hc1:Conc c G β σ a W1:=by
  rw[← hW1]
  have h1:=hc.ext (Ext.alloc0 hc.lt (.deferred (some [])))
  exact h1.ext (Ext.alloc0 h1.lt (.loop rec))
 have hcl:c.w0.heap.size<=D :=(by rw[hD0]; exact hc.fr.size);obtain⟨β1,b1,b2,hc2⟩:=hc1.key (.func (.yield l) #[] #[])
 have hlw:W1.heap.size=w.heap.size+2 :=(by rw[← hW1,World.size_alloc,World.size_alloc]);obtain⟨h,hh⟩:∃ h:Hd,h={ c:=c,env:=σ.env,a:=a,N:=ifn.ntmps,m:=σ.nx+1,l:=l,D:=D,ky:=σ.nx,p:=p,rc:=rec }:=⟨_,rfl⟩
 have ho:h.Ok:=by
  rw[hh]
  exact⟨hro,hds,hc2.stay.1,hc2.envlt,by show c.w0.heap.size<=l; omega,hcl,by show D ≠ l; omega,Nat.lt_succ_self _,by rw[hrec],by rw[hrec],by rw[hrec],by rw[hrec],hp⟩
 refine⟨l,[{ target:=.collected D,args:=#[] }],W1,{ target:=.fn (.func fid) vs.toArray,args:=#[.func (.yield l) #[] #[]] },W1,fid,#[.func (.yield l) #[] #[]]++vs.toArray,W1,?_,?_,?_,?_,fun h=>(by cases h),?_⟩
 ·rw[← hW1,hrec,hl0,hD0]; exact run_enterLoop_outer _ _ _ _ _
 ·simp only[resolve,hg]
  simp[go_sem]
 ·intro f' hf'; trivial
 ·simp[invoke,go_sem,hcall]
 have hlen:=hvs.length;have hv':AVals G W1 β1 (AV.mref σ.nx::caps) (.func (.yield l) #[] #[]::vs):=by
  simp only[AVals]
  refine⟨_,vs,rfl,?_,(hvs.beta b1 hlc).keep ⟨fun _ h=>h,fun b hb=>?_⟩⟩
  ·simp only[AVal]; exact⟨b2.symm,rfl⟩
  ·have hb':=hc.lt b hb;rw[← hW1,zBv _ _ (by rw[World.size_alloc]; omega),zBv _ _ hb']
 have hheld:h.held ⟨fun t=>(AV.mref σ.nx::caps).getD t .junk,σ.hp,σ.nx+1⟩ { tmps:=(Value.func (.yield l) #[] #[]::vs).toArray++Array.replicate (ifn.ntmps - (vs.length+1)) undef,defers:=[] } W1:=by
  rw[hh]
  refine⟨G,β1,hc2,?_,hL1,hDD,fun q=>?_,fun q=>?_,Nat.le_refl _,b2⟩
  ·refine hc2.re (c2:={ c with N:=ifn.ntmps }) (fun _ _=>rfl) (fun _ _=>rfl) (Nat.le_refl _) hds.symm (by simp; omega) (fun t=>?_) (fun t=>?_) hc2.own_mine hc2.sub hc2.new hc2.fr hc2.stay
   ·have:=zKJ (N:=ifn.ntmps) hv' t;rw[show(Value.func (.yield l) #[] #[]::vs).toArray.size=vs.length+1 by simp]at this;exact this
   ·exact zNt (n:=σ.nx+1) (xs:=AV.mref σ.nx::caps) (by
     simp only[AV.ltAll,Bool.and_eq_true]
     exact⟨by simp[AV.lt],AV.ltAll_mono (Nat.le_succ _) hlc⟩) t
  ·have:=hc.lt _ q; have q:l<w.heap.size:=this; omega
  ·have:=hc.lt _ q; have q:D<w.heap.size:=this; omega
 have key:=hit h ho (by rw[hh]) (by rw[hh]) (by rw[hh]) (by rw[hh]) (by rw[hh]) (by rw[hh,hrec]) (by rw[hh,hrec]) _ _ hheld;have hP:h.c.P=c.P :=(by rw[hh]);rw[hP]at key;refine callsIn_of_wp hf hb trivial ?_;have eargs:(#[Value.func (.yield l) #[] #[]]++vs.toArray)=(Value.func (.yield l) #[] #[]::vs).toArray :=(by apply Array.ext'; simp);rw[eargs,show(Value.func (.yield l) #[] #[]::vs).toArray.size=vs.length+1 by simp]
 refine wpIn_mono key ?_;rintro e a' W3 ⟨e',τ,rfl,⟨hne,hQ⟩,G3,β3,hc3,h3,h1,h2,hnl,hnD,_,_⟩
 rw[hh]at hc3 h3 h1 h2 hnl hnD;dsimp only at hc3 h3 h1 h2 hnl hnD;have fin:a'.defers=[]/\∃ v,(results ifn a'.tmps).run c.P W3 = .ok v W3/\rangePost Fence.wide 2 c.P l Φ { a with defers:=[{ target:=.collected D,args:=#[] }]++a.defers } (.returned v) W3:=by
  refine⟨h3.defers.trans hds,_,results_none hres _ _ _,?_⟩
  have hend:=run_endLoop (P:=c.P) h1 (by rw[hrec]; simp)
  rw[hrec]at hend;refine⟨none,_,hend,?_⟩
  dsimp only;have hnol:¬ ownB β3 τ.hp l:=hc3.not_own h1 rfl;have hnoD:¬ ownB β3 τ.hp D:=hc3.not_own h2 rfl;have lD:=(Array.getElem?_eq_some_iff.1 h2).1;have hc4:=hc3.poke (.loop { state:=.exhausted,pending:=none,fn:=fn,tmps:=a.tmps,params:=#[p],assign:=assign,body:=body,defers:=w.heap.size }) (by omega) hnl hnol;have hoth:(W3.putObj l (.loop { state:=.exhausted,pending:=none,fn:=fn,tmps:=a.tmps,params:=#[p],assign:=assign,body:=body,defers:=w.heap.size })).heap[D]? = W3.heap[D]?:=World.putObj_heap_other (by omega)
  generalize W3.putObj l (.loop { state:=.exhausted,pending:=none,fn:=fn,tmps:=a.tmps,params:=#[p],assign:=assign,body:=body,defers:=w.heap.size })=W4 at hc4 hoth ⊢;refine hdone D W4 (ownB β3 τ.hp) G3 G3 β3 _ τ.hp τ.nx hQ ⟨hc4.fr,hc4.own_mine,hc4.sub,hc4.new,hoth.trans h2,hnoD,hnD,hcl⟩ ?_;exact hc4.re (c2:=lcx c.P c.N c.n0 W4 (ownB β3 τ.hp) G3 c.B0 D) (fun b hb=>rfl) (fun b hb=>rfl) (Nat.le_refl _)
   (by show _::a.defers=_; rw[hc.defers,hds]; rfl) hc.size hc4.env hc4.envlt (fun b hb=>.inl hb) (fun b hb=>hb) (fun b hb=>.inl hb) (Fr.refl _ _) hc4.stay
 cases e' with
 | normal=>exact fin
 | ret=>exact fin
 | exit id=>exact absurd rfl (hne id)
def sAll:List AV->Option (List S)
 | []=>some []
 | .s x::r=>match sAll r with | some l=>some (x::l) | none=>none
 | _=>none
theorem zYG:∀ {l:List AV}{r:List S},sAll l=some r->l=r.map .s
 | [],_,h=>by cases h; rfl
 | .s x::l,r,h=>by
  simp only[sAll]at h;split at h
  ·rename_i l' hl
   cases h;rw[zYG hl]
   rfl
  ·cases h
def zQB (o:Oper):Option (Nat×Nat×Array TypeId) :=
 match o.op with
 | .call { callee:=.value (.tmp f),args:=⟨[.tmp x]⟩,argTypes:=ts }=>some (f,x,ts)
 | _=>none
theorem zWn {o:Oper}{f x:Nat}{ts:Array TypeId} (h:zQB o=some (f,x,ts)):o.op = .call { callee:=.value (.tmp f),args:=#[.tmp x],argTypes:=ts }:=by
 unfold zQB at h;split at h
 ·rename_i e
  cases h;exact e
 ·cases h
def zVR:List Oper->Option (List Oper×Oper×List Oper)
 | []=>none
 | o::os=>match zQB o with
  | some _=>some ([],o,os)
  | none=>match zVR os with
   | some (a,y,b)=>some (o::a,y,b)
   | none=>none
theorem zTJ:∀ {l a b:List Oper}{y:Oper},zVR l=some (a,y,b)->l=a++y::b
 | [],_,_,_,h=>by cases h
 | o::os,a,b,y,h=>by
  unfold zVR at h;split at h
  ·cases h; rfl
  ·split at h
   ·rename_i h1
    cases h;rw[zTJ h1]
    rfl
   ·cases h
def zVJ (T:Nat->Option TI) (F:zHh) (M:List Nat) (N:Nat) (assign body:Code) (env:Nat->AV) (p:Nat) (row:List S) (hp:Nat->Option Ob) (nx:Nat):Option (List ((Nat->Option Ob)×Nat)) :=
 match zHE T F M N 1000 assign ⟨renv env p row,hp,nx⟩ with
 | none=>none
 | some L1=>zLr L1 fun q=>match q with
  | (.normal,σ1)=>match zHE T F M N 1000 body σ1 with
   | none=>none
   | some L2=>zLr L2 fun q=>match q with
    | (.normal,σ2)=>some [(σ2.hp,σ2.nx)]
    | _=>none
  | _=>none
def xY (T:Nat->Option TI) (F:zHh) (M:List Nat) (N ky:Nat) (round:List S->(Nat->Option Ob)->Nat->Option (List ((Nat->Option Ob)×Nat))):Nat->Code->St->Option (List (Go.Abs.End×St))
 | 0,_,_=>none
 | n+1,code,σ=>match code with
  | .seq x y=>match xY T F M N ky round n x σ with
   | none=>none
   | some l=>zLr l fun p=>match p with
    | (.normal,σ1)=>xY T F M N ky round n y σ1
    | r=>some [r]
  | .region id ops drawn=>match zVR ops.toList with
   | none=>zHE T F M N 1 (.region id ops drawn) σ
   | some (pre,yo,post)=>match drawn,zEG N ops.toList with
    | false,true=>match xOps T F M [] N ops.toList pre σ with
     | none=>none
     | some L=>zLr L fun τ=>match zQB yo,yo.dst,gate ops.toList yo τ.env with
      | some (f,x,_),some d,some true=>match τ.env f,τ.env x with
       | .mref k,.agg cells=>match Nat.beq k ky,sAll cells with
        | true,some row=>match round row τ.hp τ.nx with
         | none=>none
         | some R=>zLr R fun q=>match xOps T F M [] N ops.toList post ((⟨τ.env,q.1,q.2⟩:St).put (some d) (.s (.bool true))) with
          | none=>none
          | some L2=>some (nrmE L2)
        | _,_=>none
       | _,_=>none
      | _,_,_=>none
    | _,_=>none
  | .cond (.tmp t) x y=>match σ.env t with
   | .s (.bool true)=>xY T F M N ky round n x σ
   | .s (.bool false)=>xY T F M N ky round n y σ
   | _=>none
  | .block id x=>match xY T F M N ky round n x σ with
   | none=>none
   | some l=>some (l.map fun p=>match p with
    | (.exit j,σ1)=>(match Nat.beq j id with | true=>(.normal,σ1) | false=>(.exit j,σ1))
    | r=>r)
  | .loop x=>match xY T F M N ky round n x σ with
   | none=>none
   | some l=>zLr l fun p=>match p with
    | (.normal,σ1)=>tidy N σ1 fun σ2=>xY T F M N ky round n (.loop x) σ2
    | r=>some [r]
  | c=>zHE T F M N 1 c σ
section
variable {h:Hd} {T:Nat->Option TI} {Γ:Nat->Option zAr} {F:zHh}
theorem zTB (hT:TOk h.c.P T) (hΓ:∀ f s,Γ f=some s->PSound h.c.P f s) (hm:h.c.P.follows .mixedOrders=true) (ht:Tells Γ F){M:List Nat}{row:List S}{hp:Nat->Option Ob}{nx:Nat}{R:List ((Nat->Option Ob)×Nat)}
  (e:zVJ T F M h.c.N h.rc.assign h.rc.body h.env h.p row hp nx=some R):zSf h row hp nx (fun hp' nx'=>(hp',nx')∈R):=fun w X G B _=>by
 unfold zVJ at e;split at e
 ·cases e
 ·rename_i L1 h1
  refine(zDV (c:=rcx h.c.P h.c.N nx h.l w X G B) hT hΓ hm ht h1 fun q hq=>?_).1;obtain⟨l',h2,h3⟩:=zDF e q hq;obtain⟨e1,σ1⟩:=q;cases e1 with
  | normal =>
   refine⟨rfl,fun w X G B _=>?_⟩
   dsimp only at h2;split at h2
   ·cases h2
   ·rename_i L2 h4
    refine(zDV (c:=rcx h.c.P h.c.N nx h.l w X G B) hT hΓ hm ht h4 fun q hq=>?_).1;obtain⟨l2,h5,h6⟩:=zDF h2 q hq;obtain⟨e2,σ2⟩:=q;cases e2 with
    | normal=>cases h5; exact⟨rfl,σ2,Le.refl _ _,h3 _ (h6 _ mem_cons_self)⟩
    | exit id=>cases h5
    | ret=>cases h5
  | exit id=>cases h2
  | ret=>cases h2
theorem zVW (ho:h.Ok) (hT:TOk h.c.P T) (hΓ:∀ f s,Γ f=some s->PSound h.c.P f s) (hm:h.c.P.follows .mixedOrders=true) (ht:Tells Γ F){M:List Nat}{round:List S->(Nat->Option Ob)->Nat->Option (List ((Nat->Option Ob)×Nat))}
  (hr:∀ row hp nx R,round row hp nx=some R->zSf h row hp nx (fun hp' nx'=>(hp',nx')∈R)):∀ {n:Nat} {code:Code} {σ:St} {L:List (End×St)} {Q:End->St->Prop},xY T F M h.N h.ky round n code σ=some L->(∀ p∈L,Q p.1 p.2) ->
  TriY h code σ Q/\∀ x,code = .loop x->zUc h x σ Q
 | 0,_,_,_,_,e,_=>by cases e
 | n+1,code,σ,L,Q,e,hq=>by
  have ih:=fun {code:Code} {σ:St} {L:List (End×St)} {Q:End->St->Prop}=>zVW ho hT hΓ hm ht hr (M:=M) (n:=n) (code:=code) (σ:=σ) (L:=L) (Q:=Q)
  have plain:∀ {code:Code},zHE T F M h.N 1 code σ=some L->TriY h code σ Q:=fun e=>yBm ho fun W X G B=>(zDV (c:=h.cx W X G B) hT hΓ hm ht e hq).1
  unfold xY at e;split at e
  ·rename_i x y
   refine⟨zZ6 ?_,fun _ h=>by cases h⟩
   split at e
   ·cases e
   ·rename_i l h1
    refine(ih h1 (Q:=yB8 h y Q) fun p hp=>?_).1;obtain⟨l',h2,h3⟩:=zDF e p hp;obtain⟨e,τ⟩:=p;cases e with
    | normal=>exact(ih h2 fun p hp=>hq p (h3 p hp)).1
    | exit id=>cases h2; exact hq _ (h3 _ mem_cons_self)
    | ret=>cases h2; exact hq _ (h3 _ mem_cons_self)
  ·rename_i id ops drawn
   refine⟨?_,fun _ h=>by cases h⟩
   split at e
   ·exact plain e
   ·rename_i pre yo post hs
    split at e
    ·rename_i hd
     split at e
     ·cases e
     ·rename_i L1 h1
      have:=zW1 ho hT hΓ (id:=id) (zTJ hs) hd (M:=M) (nm:=[]) (Q:=Q) (zHF ht h1 fun τ hτ=>?_)
      ·simpa using this
      obtain⟨l',h2,h3⟩:=zDF e τ hτ;split at h2
      ·rename_i f x ts d e1 e2 e3
       split at h2
       ·rename_i k cells e4 e5
        split at h2
        ·rename_i row e6 e7
         split at h2
         ·cases h2
         ·rename_i R e8
          obtain rfl:=Nat.eq_of_beq_eq_true e6;refine⟨f,x,d,ts,row,_,zWn e1,e2,e3,e4,by rw[e5,zYG e7],hr _ _ _ _ e8,fun hp' nx' hR=>?_⟩
          obtain⟨l2,h4,h5⟩:=zDF h2 _ hR;dsimp only at h4;split at h4
          ·cases h4
          ·rename_i L2 e9
           cases h4;exact zHF ht e9 fun τ hτ=>hq (.normal,τ) (h3 _ (h5 _ (List.mem_map.2 ⟨τ,hτ,rfl⟩)))
        ·cases h2
       ·cases h2
      ·cases h2
    ·cases e
  ·rename_i t x y
   refine⟨?_,fun _ h=>by cases h⟩
   split at e
   ·rename_i hb
    exact zTN hb (fun _=>(ih e hq).1) (fun h=>by cases h)
   ·rename_i hb
    exact zTN hb (fun h=>by cases h) (fun _=>(ih e hq).1)
   ·cases e
  ·rename_i id x
   refine⟨zW0 ?_,fun _ h=>by cases h⟩
   split at e
   ·cases e
   ·rename_i l h1
    cases e;refine(ih h1 (Q:=zPt id Q) fun p hp=>?_).1;have:=hq _ (List.mem_map.2 ⟨p,hp,rfl⟩)
    obtain⟨e,τ⟩:=p;cases e with
    | normal=>exact this
    | exit j =>
     show match Nat.beq j id with | true=>Q .normal τ | false=>Q (.exit j) τ
     dsimp only at this;cases e:Nat.beq j id with
     | true=>rw[e]at this; exact this
     | false=>rw[e]at this; exact this
    | ret=>exact this
  ·rename_i x
   have key:zUc h x σ Q:=by
    refine zU2 ?_;split at e
    ·cases e
    ·rename_i l h1
     refine(ih h1 (Q:=yAs h x Q) fun p hp=>?_).1;obtain⟨l',h2,h3⟩:=zDF e p hp;obtain⟨e,τ⟩:=p;cases e with
     | normal =>
      obtain⟨σ2,h4,h5⟩:=zOA (N:=h.N) (σ:=τ) (K:=fun σ2=>xY T F M h.N h.ky round n (.loop x) σ2)
      dsimp only at h2;rw[h5]at h2;exact zZ5 ho (fun W X G B=>h4 (h.cx W X G B)) ((ih h2 fun p hp=>hq p (h3 p hp)).2 x rfl)
     | exit id=>cases h2; exact hq _ (h3 _ mem_cons_self)
     | ret=>cases h2; exact hq _ (h3 _ mem_cons_self)
   exact⟨zYQ key,fun y hy=>by cases hy; exact key⟩
  ·rename_i hl
   exact⟨plain e,fun x hx=>(hl x hx).elim⟩
end
def xFin (T:Nat->Option TI) (rs:List ResultVar) (σ:St):Option AV :=
 match zH9 T σ rs with
 | none=>none
 | some x0=>fL fN (zAp σ.hp 500 x0.keys []).reverse fun k0=>match zH9 T (xFrz 0 k0 σ) rs with
  | none=>none
  | some x1=>match x1.pers with
   | true=>some x1
   | false=>none
variable {T:Nat->Option TI}
theorem zP8 {c:Cx} (h0:c.n0=0){rs:List ResultVar}{σ:St}{x:AV} (h:xFin T rs σ=some x):zBK c T rs (.val x) σ:=by
 unfold xFin at h;split at h
 ·cases h
 ·rw[zIx zFc]at h;split at h
  ·cases h
  ·rename_i x1 h1
   split at h
   ·rename_i h2
    cases h;unfold zBK;exact⟨_,zLT (n0:=0),h1,h2⟩
   ·cases h
def noEx:Go.Abs.End->Bool
 | .exit _=>false
 | _=>true
def xR (T:Nat->Option TI) (F:zHh) (tab:Nat->Option Fi) (M:List Nat) (N:Nat) (rs:List ResultVar):Nat->Code->St->Option AV
 | 0,_,_=>none
 | n+1,code,σ=>match code with
  | .seq (.seq x (.block _ (.rangeFunc (.tmp tg) ⟨[p]⟩ assign body))) y=>match zHE T F M N 1000 x σ with
   | some [(.normal,σ)]=>match σ.env tg with
    | .clo fid caps=>match tab fid with
     | some fi=>match fi.fn.body,fi.fn.results,Nat.ble (caps.length+1) fi.fn.ntmps,Nat.ble 1048576 fid,Nat.blt p N with
      | some icode,⟨[]⟩,true,false,true=>match xY T F fi.M fi.fn.ntmps σ.nx (zVJ T F M N assign body σ.env p) 1000 icode ⟨fun t=>(AV.mref σ.nx::caps).getD t .junk,σ.hp,σ.nx+1⟩ with
       | some [(e1,τ)]=>match noEx e1,zHE T F M N 1000 y ⟨σ.env,τ.hp,τ.nx⟩ with
        | true,some [(e2,σ2)]=>match noEx e2 with
         | true=>xFin T rs σ2
         | false=>none
        | _,_=>none
       | _=>none
      | _,_,_,_,_=>none
     | none=>none
    | _=>none
   | _=>none
  | .seq x y=>match zHE T F M N 1000 x σ with
   | some [(.normal,σ1)]=>tidy N σ1 fun σ2=>xR T F tab M N rs n y σ2
   | _=>none
  | _=>none
theorem zVV {P:Program}{T:Nat->Option TI}{Γ:Nat->Option zAr}{F:zHh} (hT:TOk P T) (hΓ:∀ f s,Γ f=some s->PSound P f s) (hm:P.follows .mixedOrders=true) (ht:Tells Γ F){tab:Nat->Option Fi}
  (htab:∀ g fi,tab g=some fi->(∀ args w,(callFunc g args).run P w = .ok (.enter g args) w)/\P.funcs[g]? = some fi.fn) {fn:Func} {M:List Nat} {w0:World} {G0:Nat->Prop}:∀ {n:Nat} {code:Code} {σ:St} {x:AV},xR T F tab M fn.ntmps fn.results.toList n code σ=some x ->
  TriX (zDp P w0 G0 fn.ntmps) code σ (bodyPostM (rF none) 2 P fn fun e W'=>∃ v G',e = .returned v/\Ext G0 G' w0 W'/\RetAt G' w0 W' (.val x) v)
 | 0,_,_,_,e=>by cases e
 | n+1,code,σ,x,e=>by
  have ih:=fun {code:Code} {σ:St} {x:AV}=>zVV hT hΓ hm ht htab (fn:=fn) (M:=M) (w0:=w0) (G0:=G0) (n:=n) (code:=code) (σ:=σ) (x:=x)
  unfold xR at e;split at e
  ·rename_i x0 bid tg p assign body y
   split at e
   ·rename_i σ1 h0
    split at e
    ·rename_i fid caps hclo
     split at e
     ·rename_i fi hfi
      obtain⟨hcall,hfn⟩:=htab _ _ hfi;split at e
      ·rename_i icode hb hres hN hfid hp
       split at e
       ·rename_i e1 τ h1
        split at e
        ·rename_i e2 σ2 hne h2
         split at e
         ·rename_i hne2
          refine zVT (zLj rfl (zDV (c:=zDp P w0 G0 fn.ntmps) hT hΓ hm ht h0 fun q hq=>?_).1)
          obtain rfl:=List.mem_singleton.1 hq;refine⟨rfl,zP3 (zU3 (c:=zDp P w0 G0 fn.ntmps) rfl rfl hcall hfn hb hres (Nat.le_of_ble_eq_true hN) hclo (Nat.le_of_ble_eq_true hp) (Q:=fun hp nx=>hp=τ.hp/\nx=τ.nx) ?_ ?_ hfid)⟩
          ·intro h ho g1 g2 g3 g4 g5 g6 g7;have hP:h.c.P=P :=(by rw[g1]; rfl);have hNn:h.c.N=fn.ntmps :=(by rw[g1]; rfl);refine(zVW ho (by rw[hP]; exact hT) (Γ:=Γ) (by rw[hP]; exact hΓ) (by rw[hP]; exact hm) ht (M:=fi.M) (round:=zVJ T F M fn.ntmps assign body σ1.env p) (fun row hp nx R e=>zTB (by rw[hP]; exact hT) (Γ:=Γ) (by rw[hP]; exact hΓ) (by rw[hP]; exact hm) ht (M:=M) (by rw[hNn,g2,g4,g6,g7]; exact e)) (n:=1000) (code:=icode) (L:=[(e1,τ)]) (by rw[g3,g5]; exact h1) fun q hq=>?_).1;obtain rfl:=List.mem_singleton.1 hq;exact⟨fun id h=>(by rw[show e1 = .exit id from h]at hne; cases hne),rfl,rfl⟩
          ·rintro D w2 X G2 G' β' a2 hp' nx' ⟨rfl,rfl⟩ hsw hc;show y.wpIn _ _ _ _ a2 w2;refine zSR (c:=zDp P w0 G0 fn.ntmps) hT hsw (fun _ h=>h) rfl rfl (zDV (c:=lcx P fn.ntmps 0 w2 X G2 _ D) hT hΓ hm ht h2 fun q hq=>?_).1 G' β' a2 w2 hc;obtain rfl:=List.mem_singleton.1 hq;cases e2 with
           | exit id=>cases hne2
           | normal=>exact zP8 rfl e
           | ret=>exact zP8 rfl e
         ·cases e
        ·cases e
       ·cases e
      ·cases e
     ·cases e
    ·cases e
   ·cases e
  ·rename_i y' y hy
   split at e
   ·rename_i σ1 h1
    obtain⟨σ2,h4,h5⟩:=zOA (N:=fn.ntmps) (σ:=σ1) (K:=fun σ2=>xR T F tab M fn.ntmps fn.results.toList n y σ2)
    rw[h5]at e;refine zLj rfl (zDV (c:=zDp P w0 G0 fn.ntmps) hT hΓ hm ht h1 fun q hq=>?_).1;obtain rfl:=List.mem_singleton.1 hq;refine⟨rfl,fun G β a w hc=>?_⟩
    have:=h4 (zDp P w0 G0 fn.ntmps)
    unfold Le at this;obtain⟨G',β',hc'⟩:=this G β a w hc;exact ih e G' β' a w hc'
   ·cases e
  ·cases e
def zXs (T:Nat->Option TI) (F:zHh) (tab:Nat->Option Fi) (g:Nat) (xs:List AV) (os:List Ob):Option (AV×List (Option Ob)) :=
 match os,tab g with
 | [],some fi=>match Nat.ble xs.length fi.fn.ntmps,AV.persAll xs,fi.fn.body with
  | true,true,some code=>match xR T F tab fi.M fi.fn.ntmps fi.fn.results.toList 1000 code (start xs) with
   | some x=>some (x,[])
   | none=>none
  | _,_,_=>none
 | _,_=>none
theorem zUk {P:Program}{Γ:Nat->Option zAr}{F:zHh} (hT:TOk P T) (hΓ:∀ f s,Γ f=some s->PSound P f s) (hm:P.follows .mixedOrders=true) (ht:Tells Γ F){tab:Nat->Option Fi}
  (htab:∀ g fi,tab g=some fi->(∀ args w,(callFunc g args).run P w = .ok (.enter g args) w)/\P.funcs[g]? = some fi.fn) {g:Nat} {fi:Fi} (hg:tab g=some fi):PSound P g (zBl fun xs os x os'=>zXs T F tab g xs os=some (x,os')):=by
 obtain⟨hcall,hfn⟩:=htab _ _ hg;cases hb:fi.fn.body with
 | none =>
  refine(zHW hcall (fun xs os x os' h=>?_) none).tell;unfold zXs at h;split at h
  ·rename_i fi' e1
   rw[hg]at e1;cases e1;split at h
   ·rename_i q3
    rw[hb]at q3;cases q3
   ·cases h
  ·cases h
 | some code =>
  let R:List AV->Ret->Prop:=fun xs r=>∃ x,r = .val x/\xs.length<=fi.fn.ntmps/\xR T F tab fi.M fi.fn.ntmps fi.fn.results.toList 1000 code (start xs)=some x
  have key:PSound P g (zAu R):=by
   refine zYk hcall hfn hb (fun xs r h=>?_) fi.fn.ntmps rfl (fun xs r w0 G0 h hp=>?_)
   ·obtain⟨_,_,h,_⟩:=h;exact h
   ·obtain⟨x,rfl,_,h⟩:=h;exact zVV hT hΓ hm ht htab h
  refine PSound.extO (h:=zXs T F tab g) key.toOwn fun xs os x os' e=>?_
  unfold zXs at e;rw[hg]at e;split at e
  ·rename_i fi' e1
   cases e1;split at e
   ·rename_i code' q1 q2 q3
    rw[hb]at q3;cases q3;split at e
    ·rename_i y hy
     cases e;exact⟨q2,⟨_,rfl,Nat.le_of_ble_eq_true q1,hy⟩,rfl,rfl⟩
    ·cases e
   ·cases e
  ·cases e
variable {D f off:Nat}{P:Program}
theorem yAE {n:Nat}
  (hwalk:∀ (b:Nat) (w:World) (cur:Array Value),w.heap[b]? = some (.cells cur D (0,0))->cur.size=n->(cur[off]? = some (.pointer none)∨cur[off]? = some (.pointer (some ⟨b,off,none⟩))) ->
   Calls P f #[.pointer (some ⟨b,off,none⟩)] w fun e w'=>e = .returned (.tuple #[])/\Wrote b off (.pointer (some ⟨b,off,none⟩)) cur D w w') :
  zMR P f fun xs os x os'=>∃ cells p r,xs=[.op 0 off]/\os = .box D cells::r/\cells.length=n/\cells[off]? = some p/\(p = .s .np∨p = .op 0 off)/\x = .tup []/\os'=some (.box D (cells.set off (.op 0 off)))::r.map some:=by
 rintro G w β xs vs os x os' hlt hgl hv hxl hobs ⟨cells,p,r,rfl,rfl,hn,hoff,hp,rfl,rfl⟩
 obtain⟨hob0,hl0⟩:=hobs.1 0 (.box D cells) rfl;obtain⟨b,e',cur,h1,h2,h3,h4,h5,h6,rfl⟩:=hob0;simp only[AVals,AVal]at hv;obtain⟨v,vs',rfl,⟨b',hb',rfl⟩,rfl⟩:=hv;have hbb:b'=b :=(by rw[h1]at hb'; simpa using hb'.symm);subst hbb;have hsz:cur.size=cells.length :=(by simpa using h5.length);have hin:off<cur.size :=(by rw[hsz]; exact(List.getElem?_eq_some_iff.1 hoff).1);have hcur:cur[off]? = some (.pointer none)∨cur[off]? = some (.pointer (some ⟨b',off,none⟩)):=by
  obtain⟨u,hu,hr⟩:=h5.get hoff;rw[Array.getElem?_toList]at hu;rw[hu]
  rcases hp with rfl | rfl
  ·simp only[AVal,Rep]at hr;exact .inl (by rw[hr])
  ·simp only[AVal]at hr;obtain⟨b2,hb2,hv2⟩:=hr;rw[h1]at hb2; cases hb2
   exact .inr (by rw[hv2])
 refine(hwalk b' w cur h2 (hsz.trans hn) hcur).mono fun e2 w' ⟨he,hw⟩=>?_
 have hk:Keep G G w w':=zXP h3 hw.old;have hX:(zE7 P w β (Ob.box e' cells::r).length G 0).X b':=⟨0,Nat.succ_pos _,by rw[h1]; rfl⟩
 have hpp:AVals G w' β (cells.set off (.op 0 off)) (cur.setIfInBounds off (.pointer (some ⟨b',off,none⟩))).toList:=by
  refine AVals.mk (by simp[hsz]) fun i x v hx hv=>?_
  rw[Array.getElem?_toList,Array.getElem?_setIfInBounds]at hv;rw[List.getElem?_set]at hx;split at hx
  ·rename_i hi
   subst hi;split at hx
   ·cases hx;rw[if_pos rfl,if_pos hin]at hv;cases hv;simp only[AVal]
    exact⟨b',h1,rfl⟩
   ·cases hx
  ·rename_i hi
   rw[if_neg hi]at hv;obtain⟨u,hu,hr⟩:=h5.get hx;rw[Array.getElem?_toList,hv]at hu; cases hu
   exact hr.keep hk
 have hone:∀ u∈(cur.setIfInBounds off (.pointer (some ⟨b',off,none⟩))).toList,u.oneCell'=true:=fun u hu=>by
  obtain⟨i,hi⟩:=List.getElem?_of_mem hu;rw[Array.getElem?_toList,Array.getElem?_setIfInBounds]at hi;split at hi
  ·first | (cases hi; rfl) | (split at hi <;> first | (cases hi; rfl) | cases hi)
  ·exact h6 u (mem_of_getElem? (by rw[Array.getElem?_toList]; exact hi))
 have hltc:∀ {m:Nat},0<m->AV.ltAll m cells=true->AV.ltAll m (cells.set off (.op 0 off))=true:=fun hm hl=>by
  refine zCD fun q y hq=>?_
  rw[List.getElem?_set]at hq;split at hq
  ·split at hq
   ·cases hq; simpa [AV.lt] using hm
   ·cases hq
  ·exact zBd hl hq
 have len:(some (Ob.box e' (cells.set off (.op 0 off)))::r.map some).length=(Ob.box e' cells::r).length :=(by simp);have was:∀ (i:Nat) ob,(some (Ob.box e' (cells.set off (.op 0 off)))::r.map some)[i]? = some (some ob)->∃ ob0,((Ob.box e' cells::r).map some)[i]? = some (some ob0):=fun i ob h=>by
  cases i with
  | zero=>exact⟨_,rfl⟩
  | succ i=>exact⟨ob,by simpa using h⟩
 refine⟨.tuple #[],G,β,he,⟨hw.os,hw.tape,hw.output,by rw[hw.size]; exact Nat.le_refl _,fun i hi hx=>hw.old i fun e=>hx (e ▸ hX)⟩,fun _ h=>h,fun _ h=>.inl h,fun i hi=>by rw[hw.size]; exact hlt i hi,
  by simp only[AVal,AVals]; exact⟨[],rfl,rfl⟩,rfl,by rw[len]; exact Nat.le_refl _,⟨fun i ob hi=>?_,fun i j ob ob' hi hj hne=>?_⟩,fun i ob hi ho=>rfl⟩
 ·rw[len]
  cases i with
  | zero =>
   cases hi;refine⟨⟨b',_,_,h1,hw.new,h3,h4,hpp,hone,rfl⟩,?_⟩
   rw[length_map]at hl0;exact hltc (by simp) (by simpa [Ob.lt] using hl0)
  | succ i =>
   have hi':((Ob.box e' cells::r).map some)[i+1]? = some (some ob) :=(by simpa using hi);obtain⟨q1,q2⟩:=hobs.1 (i+1) ob hi';rw[length_map]at q2;exact⟨q1.turn hk (fun b hb=>hw.old b fun e=>hobs.2 0 (i+1) (.box e' cells) ob rfl hi' (by omega) b' (by rw[h1]; rfl) (e ▸ hb)) (fun b hb=>(row_block q1 b hb).2),q2⟩
 ·obtain⟨o1,k1⟩:=was i ob hi;obtain⟨o2,k2⟩:=was j ob' hj;exact hobs.2 i j o1 o2 k1 k2 hne
def extB (D off n:Nat) (xs:List AV) (os:List Ob):Option (AV×List (Option Ob)) :=
 match xs,os with
 | [.op 0 o],.box D' cells::r=>match Nat.beq o off,Nat.beq D' D,Nat.beq cells.length n,cells[off]? with
  | true,true,true,some (.s .np)=>some (.tup [],some (.box D (cells.set off (.op 0 off)))::r.map some)
  | true,true,true,some (.op 0 o')=>match Nat.beq o' off with
   | true=>some (.tup [],some (.box D (cells.set off (.op 0 off)))::r.map some)
   | false=>none
  | _,_,_,_=>none
 | _,_=>none
theorem zWp {n:Nat} (hcall:∀ args w,(callFunc f args).run P w = .ok (.enter f args) w)
  (hwalk:∀ (b:Nat) (w:World) (cur:Array Value),w.heap[b]? = some (.cells cur D (0,0))->cur.size=n->(cur[off]? = some (.pointer none)∨cur[off]? = some (.pointer (some ⟨b,off,none⟩))) ->
   Calls P f #[.pointer (some ⟨b,off,none⟩)] w fun e w'=>e = .returned (.tuple #[])/\Wrote b off (.pointer (some ⟨b,off,none⟩)) cur D w w'):PSound P f (zBl fun xs os x os'=>extB D off n xs os=some (x,os')):=by
 refine PSound.extO (h:=extB D off n) (PSound.ofOwn hcall (yAE hwalk)) fun xs os x os' h=>?_
 unfold extB at h;split at h
 ·split at h
  ·rename_i e1 e2 e3 e4
   obtain rfl:=Nat.eq_of_beq_eq_true e1;obtain rfl:=Nat.eq_of_beq_eq_true e2;cases h;exact⟨_,_,_,rfl,rfl,Nat.eq_of_beq_eq_true e3,e4,.inl rfl,rfl,rfl⟩
  ·rename_i e1 e2 e3 e4
   split at h
   ·rename_i e5
    obtain rfl:=Nat.eq_of_beq_eq_true e1;obtain rfl:=Nat.eq_of_beq_eq_true e2;obtain rfl:=Nat.eq_of_beq_eq_true e5;cases h;exact⟨_,_,_,rfl,rfl,Nat.eq_of_beq_eq_true e3,e4,.inr rfl,rfl,rfl⟩
   ·cases h
  ·cases h
 ·cases h
def extS (D e:Nat) (xs:List AV) (os:List Ob):Option (AV×List (Option Ob)) :=
 match xs,os with
 | [.op 0 0],[.box D' [.op 0 0,.orow 1],.row e' 1 rows]=>match Nat.beq D' D,Nat.beq e' e,zZP rows,Nat.ble rows.length 4294967296,rows with
  | true,true,true,true,_::_=>some (.s (.str (rows.map zJG)),[some (.box D [.op 0 0,.junk]),none])
  | _,_,_,_,_=>none
 | _,_=>none
theorem zWq {e:Nat} (hcall:∀ args w,(callFunc f args).run P w = .ok (.enter f args) w)
  (hwalk:∀ (b g cap:Nat) (l:List UInt8) (w:World) (cur:Array Value) (mk:Nat×Nat),l ≠ []->w.cell? ⟨b,0+1,none⟩=some (.slice (some ⟨g,0,none⟩) l.length cap)->w.heap[g]? = some (.cells cur e mk)->cur.size=cap * 1->l.length<=cap->l.length<=9223372036854775807 ->
   (∀ (j:Nat) x,l[j]? = some x->cur[j]? = some (.int .u8 x.toNat)) ->
   Calls P f #[.pointer (some ⟨b,0,none⟩)] w fun e w'=>e = .returned (.string ⟨l.toArray⟩)/\w'=w.drew.freeze ⟨g,0,none⟩ l.length):PSound P f (zBl fun xs os x os'=>extS D e xs os=some (x,os')):=by
 refine PSound.extO (h:=extS D e) (PSound.ofOwn hcall (zUi (D:=D) (cells:=[.op 0 0,.orow 1]) rfl rfl rfl (fun i x h h1 h2=>by
  match i,h with
  | 0,_=>exact absurd rfl h1
  | 1,_=>exact absurd rfl h2
  | i+2,h=>simp at h) hwalk)) fun xs os x os' h=>?_
 unfold extS at h;split at h
 ·split at h
  ·rename_i e1 e2 e3 e4
   obtain rfl:=Nat.eq_of_beq_eq_true e1;obtain rfl:=Nat.eq_of_beq_eq_true e2;have e4:=Nat.le_of_ble_eq_true e4;cases h;refine⟨_,by simp,by rw[length_map]; omega,rfl,?_,rfl,rfl⟩
   rw[← zOo e3]
  ·cases h
 ·cases h
def known (xs0:List AV) (x0:AV) (xs:List AV) (os:List Ob):Option (AV×List (Option Ob)) :=
 match os,AV.eqbs xs xs0 with
 | [],true=>some (x0,[])
 | _,_=>none
def zRB (F:List AV->List Ob->Option (AV×List (Option Ob))) (xs0:List AV) (x0:AV):Bool:=match F xs0 [] with | some (x,[])=>AV.eqb x x0 | _=>false
variable {x0:AV}{xs0:List AV}{F:List AV->List Ob->Option (AV×List (Option Ob))}
theorem zVL  (h:zRB F xs0 x0=true):F xs0 []=some (x0,[]):=by
 unfold zRB at h;split at h
 ·rename_i e
  rw[e,AV.eqb_eq _ h]
 ·cases h
theorem zVp {g:Nat} (h:zRB F xs0 x0=true) (hF:PSound P g (zBl fun xs os x os'=>F xs os=some (x,os'))) :
  PSound P g (zBl fun xs os x os'=>known xs0 x0 xs os=some (x,os')):=PSound.extO (h:=known xs0 x0) hF.untell fun xs os x os' e=>by
 unfold known at e;split at e
 ·rename_i hx
  cases e;rw[AV.eqbs_eq _ hx]
  exact zVL h
 ·cases e
theorem zUr {g:Nat} (h:zRB F xs0 x0=true) (hx:x0.pers=true){R:List AV->Ret->Prop} (hR:∀ xs r,R xs r->xs=xs0/\r = .val x0) (hF:PSound P g (zBl fun xs os x os'=>F xs os=some (x,os'))) :
  PSound P g (zAu R) :=
 ⟨hF.1,fun G w xs vs r hlt hgl hp hv hs=>by
  obtain⟨rfl,rfl⟩:=hR _ _ hs;refine(hF.2.2.1 _ rfl G w (fun _=>.tuple #[]) xs vs [] x0 [] hlt hgl hv (AV.persAll_lt hp) ⟨fun i ob hi=>by simp at hi,fun i j ob ob' hi=>by simp at hi⟩ (zVL h)).mono fun e w' ⟨v,G',β',he,hfr,hs,hn,hl,hx',_⟩ =>
   ⟨v,G',he,⟨hfr.os,hfr.tape,hfr.output,hfr.size,fun b hb=>hfr.old b hb fun⟨i,hi,_⟩=>absurd hi (Nat.not_lt_zero _),hs,fun b hb=>(hn b hb).imp id fun h=>h.elim (fun⟨i,hi,_⟩=>absurd hi (Nat.not_lt_zero _)) id,hl⟩,?_⟩
  unfold RetAt;exact⟨hx,AVal.pers hx hx'⟩,fun R hR=>(by cases hR),fun R hR=>(by cases hR)⟩
end Go.Abs
namespace Go.Proofs.YtbfnjnljboncgaaGreat
open Go.Abs
noncomputable def xTab:List (Nat×Fi):=[(5,⟨Tryz.f5,[1]⟩),(17,⟨Tryz.f17,[4,7,9]⟩),(22,⟨f22,[1,4]⟩),(41,⟨f41,[6,8]⟩),(27,⟨f27,[1,6]⟩),(46,⟨f46,[1,2]⟩),(47,⟨f47,[1,4]⟩),(69,⟨f69,[2,3,4,6,10,22]⟩),(70,⟨f70,[15,17]⟩),(71,⟨f71,[3,4,5,7,73]⟩),(72,⟨f72,[2]⟩),(73,⟨f73,[2]⟩),(49,⟨f49,[0]⟩),(50,⟨f50,[]⟩),(76,⟨f76,[3,4,5,7,22]⟩),(77,⟨f77,[1,3]⟩),(78,⟨f78,[5]⟩),(40,⟨f40,[]⟩),(123,⟨f123,[0,1]⟩),(124,⟨f124,[1]⟩),(125,⟨f125,[3]⟩),(126,⟨f126,[3,5]⟩),(127,⟨f127,[3,4,7,38]⟩),(128,⟨f128,[3]⟩),(129,⟨f129,[2]⟩),(130,⟨f130,[5]⟩),(131,⟨f131,[3,6,7,9]⟩),(79,⟨f79,[]⟩),(80,⟨f80,[]⟩),(81,⟨f81,[]⟩),(82,⟨f82,[]⟩),(83,⟨f83,[]⟩),(84,⟨f84,[]⟩),(85,⟨f85,[]⟩),(136,⟨f136,[1,2,3,4]⟩),(137,⟨f137,[8]⟩),(138,⟨f138,[14]⟩),(139,⟨f139,[]⟩),(140,⟨f140,[14]⟩),(168,⟨f168,[]⟩),(169,⟨f169,[3]⟩),(172,⟨f172,[4,7,8,9,26]⟩),(173,⟨f173,[5,7]⟩),(174,⟨f174,[11]⟩),(175,⟨f175,[4]⟩),(176,⟨f176,[3,6,9]⟩),(177,⟨f177,[4,6]⟩),(141,⟨f141,[]⟩),(142,⟨f142,[]⟩),(143,⟨f143,[]⟩),(144,⟨f144,[]⟩),(145,⟨f145,[]⟩),(146,⟨f146,[]⟩),(187,⟨f187,[]⟩),(188,⟨f188,[4,5,7,21]⟩),(189,⟨f189,[1,2,3,5,25,42]⟩),(190,⟨f190,[1]⟩),(191,⟨f191,[]⟩),(192,⟨f192,[]⟩),(193,⟨f193,[3]⟩),(194,⟨f194,[]⟩),(170,⟨f170,[]⟩),(171,⟨f171,[2]⟩),(214,⟨f214,[2,3,6,8]⟩),(215,⟨f215,[4]⟩),(216,⟨f216,[3,5]⟩),(195,⟨f195,[]⟩),(196,⟨f196,[]⟩),(197,⟨f197,[]⟩),(222,⟨f222,[]⟩),(223,⟨f223,[]⟩),(224,⟨f224,[]⟩),(225,⟨f225,[]⟩),(226,⟨f226,[2]⟩),(208,⟨f208,[]⟩),(209,⟨f209,[2]⟩),(210,⟨f210,[10]⟩),(211,⟨f211,[2,4]⟩),(212,⟨f212,[2]⟩),(213,⟨f213,[6]⟩),(231,⟨f231,[7]⟩),(232,⟨f232,[7]⟩),(233,⟨f233,[4,7,10,12,13,14,53]⟩),(228,⟨f228,[]⟩),(235,⟨f235,[]⟩),(239,⟨f239,[5,7]⟩),(240,⟨f240,[6,8]⟩),(241,⟨f241,[1,3]⟩),(237,⟨f237,[]⟩),(238,⟨f238,[]⟩),(28,⟨f28,[1,2,3,35,60]⟩),(244,⟨f244,[2,4,7,8]⟩),(245,⟨f245,[4,5,50]⟩),(246,⟨f246,[]⟩),(243,⟨f243,[]⟩),(247,⟨f247,[2,6,15]⟩),(248,⟨f248,[5,10,12,35,66,72]⟩),(249,⟨f249,[6,7,93]⟩),(250,⟨f250,[]⟩),(113,⟨f113,[3,17]⟩)]
noncomputable def yCc (p:Nat×Fi):Prop:=(∀ args w,(callFunc p.1 args).run prog w = .ok (.enter p.1 args) w)/\prog.funcs[p.1]? = some p.2.fn
theorem yBs:∀ p∈xTab,yCc p:=by
 unfold xTab;simp only[forall_mem_cons]
 exact⟨⟨call5,func5⟩,⟨call17,func17⟩,⟨call22,func22⟩,⟨call41,func41⟩,⟨call27,func27⟩,⟨call46,func46⟩,⟨call47,func47⟩,⟨call69,func69⟩,⟨call70,func70⟩,⟨call71,func71⟩,⟨call72,func72⟩,⟨call73,func73⟩,⟨call49,func49⟩,⟨call50,func50⟩,⟨call76,func76⟩,⟨call77,func77⟩,⟨call78,func78⟩,⟨call40,func40⟩,⟨call123,func123⟩,⟨call124,func124⟩,⟨call125,func125⟩,⟨call126,func126⟩,⟨call127,func127⟩,⟨call128,func128⟩,⟨call129,func129⟩,⟨call130,func130⟩,⟨call131,func131⟩,⟨call79,func79⟩,⟨call80,func80⟩,⟨call81,func81⟩,⟨call82,func82⟩,⟨call83,func83⟩,⟨call84,func84⟩,⟨call85,func85⟩,⟨call136,func136⟩,⟨call137,func137⟩,⟨call138,func138⟩,⟨call139,func139⟩,⟨call140,func140⟩,⟨call168,func168⟩,⟨call169,func169⟩,⟨call172,func172⟩,⟨call173,func173⟩,⟨call174,func174⟩,⟨call175,func175⟩,⟨call176,func176⟩,⟨call177,func177⟩,⟨call141,func141⟩,⟨call142,func142⟩,⟨call143,func143⟩,⟨call144,func144⟩,⟨call145,func145⟩,⟨call146,func146⟩,⟨call187,func187⟩,⟨call188,func188⟩,⟨call189,func189⟩,⟨call190,func190⟩,⟨call191,func191⟩,⟨call192,func192⟩,⟨call193,func193⟩,⟨call194,func194⟩,⟨call170,func170⟩,⟨call171,func171⟩,⟨call214,func214⟩,⟨call215,func215⟩,⟨call216,func216⟩,⟨call195,func195⟩,⟨call196,func196⟩,⟨call197,func197⟩,⟨call222,func222⟩,⟨call223,func223⟩,⟨call224,func224⟩,⟨call225,func225⟩,⟨call226,func226⟩,⟨call208,func208⟩,⟨call209,func209⟩,⟨call210,func210⟩,⟨call211,func211⟩,⟨call212,func212⟩,⟨call213,func213⟩,⟨call231,func231⟩,⟨call232,func232⟩,⟨call233,func233⟩,⟨call228,func228⟩,⟨call235,func235⟩,⟨call239,func239⟩,⟨call240,func240⟩,⟨call241,func241⟩,⟨call237,func237⟩,⟨call238,func238⟩,⟨call28,func28⟩,⟨call244,func244⟩,⟨call245,func245⟩,⟨call246,func246⟩,⟨call243,func243⟩,⟨call247,func247⟩,⟨call248,func248⟩,⟨call249,func249⟩,⟨call250,func250⟩,⟨call113,func113⟩,by simp⟩
noncomputable def xFn (g:Nat):Option Fi:=look? g xTab
theorem zVU:∀ g fi,xFn g=some fi->(∀ args w,(callFunc g args).run prog w = .ok (.enter g args) w)/\prog.funcs[g]? = some fi.fn:=zAn (Q:=fun(g:Nat) (fi:Fi)=>(∀ args w,(callFunc g args).run prog w = .ok (.enter g args) w)/\prog.funcs[g]? = some fi.fn) yBs
def zXN (xs:List AV):Option AV :=
 match xs with
 | [.s (.str a),.s (.str [c])]=>some (.s (.int .i64 (Lib.indexByte a c)))
 | _=>none
def extI (xs:List AV) (os:List Ob):Option (AV×List (Option Ob)):=match os,zXN xs with | [],some y=>some (y,[]) | _,_=>none
theorem yAV:PSound Tryz.prog 228 (zBl fun xs os x os'=>extI xs os=some (x,os')) :=
 PSound.extP (h:=zXN) zF0 fun xs x h=>by
  unfold zXN at h;split at h
  ·rename_i a c
   cases h;exact⟨rfl,a,[c],_,by simp only[zDi,req,length_singleton,↓reduceIte]; rfl,rfl,rfl⟩
  ·cases h
theorem yAU:PSound Tryz.prog 194 (zBl fun xs os x os'=>extB 89 0 2 xs os=some (x,os')) :=
 zWp Tryz.call194 fun b w cur h hs hc=>hc.elim
  (fun hc=>(Tryz.bld_check_fresh b 0 89 2 w (by simp[World.cell?,h,hc]) (by simp[World.shape?,h,hs]) (by decide) (by kernel_rfl) (by simp[World.frozen?,h])).mono fun e w' ⟨h1,h2⟩=>⟨h1,by subst h2; exact Wrote.cell h⟩)
  (fun hc=>(Tryz.bld_check_used b 0 w (by simp[World.cell?,h,hc])).mono fun e w' ⟨h1,h2⟩=>⟨h1,by subst h2; exact Wrote.same h hc⟩)
theorem yAW:PSound Tryz.prog 40 (zBl fun xs os x os'=>extS 89 5 xs os=some (x,os')) :=
 zWq Tryz.call40 fun b g cap l w cur mk=>Tryz.bld_String b 0 g cap l w cur mk
abbrev ExtF:=List AV->List Ob->Option (AV×List (Option Ob))
def eL:List (Nat×ExtF):=[(228,extI),(194,extB 89 0 2),(40,extS 89 5)]
def e0 (g:Nat):Option ExtF:=look? g eL
theorem yAR:∀ p∈eL,PSound Tryz.prog p.1 (zBl fun xs os x os'=>p.2 xs os=some (x,os')):=by
 simp only[eL,forall_mem_cons]
 exact⟨yAV,yAU,yAW,by simp⟩
theorem yBL:∀ g h,look? g eL=some h->PSound Tryz.prog g (zBl fun xs os x os'=>h xs os=some (x,os')):=zAn (Q:=fun(g:Nat) (h:ExtF)=>PSound Tryz.prog g (zBl fun xs os x os'=>h xs os=some (x,os'))) yAR
def zYY:AV:=.s (.str [92,102,114,97,99,49,32,50])
def xTok:AV:=.tup [.s (.sl 4 [[.int .i64 4,.str [102,114,97,99],.int .i64 0,.int .i64 5],[.int .i64 2,.str [49],.int .i64 5,.int .i64 6],[.int .i64 2,.str [50],.int .i64 7,.int .i64 8]]),.s (.int .i64 0),.s (.int .i64 0)]
def yAd:AV:=.agg [.s (.int .i64 1),.s (.str []),.s (.int .i64 0),.s (.sl 4 [[.int .i64 5,.str [],.int .i64 0,.sl 4 [[.int .i64 1,.str [],.int .i64 0,.sl 4 [[.int .i64 3,.str [49],.int .i64 0,.sl 4 []]]],[.int .i64 1,.str [],.int .i64 0,.sl 4 [[.int .i64 3,.str [50],.int .i64 0,.sl 4 []]]]]]])]
def yCb:AV:=.tup [.s (.str [60,109,97,116,104,62,60,109,102,114,97,99,62,60,109,114,111,119,62,60,109,110,62,49,60,47,109,110,62,60,47,109,114,111,119,62,60,109,114,111,119,62,60,109,110,62,50,60,47,109,110,62,60,47,109,114,111,119,62,60,47,109,102,114,97,99,62,60,47,109,97,116,104,62]),.s (.int .i64 0)]
theorem yBk:zRB (zXs TW (zH3 TW e0 xFn 100) xFn 69) [zYY] xTok=true:=by decide +kernel
theorem yB9:PSound Tryz.prog 69 (zBl fun xs os x os'=>known [zYY] xTok xs os=some (x,os')):=by
 obtain⟨Γ,h1,h2⟩:=zNz (zHM (P:=Tryz.prog) tokW mixed (ext:=e0) (tab:=xFn) yBL zVU 100)
 exact zVp yBk (zUk tokW h1 mixed h2 zVU (fi:=(xFn 69).get rfl) (Option.some_get _).symm)
theorem yAu {l:List (Nat×ExtF)} (hl:∀ p∈l,PSound Tryz.prog p.1 (zBl fun xs os x os'=>p.2 xs os=some (x,os'))){g:Nat} (hg:xFn g ≠ none){xs0:List AV}{x0:AV} (h:zRB (zH3 TW (fun g=>look? g l) xFn 100 g) xs0 x0=true) :
  PSound Tryz.prog g (zBl fun xs os x os'=>known xs0 x0 xs os=some (x,os')) :=
 zVp h (zHM tokW mixed (zAn (Q:=fun(g:Nat) (h:ExtF)=>PSound Tryz.prog g (zBl fun xs os x os'=>h xs os=some (x,os'))) hl) zVU 100 g (.inr hg))
def e1L:List (Nat×ExtF):=(69,known [zYY] xTok)::eL
theorem yCg:∀ p∈e1L,PSound Tryz.prog p.1 (zBl fun xs os x os'=>p.2 xs os=some (x,os')):=List.forall_mem_cons.2 ⟨yB9,yAR⟩
theorem zYe:zRB (zH3 TW (fun g=>look? g e1L) xFn 100 17) [zYY,.s .np] (.tup [yAd,.s (.int .i64 0),.s (.int .i64 0)])=true:=by decide +kernel
theorem zWo:zRB (zH3 TW (fun g=>look? g eL) xFn 100 22) [yAd] yCb=true:=by decide +kernel
def e2L:List (Nat×ExtF):=[(17,known [zYY,.s .np] (.tup [yAd,.s (.int .i64 0),.s (.int .i64 0)])),(22,known [yAd] yCb)]
theorem yCh:∀ p∈e2L,PSound Tryz.prog p.1 (zBl fun xs os x os'=>p.2 xs os=some (x,os')):=by
 simp only[e2L,forall_mem_cons]
 exact⟨yAu yCg (by decide) zYe,yAu yAR (by decide) zWo,by simp⟩
theorem zXr:zRB (zH3 TW (fun g=>look? g e2L) xFn 100 5) [] (.s (.bool true))=true:=by decide +kernel
def zQq (xs:List AV) (r:Ret):Prop:=∃ (y0:Bool),zF3=some y0/\xs=[]/\r = .val (.s (.bool y0))
def zKG:zAr:=zAu fun xs r=>zQq xs r
theorem zO6:PSound Tryz.prog 5 zKG :=
 zUr zXr rfl (fun xs r ⟨y,hy,h1,h2⟩=>(by cases hy; exact⟨h1,h2⟩)) (zHM tokW mixed (zAn (Q:=fun(g:Nat) (h:ExtF)=>PSound Tryz.prog g (zBl fun xs os x os'=>h xs os=some (x,os'))) yCh) zVU 100 _ (.inr (by decide)))
end Go.Proofs.YtbfnjnljboncgaaGreat
