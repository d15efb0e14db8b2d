/-
  Joined out of: LibS, RfA, LibT, LibI, LibB, LibD, LibF, AbsY, LibO, MEd, MEh, MEe, MEi, MMg, MDe, MDf, MCo, MTd, DtVA.
-/
import Derived.Lib.Strings
import Derived.Lib.Slices
import Derived.Lib.Walk
import Derived.Lib.Bytealg
import Derived.RangeFuncNested
import Derived.RangeFuncLeaves
import Derived.RangeFuncRecord
import Derived.Lib.Builder
import Derived.Lib.UnsafeStr
import Derived.Laws.Externs
import Derived.Shelf.RegionOpenPlain
import Derived.Shelf.LaysM
import Derived.Shelf.Strconv.Itoa3
import Derived.Ground.Names2Prog
import Derived.Ground.SlgnProg
import Derived.Test.YtbfnjnljboncgaaGreatDoorProg
import Derived.Lib.AppendStr
import Derived.Test.YtbfnjnljboncgaaGreatDoorZc
set_option linter.unusedVariables false
set_option linter.unusedSimpArgs false
set_option maxHeartbeats 2000000
set_option maxRecDepth 100000
namespace Go.Proofs
set_option maxHeartbeats 1000000 in
theorem Tryz.stringslite_IndexByte (s:ByteArray) (c:Int) (w:World) :
  Calls Tryz.prog 131 #[.string s,.int .u8 c] w fun e w'=>e = .returned (.int .i64 (Lib.indexByte s.data.toList c.toNat.toUInt8))/\w'=w:=by
 go_enter Tryz.func131,Tryz.ntmps131
 go_wp2
 rw[run_callFunc_extern Tryz.func150 (by kernel_rfl) (by kernel_rfl) (by kernel_rfl) (e:=Extern.BytealgIndexByte.indexByte) (by kernel_rfl),Lib.run_indexByteString]
 simp only[Result.andThen]
 rw[Oper.upon_value]
 go_wp2
 go_ret
 exact⟨rfl,rfl⟩
theorem Tryz.stringslite_Index_one (s:ByteArray) (c:UInt8) (w:World) :
  Calls Tryz.prog 149 #[.string s,.string ⟨#[c]⟩] w fun e w'=>e = .returned (.int .i64 (Lib.indexByte s.data.toList c))/\w'=w:=by
 go_enter Tryz.func149,Tryz.ntmps149
 go_wp2_with (go_at_call 131; refine(Tryz.stringslite_IndexByte _ _ _).mono ?_; rintro e w' ⟨rfl,rfl⟩)
 ·have h:([c] == s.toList)=true:=by assumption
  go_ret
  refine⟨?_,rfl⟩
  have e:s.data.toList=[c] :=(by rw[← Lib.toList_data]; exact(beq_iff_eq.1 h).symm);rw[e]
  simp[Lib.indexByte]
 ·go_ret
  exact⟨rfl,rfl⟩
set_option maxHeartbeats 1000000 in
theorem Tryz.strings_IndexByte (s:ByteArray) (c:Int) (w:World) :
  Calls Tryz.prog 103 #[.string s,.int .u8 c] w fun e w'=>e = .returned (.int .i64 (Lib.indexByte s.data.toList c.toNat.toUInt8))/\w'=w:=by
 go_enter Tryz.func103,Tryz.ntmps103
 go_wp2_with (go_at_call 131; refine(Tryz.stringslite_IndexByte _ _ _).mono ?_; rintro e w' ⟨rfl,rfl⟩)
 go_ret
 exact⟨rfl,rfl⟩
set_option maxHeartbeats 1000000 in
theorem Tryz.strings_Index_one (s:ByteArray) (c:UInt8) (w:World) :
  Calls Tryz.prog 129 #[.string s,.string ⟨#[c]⟩] w fun e w'=>e = .returned (.int .i64 (Lib.indexByte s.data.toList c))/\w'=w:=by
 go_enter Tryz.func129,Tryz.ntmps129
 go_wp2_with (go_at_call 149; refine(Tryz.stringslite_Index_one _ _ _).mono ?_; rintro e w' ⟨rfl,rfl⟩)
 go_ret
 exact⟨rfl,rfl⟩
set_option maxHeartbeats 1000000 in
theorem Tryz.strings_Contains_one (s:ByteArray) (c:UInt8) (w:World) :
  Calls Tryz.prog 99 #[.string s,.string ⟨#[c]⟩] w fun e w'=>e = .returned (.bool (decide (0<=Lib.indexByte s.data.toList c)))/\w'=w:=by
 go_enter Tryz.func99,Tryz.ntmps99
 go_wp2_with (go_at_call 129; refine(Tryz.strings_Index_one _ _ _).mono ?_; rintro e w' ⟨rfl,rfl⟩)
 go_ret
 exact⟨rfl,rfl⟩
end Go.Proofs
namespace Go.Proofs.YtbfnjnljboncgaaGreatDoor
open Go.Abs
theorem zKF {f:Nat}{s:List AV->Ret->Prop} (hcall:∀ args w,(callFunc f args).run Tryz.prog w = .ok (.enter f args) w)
  (h:∀ (G:Nat->Prop) (w:World) (xs:List AV) (vs:List Value) (r:Ret),AVals G w (fun _=>.tuple #[]) xs vs->s xs r->Calls Tryz.prog f vs.toArray w fun e w'=>w'=w/\∃ v,e = .returned v/\RetAt G w w r v):PSound Tryz.prog f (zAu s) :=
 ⟨hcall,fun G w xs vs r hl _ _ hv hs=>(h G w xs vs r hv hs).mono fun e w' ⟨h1,v,h2,h3⟩=>(by subst h1; exact⟨v,G,h2,Ext.refl hl,h3⟩),fun R hR=>(by cases hR),fun R hR=>(by cases hR)⟩
def zIJ (xs:List AV) (r:Ret):Prop:=∃ (a0 a1:List UInt8) (y0:Int),zCZ a0 a1=some y0/\xs=[.s (.str a0),.s (.str a1)]/\r = .val (.s (.int .i64 y0))
def zFv:zAp:=zAu fun xs r=>zIJ xs r
theorem zE9:PSound Tryz.prog 149 zFv:=zKF Tryz.call149 fun G w xs vs r hv ⟨a,p,y,h,hx,hr⟩=>by
 subst hx; subst hr
 obtain⟨hp,h⟩:=zAK h;have hy:=Option.some.inj h;subst hy;obtain⟨c,rfl⟩:∃ c,p=[c]:=by
  match p,hp with
  | [c],_=>exact⟨c,rfl⟩
 simp only[AVals,AVal,Rep]at hv;obtain⟨_,_,rfl,rfl,_,_,rfl,rfl,rfl⟩:=hv;exact(Tryz.stringslite_Index_one ⟨a.toArray⟩ c w).mono fun e w' ⟨h1,h2⟩=>⟨h2,_,h1,rfl,by simp only[AVal,Rep]; rfl⟩
def zJe (xs:List AV) (r:Ret):Prop:=∃ (a0 a1:List UInt8) (y0:Bool),zEq a0 a1=some y0/\xs=[.s (.str a0),.s (.str a1)]/\r = .val (.s (.bool y0))
def zF1:zAp:=zAu fun xs r=>zJe xs r
theorem zIZ:PSound Tryz.prog 99 zF1:=zKF Tryz.call99 fun G w xs vs r hv ⟨a,p,y,h,hx,hr⟩=>by
 subst hx; subst hr
 obtain⟨hp,h⟩:=zAK h;have hy:=Option.some.inj h;subst hy;obtain⟨c,rfl⟩:∃ c,p=[c]:=by
  match p,hp with
  | [c],_=>exact⟨c,rfl⟩
 simp only[AVals,AVal,Rep]at hv;obtain⟨_,_,rfl,rfl,_,_,rfl,rfl,rfl⟩:=hv;exact(Tryz.strings_Contains_one ⟨a.toArray⟩ c w).mono fun e w' ⟨h1,h2⟩=>⟨h2,_,h1,rfl,by simp only[AVal,Rep]; rfl⟩
def zII (xs:List AV) (r:Ret):Prop:=∃ (a0:List UInt8) (a1:Int) (y0:Int),zCY a0 a1=some y0/\xs=[.s (.str a0),.s (.int .u8 a1)]/\r = .val (.s (.int .i64 y0))
def zFu:zAp:=zAu fun xs r=>zII xs r
theorem zIn:PSound Tryz.prog 103 zFu:=zKF Tryz.call103 fun G w xs vs r hv ⟨a,c,y,h,hx,hr⟩=>by
 subst hx; subst hr
 have hy:=Option.some.inj h;subst hy;simp only[AVals,AVal,Rep]at hv;obtain⟨_,_,rfl,rfl,_,_,rfl,rfl,rfl⟩:=hv;exact(Tryz.strings_IndexByte ⟨a.toArray⟩ c w).mono fun e w' ⟨h1,h2⟩=>⟨h2,_,h1,rfl,by simp only[AVal,Rep]⟩
end Go.Proofs.YtbfnjnljboncgaaGreatDoor
namespace Go.Abs
def ownB (β:Nat->Value) (hp:Nat->Option Ob):Nat->Prop:=fun b=>∃ k ob,hp k=some ob/\blk (β k)=some b
def rcx (P:Program) (N m l:Nat) (w:World) (X G:Nat->Prop) (B:Nat->Value):Cx:={ P:=P,w0:=w,X:=X,G0:=G,N:=N,n0:=m,B0:=B,ro:=some l }
def lcx (P:Program) (N m:Nat) (w:World) (X G:Nat->Prop) (B:Nat->Value) (D:Nat):Cx:={ P:=P,w0:=w,X:=X,G0:=G,N:=N,n0:=m,B0:=B,ds:=[{ target:=.collected D,args:=#[] }] }
theorem ObAt.turn {c1 c2:Cx}{G:Nat->Prop}{w w2:World}{β:Nat->Value}{v:Value}{o:Ob} (hk:Keep G G w w2) (hb:∀ b,blk v=some b->w2.heap[b]? = w.heap[b]?) (hm:∀ b,blk v=some b->c2.mine b) (h:ObAt c1 G w β v o):ObAt c2 G w2 β v o:=by
 cases o with
 | box xs =>
  obtain⟨b,e,cur,q1,q2,q3,q4,q5,q6⟩:=h;exact⟨b,e,cur,q1,(hb b (by rw[q1]; rfl)).trans q2,q3,hm b (by rw[q1]; rfl),q5.keep hk,q6⟩
 | row e sz rows =>
  obtain⟨q1,q2,q3⟩:=h;refine⟨q1,q2,q3.imp id ?_⟩
  rintro⟨b,cap,cur,g1,g2,g3,⟨mk,hmk,g4⟩,g5,g6,g7⟩
  exact⟨b,cap,cur,g1,g2,g3,⟨mk,hmk,(hb b (by rw[g1]; rfl)).trans g4⟩,g5,hm b (by rw[g1]; rfl),fun i s hi=>let ⟨u,hu,hr⟩:=g7 i s hi; ⟨u,hu,hr.keep hk⟩⟩
 | arow e sz rows =>
  obtain⟨q1,q2,q3⟩:=h;refine⟨q1,q2,q3.imp id ?_⟩
  rintro⟨b,cap,cur,g1,g2,g3,⟨mk,hmk,g4⟩,g5,g6,g7⟩
  exact⟨b,cap,cur,g1,g2,g3,⟨mk,hmk,(hb b (by rw[g1]; rfl)).trans g4⟩,g5,hm b (by rw[g1]; rfl),fun i s hi=>let ⟨u,hu,hr,h1⟩:=g7 i s hi; ⟨u,hu,hr.keep hk,h1⟩⟩
 | any τ xs =>
  obtain⟨b,o,vs,q1,q2,q3,q4,q5,q6⟩:=h;exact⟨b,o,vs,q1,(hb b q1).trans q2,q3,hm b q1,q5.keep hk,q6⟩
def zZ4:Obj->Bool
 | .loop _ | .deferred _=>true
 | _=>false
theorem ObAt.cells {c:Cx}{G:Nat->Prop}{w:World}{β:Nat->Value}{v:Value}{o:Ob} (h:ObAt c G w β v o):∀ b,blk v=some b->∃ o,w.heap[b]? = some o/\zZ4 o=false:=fun b hb=>by
 cases o with
 | box xs =>
  obtain⟨b',e,cur,rfl,q2,_⟩:=h;cases hb; exact⟨_,q2,rfl⟩
 | row e sz rows =>
  obtain⟨_,_,h | ⟨b',cap,cur,rfl,_,_,q2,_⟩⟩:=h
  ·rw[h.1]at hb; cases hb
  ·cases hb; obtain⟨mk,_,q2⟩:=q2; exact⟨_,q2,rfl⟩
 | arow e sz rows =>
  obtain⟨_,_,h | ⟨b',cap,cur,rfl,_,_,q2,_⟩⟩:=h
  ·rw[h.1]at hb; cases hb
  ·cases hb; obtain⟨mk,_,q2⟩:=q2; exact⟨_,q2,rfl⟩
 | any τ xs =>
  obtain⟨b',o,vs,q1,q2,_,_,_,q6⟩:=h;rw[q1]at hb; cases hb
  refine⟨o,q2,?_⟩
  cases τ with
  | map keys=>obtain⟨_,rfl,_⟩:=q6; rfl
  | iter since seen stepped=>obtain⟨_,bm,_,rfl⟩:=q6; rfl
section
variable {c:Cx} {G:Nat->Prop} {β:Nat->Value} {σ:St} {a:Act} {w:World}
theorem Conc.not_own (hc:Conc c G β σ a w){l:Nat}{o:Obj} (hl:w.heap[l]? = some o) (ho:zZ4 o=true):¬ ownB β σ.hp l:=fun⟨k,ob,h1,h2⟩=>by
 obtain⟨o',h3,h4⟩:=(hc.hp k ob h1).cells l h2;rw[hl]at h3;cases h3;rw[ho]at h4; cases h4
theorem Conc.re (hc:Conc c G β σ a w){c2:Cx}{w2:World}{a2:Act}{env2:Nat->AV} (hk:∀ b,G b->w2.heap[b]? = w.heap[b]?) (ho:∀ b,ownB β σ.hp b->w2.heap[b]? = w.heap[b]?) (hs:w.heap.size<=w2.heap.size)
  (hd:a2.defers=c2.ds) (hN:a2.tmps.size=c2.N) (he:∀ t,AVal G w β (env2 t) (a2.tmps.getD t undef)) (hel:∀ t,(env2 t).lt σ.nx=true) (hm:∀ b,ownB β σ.hp b->c2.mine b)
  (hsub:∀ b,c2.G0 b->G b) (hnew:∀ b,G b->c2.G0 b∨c2.mine b) (hfr:Fr c2.X c2.w0 w2) (hst:c2.n0<=σ.nx/\∀ k,k<c2.n0->β k=c2.B0 k):Conc c2 G β ⟨env2,σ.hp,σ.nx⟩ a2 w2:=by
 have hkp:Keep G G w w2:=⟨fun _ h=>h,hk⟩
 exact {
  defers:=hd
  size:=hN
  env:=fun t=>(he t).keep hkp
  envlt:=hel
  hp:=fun k ob h=>(hc.hp k ob h).turn hkp (fun b hb=>ho b ⟨k,ob,h,hb⟩) (fun b hb=>hm b ⟨k,ob,h,hb⟩)
  hplt:=hc.hplt
  inj:=hc.inj
  lt:=fun b hb=>Nat.lt_of_lt_of_le (hc.lt b hb) hs
  sub:=hsub
  new:=hnew
  fr:=hfr
  stay:=hst
  glob:=hc.glob.keep hkp }
theorem Ext.alloc0 (h:∀ b,G b->b<w.heap.size) (o:Obj):Ext G G w (w.alloc o) :=
 ⟨rfl,rfl,rfl,by rw[World.size_alloc]; omega,fun b hb=>zBa w o hb,fun _ h=>h,fun _ h=>.inl h,fun b hb=>by rw[World.size_alloc]; have:=h b hb; omega⟩
end
structure Grown (A B:World):Prop where
 os:B.os=A.os
 tape:B.tape=A.tape
 output:B.output=A.output
 size:A.heap.size<=B.heap.size
 old:∀ b,b<A.heap.size->B.heap[b]? = A.heap[b]?
theorem Grown.ext {A B:World}{G:Nat->Prop} (h:Grown A B) (hl:∀ b,G b->b<A.heap.size):Ext G G A B:=⟨h.os,h.tape,h.output,h.size,h.old,fun _ h=>h,fun _ h=>.inl h,fun b hb=>Nat.lt_of_lt_of_le (hl b hb) h.size⟩
def zHY (P:Program) (fid sz:Nat):Prop :=
 ∀ (G:Nat->Prop) (w0:World) (v:Value) (rows:List (List S)),(∀ b,G b->b<w0.heap.size)->GlobOk G w0->Rep G w0 (.pt [.sl sz rows]) v->(∀ r∈rows,r.length=sz)->rows.length<=4611686018427387904 ->
  ∀ (l:Nat) (J:Nat->World->Prop) (W:World),w0.heap.size<=W.heap.size->(∀ b,G b->W.heap[b]? = w0.heap[b]?)->(∀ i A B,J i A->Grown A B->J i B) ->
   (∀ i j row u W1,i+j+1=rows.length->rows[j]? = some row->J i W1->w0.heap.size<=W1.heap.size->(∀ b,G b->W1.heap[b]? = w0.heap[b]?)->(∀ β,AVal G W1 β (.agg (row.map .s)) u) ->
    YieldAt Fence.wide 0 P l #[.int .i64 (j:Int),u] W1 fun e W2=>e = .returned (.bool true)/\J (i+1) W2/\w0.heap.size<=W2.heap.size/\∀ b,G b->W2.heap[b]? = w0.heap[b]?) ->
   J 0 W->CallsIn Fence.wide 1 P fid #[.func (.yield l) #[] #[],v] W fun e W'=>(∃ u,e = .returned u)/\J rows.length W'
structure Sw (c c2:Cx) (D:Nat):Prop where
 fr:Fr c.X c.w0 c2.w0
 mine:∀ b,c2.X b->c.mine b
 sub:∀ b,c.G0 b->c2.G0 b
 new:∀ b,c2.G0 b->c.G0 b∨c.mine b
 blk:c2.w0.heap[D]? = some (.deferred (some []))
 nX:¬ c2.X D
 nG:¬ c2.G0 D
 ge:c.w0.heap.size<=D
def zKI (σ:St) (p1 p2:Nat) (j:Nat) (row:List S) (e:(Nat->Option Ob)×Nat):St :=
 ⟨fun t=>bif Nat.beq t p2 then .agg (row.map .s) else bif Nat.beq t p1 then .s (.int .i64 (j:Int)) else σ.env t,e.1,e.2⟩
def Rl (w:World) (X:Nat->Prop) (l:Nat):Prop:=(∃ r,w.heap[l]? = some (.loop r))/\¬ X l
theorem zGR {tm:Array Value}{p t:Nat}{v:Value} (hp:p<tm.size):(tm.setIfInBounds p v).getD t undef=if t=p then v else tm.getD t undef:=by
 rw[Array.getD_eq_getD_getElem?,Array.getD_eq_getD_getElem?]
 by_cases h:t=p
 ·subst h;rw[if_pos rfl,Array.getElem?_setIfInBounds_self_of_lt hp]
  rfl
 ·rw[if_neg h,Array.getElem?_setIfInBounds_ne (Ne.symm h)]
theorem zip2 {α β:Type} (a b:α) (x y:β) : #[a,b].zip #[x,y] = #[(a,x),(b,y)]:=by
 apply Array.ext'
 simp[Array.toList_zip]
theorem nbeq {a b:Nat} (h:a ≠ b):Nat.beq a b=false:=by
 cases e:Nat.beq a b with
 | false=>rfl
 | true=>exact absurd (Nat.eq_of_beq_eq_true e) h
theorem zMQ {n:Nat}:∀ (row:List S),AV.ltAll n (row.map .s)=true
 | []=>rfl
 | s::r=>by simp only[List.map_cons,AV.ltAll,Bool.and_eq_true]; exact⟨rfl,zMQ r⟩
section
variable {c c2:Cx} {G G2:Nat->Prop} {β β2:Nat->Value} {σ σ2:St} {a a2:Act} {w w2:World}
theorem Conc.poked (hc:Conc c G β σ a w){l:Nat}{o:Obj} (hG:¬ G l) (ho:¬ ownB β σ.hp l) (hd:a.defers=c2.ds) (hN:a.tmps.size=c2.N) (hm:∀ b,ownB β σ.hp b->c2.mine b) (hsub:∀ b,c2.G0 b->G b) (hnew:∀ b,G b->c2.G0 b∨c2.mine b)
  (hfr:Fr c2.X c2.w0 (w.putObj l o)) (hst:c2.n0<=σ.nx/\∀ k,k<c2.n0->β k=c2.B0 k):Conc c2 G β σ a (w.putObj l o) :=
 have hoth:∀ b,b ≠ l->(w.putObj l o).heap[b]? = w.heap[b]?:=fun b hb=>World.putObj_heap_other hb
 hc.re (c2:=c2) (fun b hb=>hoth b fun h=>hG (h ▸ hb)) (fun b hb=>hoth b fun h=>ho (h ▸ hb)) (by rw[World.putObj_size]; exact Nat.le_refl _) hd hN hc.env hc.envlt hm hsub hnew hfr hst
theorem Conc.own_mine (hc:Conc c G β σ a w):∀ b,ownB β σ.hp b->c.mine b:=fun b ⟨k,ob,q1,q2⟩=>(row_block (hc.hp k ob q1) b q2).2
theorem Conc.own_G (hc:Conc c G β σ a w){b:Nat} (h:ownB β σ.hp b):¬ G b:=let ⟨k,ob,q1,q2⟩:=h; (row_block (hc.hp k ob q1) b q2).1
theorem Conc.poke (hc:Conc c G β σ a w){l:Nat} (o:Obj) (hl:c.w0.heap.size<=l) (hG:¬ G l) (ho:¬ ownB β σ.hp l):Conc c G β σ a (w.putObj l o) :=
 hc.poked hG ho hc.defers hc.size hc.own_mine hc.sub hc.new ⟨hc.fr.os,hc.fr.tape,hc.fr.output,by rw[World.putObj_size]; exact hc.fr.size,fun b hb hx=>(World.putObj_heap_other (by omega)).trans (hc.fr.old b hb hx)⟩ hc.stay
theorem Conc.stand (h1:Conc c G β σ a w) (h2:Conc c2 G2 β2 σ2 a2 w2) (e1:c2.w0=w) (e2:∀ b,c2.X b->ownB β σ.hp b) (e3:c2.G0=G) (e4:c2.B0=β){m:Nat} (e5:c2.n0=m) (hm:∀ t,(σ.env t).lt m=true) (h0:c.n0<=m):Conc c G2 β2 ⟨σ.env,σ2.hp,σ2.nx⟩ a w2:=by
 subst e1 e3 e4 e5;have hkeep:∀ b,c2.G0 b->w2.heap[b]? = c2.w0.heap[b]?:=fun b h=>h2.fr.old b (h1.lt b h) fun hx=>h1.own_G (e2 b hx) h
 have hbeta:∀ k,k<c2.n0->β2 k=c2.B0 k:=h2.stay.2
 have hmine:∀ b,c2.mine b->c.mine b:=fun b h=>h.elim (fun h=>h1.own_mine b (e2 b h)) fun h=>.inr (Nat.le_trans h1.fr.size h)
 exact h2.re (c2:=c) (fun _ _=>rfl) (fun _ _=>rfl) (Nat.le_refl _) h1.defers h1.size (fun t=>((h1.env t).keep ⟨h2.sub,hkeep⟩).beta hbeta (hm t)) (fun t=>AV.lt_mono h2.stay.1 (hm t)) (fun b hb=>hmine b (h2.own_mine b hb))
  (fun b hb=>h2.sub b (h1.sub b hb)) (fun b hb=>(h2.new b hb).elim (h1.new b) fun h=>.inr (hmine b h))
  ⟨h2.fr.os.trans h1.fr.os,h2.fr.tape.trans h1.fr.tape,h2.fr.output.trans h1.fr.output,Nat.le_trans h1.fr.size h2.fr.size,fun b hb hx=>(h2.fr.old b (Nat.lt_of_lt_of_le hb h1.fr.size) fun h=>(h1.own_mine b (e2 b h)).elim hx fun h=>by omega).trans (h1.fr.old b hb hx)⟩
  ⟨Nat.le_trans h0 h2.stay.1,fun k hk=>(hbeta k (Nat.lt_of_lt_of_le hk h0)).trans (h1.stay.2 k hk)⟩
end
theorem zNa {P:Program}{G:Nat->Prop}{β:Nat->Value}{σ:St}{W:World}{l m N:Nat}{rec:Loop} (h1:W.heap[l]? = some (.loop rec)) (hst:rec.state = .ready) (hpe:rec.pending=none) (hnl:¬ G l){vs:Array Value} (hvs:vs.size=rec.params.size)
  (hA:Conc (rcx P N m l W (ownB β σ.hp) G β) G β σ { tmps:=(rec.params.zip vs).foldl (fun tmps (t,a)=>tmps.setIfInBounds t a) rec.tmps,defers:=[] } W) {Q:(Nat->Option Ob)->Nat->Prop}
  (hround:∀ w X G B,Rl w X l->Tri (rcx P N m l w X G B) rec.assign σ (fun e σ1=>e = .normal/\∀ w X G B,Rl w X l->Tri (rcx P N m l w X G B) rec.body σ1 (fun e σ2=>e = .normal/\∃ σ3,Le (rcx P N m l w X G B) σ2 σ3/\Q σ3.hp σ3.nx)))
  {R:Ending->World->Prop} (hR:∀ G' β' hp' nx' W2,Q hp' nx'->W2.heap[l]? = some (.loop rec)->¬ G' l->(∀ b,G b->G' b)->(∀ b,G' b->G b∨ownB β σ.hp b∨W.heap.size<=b)->W.heap.size<=W2.heap.size->(∀ b,b<W.heap.size->b ≠ l->¬ ownB β σ.hp b->W2.heap[b]? = W.heap[b]?)->m<=nx'->(∀ k,k<m->β' k=β k) ->
   (∀ c' env' a',Conc c' G β ⟨env',σ.hp,σ.nx⟩ a' W->(∀ t,(env' t).lt m=true)->c'.n0<=m->c'.w0.heap.size<=l->Conc c' G' β' ⟨env',hp',nx'⟩ a' W2)->R (.returned (.bool true)) W2) :
  YieldAt Fence.wide 0 P l vs W R:=by
 have hnol:¬ ownB β σ.hp l:=hA.not_own h1 rfl;have hlW:l<W.heap.size:=(Array.getElem?_eq_some_iff.1 h1).1;refine⟨rec.fn,_,rec.assign,rec.body,run_yield h1 hvs,roundIn_of_wpIn trivial ?_⟩
 have hTri:=hround W (ownB β σ.hp) G β ⟨⟨_,h1⟩,hnol⟩
 unfold Tri at hTri;refine wpIn_mono (zWQ (m:=0) (hTri _ _ _ _ hA)) ?_;rintro e a1 Wb ⟨e',G2,β2,σ1,rfl,⟨rfl,hbody⟩,hB⟩
 have bl:Wb.heap[l]? = W.heap[l]?:=hB.fr.old l hlW hnol;have hlb:l<Wb.heap.size:=Nat.lt_of_lt_of_le hlW hB.fr.size;have hn2l:¬ G2 l:=fun h=>(hB.new l h).elim hnl (fun h=>h.elim hnol (fun h=>by have:W.heap.size<=l:=h; omega))
 have hno1l:¬ ownB β2 σ1.hp l:=hB.not_own (bl.trans h1) rfl;refine⟨_,run_beginRound (bl.trans h1) hst,?_⟩
 have hB2:Conc (rcx P N m l (Wb.putObj l (.loop { rec with state:=.busy })) (ownB β2 σ1.hp) G2 β2) G2 β2 σ1 a1 (Wb.putObj l (.loop { rec with state:=.busy })):=hB.poked hn2l hno1l hB.defers hB.size (fun _ h=>.inl h) (fun _ h=>h) (fun _ h=>.inl h) (Fr.refl _ _) ⟨hB.stay.1,fun _ _=>rfl⟩
 have l2:(Wb.putObj l (.loop { rec with state:=.busy })).heap[l]? = some (.loop { rec with state:=.busy }):=World.putObj_heap_same hlb;have sz2:(Wb.putObj l (.loop { rec with state:=.busy })).heap.size=Wb.heap.size:=World.putObj_size;have oth2:∀ b,b ≠ l->(Wb.putObj l (.loop { rec with state:=.busy })).heap[b]? = Wb.heap[b]?:=fun b hb=>World.putObj_heap_other hb
 have tr2:∀ c' env' a',Conc c' G β ⟨env',σ.hp,σ.nx⟩ a' W->(∀ t,(env' t).lt m=true)->c'.n0<=m->c'.w0.heap.size<=l->Conc c' G2 β2 ⟨env',σ1.hp,σ1.nx⟩ a' (Wb.putObj l (.loop { rec with state:=.busy })):=fun c' env' a' hc he h0 hl=>(hc.stand hB rfl (fun _ h=>h) rfl rfl rfl he h0).poke _ hl hn2l hno1l
 generalize Wb.putObj l (.loop { rec with state:=.busy })=W2 at hB2 l2 sz2 oth2 tr2 ⊢;have hTri2:=hbody W2 (ownB β2 σ1.hp) G2 β2 ⟨⟨_,l2⟩,hno1l⟩
 unfold Tri at hTri2;refine wpIn_mono (zWQ (m:=0) (hTri2 _ _ _ _ hB2)) ?_;rintro e a2 Wc ⟨e',G3,β3,σ2,rfl,⟨rfl,σ3,hle,hQ⟩,hC0⟩
 unfold Le at hle;obtain⟨G4,β4,hC⟩:=hle _ _ _ _ hC0;have hl2:l<W2.heap.size :=(by omega);have cl:Wc.heap[l]? = W2.heap[l]?:=hC.fr.old l hl2 hno1l;have hn4l:¬ G4 l:=fun h=>(hC.new l h).elim hn2l (fun h=>h.elim hno1l (fun h=>by have:W2.heap.size<=l:=h; omega))
 have hno3l:¬ ownB β4 σ3.hp l:=hC.not_own (cl.trans l2) rfl;have szB:=hB.fr.size;have szC:=hC.fr.size;simp only[rcx]at szB szC;have hmB:∀ b,ownB β2 σ1.hp b->ownB β σ.hp b∨W.heap.size<=b:=hB.own_mine
 refine⟨_,_,run_endRound none (cl.trans l2),hR G4 β4 σ3.hp σ3.nx _ hQ ?_ hn4l (fun b h=>hC.sub b (hB.sub b h)) (fun b h=>?_) (by rw[World.putObj_size]; omega) (fun b hb hbl hbo=>?_) hC.stay.1 (fun k hk=>(hC.stay.2 k hk).trans (hB.stay.2 k hk)) fun c' env' a' hc he h0 hl=>?_⟩
 ·rw[World.putObj_heap_same (by omega)]
  cases rec;simp only at hst hpe;subst hst hpe
  rfl
 ·rcases hC.new b h with h | h | h
  ·rcases hB.new b h with h | h | h
   ·exact .inl h
   ·exact .inr (.inl h)
   ·exact .inr (.inr h)
  ·exact .inr (hmB b h)
  ·exact .inr (.inr (Nat.le_trans (by show W.heap.size<=W2.heap.size; omega) h))
 ·rw[World.putObj_heap_other hbl,hC.fr.old b (by show b<W2.heap.size; omega) (fun h=>(hmB b h).elim hbo (fun h=>by omega))]
  exact(oth2 b hbl).trans (hB.fr.old b hb hbo)
 ·exact((tr2 c' env' a' hc he h0 hl).stand hC rfl (fun _ h=>h) rfl rfl rfl he h0).poke _ hl hn4l hno3l
theorem zOc {c:Cx}{G:Nat->Prop}{β:Nat->Value}{σ:St}{a:Act}{hp:Nat->Option Ob}{nx:Nat}{W:World} (hc:Conc c G β ⟨σ.env,hp,nx⟩ a W){l m p1 p2:Nat}{rec:Loop} (h1:W.heap[l]? = some (.loop rec)) (hst:rec.state = .ready) (hpe:rec.pending=none) (hps:rec.params = #[p1,p2]) (htm:rec.tmps=a.tmps) (hnl:¬ G l)
  (hl:c.w0.heap.size<=l) (hm:∀ t,(σ.env t).lt m=true) (hm0:c.n0<=m) (hmx:m<=nx) (hp1:p1<c.N) (hp2:p2<c.N) {j:Nat} {row:List S} {u:Value} (hval:AVal G W β (.agg (row.map .s)) u) {E:(Nat->Option Ob)×Nat}
  (hround:∀ w X G B,Rl w X l->Tri (rcx c.P c.N m l w X G B) rec.assign (zKI σ p1 p2 j row (hp,nx)) (fun e σ1=>e = .normal/\∀ w X G B,Rl w X l->Tri (rcx c.P c.N m l w X G B) rec.body σ1 (fun e σ2=>e = .normal/\∃ σ3,Le (rcx c.P c.N m l w X G B) σ2 σ3/\σ3.hp=E.1/\σ3.nx=E.2)))
  {R:Ending->World->Prop} (hR:∀ G' β' W2,Conc c G' β' ⟨σ.env,E.1,E.2⟩ a W2->W2.heap[l]? = some (.loop rec)->¬ G' l->(∀ b,G b->G' b)->(∀ b,G' b->G b∨ownB β hp b∨W.heap.size<=b)->W.heap.size<=W2.heap.size->(∀ b,b<W.heap.size->b ≠ l->¬ ownB β hp b->W2.heap[b]? = W.heap[b]?)->R (.returned (.bool true)) W2) :
  YieldAt Fence.wide 0 c.P l #[.int .i64 (j:Int),u] W R:=by
 have hs1:p1<a.tmps.size :=(by rw[hc.size]; exact hp1);have hs2:p2<(a.tmps.setIfInBounds p1 (.int .i64 (j:Int))).size :=(by rw[Array.size_setIfInBounds,hc.size]; exact hp2);have htm2:((rec.params.zip #[Value.int .i64 (j:Int),u]).foldl (fun tmps (x:Nat×Value)=>tmps.setIfInBounds x.1 x.2) rec.tmps)=(a.tmps.setIfInBounds p1 (.int .i64 (j:Int))).setIfInBounds p2 u :=(by rw[hps,htm,zip2]; rfl);have hA:Conc (rcx c.P c.N m l W (ownB β hp) G β) G β (zKI σ p1 p2 j row (hp,nx)) { tmps:=(a.tmps.setIfInBounds p1 (.int .i64 (j:Int))).setIfInBounds p2 u,defers:=[] } W:=by
  refine hc.re (c2:=rcx c.P c.N m l W (ownB β hp) G β) (fun _ _=>rfl) (fun _ _=>rfl) (Nat.le_refl _) rfl (by show _=c.N; rw[Array.size_setIfInBounds,Array.size_setIfInBounds]; exact hc.size) (fun t=>?_) (fun t=>?_) (fun b hb=>.inl hb) (fun _ h=>h) (fun _ h=>.inl h) (Fr.refl _ _) ⟨hmx,fun _ _=>rfl⟩
  ·dsimp only;rw[zGR hs2,zGR hs1]
   by_cases e2:t=p2
   ·subst e2;rw[if_pos rfl,Nat.beq_refl,cond_true]
    exact hval
   ·rw[if_neg e2,nbeq e2,cond_false]
    by_cases e1:t=p1
    ·subst e1;rw[if_pos rfl,Nat.beq_refl,cond_true]
     simp[AVal,Rep]
    ·rw[if_neg e1,nbeq e1,cond_false]
     exact hc.env t
  ·dsimp only
   by_cases e2:t=p2
   ·subst e2; rw[Nat.beq_refl,cond_true]; simp only[AV.lt]; exact zMQ row
   ·rw[nbeq e2,cond_false]
    by_cases e1:t=p1
    ·subst e1; rw[Nat.beq_refl,cond_true]; rfl
    ·rw[nbeq e1,cond_false]; exact hc.envlt t
 rw[← htm2]at hA;exact zNa (Q:=fun hp' nx'=>hp'=E.1/\nx'=E.2) h1 hst hpe hnl (by rw[hps]; rfl) hA hround fun G' β' hp' nx' W2 ⟨q1,q2⟩ e1 e2 e3 e4 e5 e6 _ _ e7=>by
  subst q1 q2;exact hR G' β' W2 (e7 _ _ _ hc hm hm0 hl) e1 e2 e3 e4 e5 e6
theorem zYf {c:Cx}{G:Nat->Prop}{β:Nat->Value}{σ:St}{a:Act}{w:World} (hc:Conc c G β σ a w) (hro:c.ro=none) (hds:c.ds=[]){tg p1 p2 fid sz:Nat}{rows:List (List S)}{assign body:Code}
  (hit:zHY c.P fid sz) (hcall:∀ args w,(callFunc fid args).run c.P w = .ok (.enter fid args) w) (he:σ.env tg = .clo fid [.s (.pt [.sl sz rows])]) (hrl:∀ r∈rows,r.length=sz) (hlen:rows.length<=4611686018427387904)
  (E:Nat->(Nat->Option Ob)×Nat) (hE:E 0=(σ.hp,σ.nx)) (m:Nat) (hm:∀ t,(σ.env t).lt m=true) (hm0:c.n0<=m) (hmE:∀ i,m<=(E i).2) (hp1:p1<c.N) (hp2:p2<c.N)
  (hround:∀ i j row,i+j+1=rows.length->rows[j]? = some row->∀ l w X G B,Rl w X l->Tri (rcx c.P c.N m l w X G B) assign (zKI σ p1 p2 j row (E i)) (fun e σ1=>e = .normal/\∀ w X G B,Rl w X l ->
   Tri (rcx c.P c.N m l w X G B) body σ1 (fun e σ2=>e = .normal/\∃ σ3,Le (rcx c.P c.N m l w X G B) σ2 σ3/\σ3.hp=(E (i+1)).1/\σ3.nx=(E (i+1)).2)))
  (hfid:Nat.ble 1048576 fid=false) {Φ:Exit->Act->World->Prop} (hdone:∀ D w2 X G2 G' β' a2,Sw c (lcx c.P c.N c.n0 w2 X G2 c.B0 D) D->Conc (lcx c.P c.N c.n0 w2 X G2 c.B0 D) G' β' ⟨σ.env,(E rows.length).1,(E rows.length).2⟩ a2 w2->Φ .normal a2 w2) :
  (Code.rangeFunc (.tmp tg) #[p1,p2] assign body).wpIn (rF none) 2 c.P Φ a w:=by
 have hg:=hc.env tg;rw[he]at hg;simp only[AVal,AVals]at hg;obtain⟨vs,hg,v,vs',rfl,hv,rfl⟩:=hg;have hg:a.eval (.tmp tg) = .func (.func fid) #[] #[v] :=(by rw[zOi hfid]at hg; exact hg);have hiter:=hit G w v rows hc.lt hc.glob hv hrl hlen;refine wpIn_rangeFunc fun fn _=>?_
 obtain⟨rec,hrec⟩:∃ rec:LoopState->Loop,rec=fun st=>{ state:=st,pending:=none,fn:=fn,tmps:=a.tmps,params:=#[p1,p2],assign:=assign,body:=body,defers:=w.heap.size }:=⟨_,rfl⟩
 obtain⟨l,hl0⟩:∃ l,l=w.heap.size+1:=⟨_,rfl⟩
 obtain⟨D,hD0⟩:∃ D,D=w.heap.size:=⟨_,rfl⟩
 obtain⟨W1,hW1⟩:∃ W1,(w.alloc (.deferred (some []))).alloc (.loop (rec .ready))=W1:=⟨_,rfl⟩
 have hL1:W1.heap[l]? = some (.loop (rec .ready)):=by
  have:=World.alloc_heap_new (w.alloc (.deferred (some []))) (.loop (rec .ready))
  rw[World.size_alloc]at this;rw[← hW1,hl0]; exact this
 have hDD:W1.heap[D]? = some (.deferred (some [])):=by
  have:=zBa (w.alloc (.deferred (some []))) (.loop (rec .ready)) (b:=w.heap.size) (by rw[World.size_alloc]; omega)
  rw[← hW1,hD0,this]
  exact World.alloc_heap_new w _
 have hc1:Conc c G β σ a W1:=by
  rw[← hW1]
  have h1:=hc.ext (Ext.alloc0 hc.lt (.deferred (some [])))
  exact h1.ext (Ext.alloc0 h1.lt (.loop (rec .ready)))
 have hlD:l ≠ D :=(by omega);have hcl:c.w0.heap.size<=D :=(by rw[hD0]; exact hc.fr.size);refine⟨l,[{ target:=.collected D,args:=#[] }],W1,{ target:=.fn (.func fid) #[v],args:=#[.func (.yield l) #[] #[]] },W1,fid,#[.func (.yield l) #[] #[]]++#[v],W1,?_,?_,?_,?_,fun h=>(by cases h),?_⟩
 ·rw[← hW1,hrec,hl0,hD0]; exact run_enterLoop_outer _ _ _ _ _
 ·simp only[resolve,hg]
  simp[go_sem]
 ·intro f' hf'; trivial
 ·simp[invoke,go_sem,hcall]
 have key:=hiter l (fun i W=>W.heap[l]? = some (.loop (rec .ready))/\W.heap[D]? = some (.deferred (some []))/\∃ G' β',Conc c G' β' ⟨σ.env,(E i).1,(E i).2⟩ a W/\(∀ b,G b->G' b)/\¬ G' l/\¬ G' D) W1 (by rw[← hW1,World.size_alloc,World.size_alloc]; omega)
  (fun b hb=>by
   have hb':=hc.lt b hb;rw[← hW1,zBa _ _ (by rw[World.size_alloc]; omega),zBa _ _ hb'])
  (fun i A B ⟨h1,h2,G',β',h3,h4⟩ hg=>⟨(hg.old l (Array.getElem?_eq_some_iff.1 h1).1).trans h1,(hg.old D (Array.getElem?_eq_some_iff.1 h2).1).trans h2,G',β',h3.ext (hg.ext h3.lt),h4⟩)
  ?_ ⟨hL1,hDD,G,β,by rw[hE]; exact hc1,fun _ h=>h,fun h=>by have:=hc.lt _ h; omega,fun h=>by have:=hc.lt _ h; omega⟩
 ·refine key.mono ?_;rintro e W3 ⟨⟨u,rfl⟩,h1,h2,G3,β3,hc3,hG3,hnl,hnD⟩
  have hend:=run_endLoop (P:=c.P) h1 (by rw[hrec]; simp)
  rw[hrec]at hend;refine⟨none,_,hend,?_⟩
  dsimp only;have hnol:¬ ownB β3 (E rows.length).1 l:=hc3.not_own h1 rfl;have hnoD:¬ ownB β3 (E rows.length).1 D:=hc3.not_own h2 rfl;have hl3:l<W3.heap.size:=(Array.getElem?_eq_some_iff.1 h1).1;generalize hW4:W3.putObj l _=W4;have hoth:∀ b,b ≠ l->W4.heap[b]? = W3.heap[b]?:=fun b hb=>by rw[← hW4]; exact World.putObj_heap_other hb
  have hsz:W4.heap.size=W3.heap.size :=(by rw[← hW4]; exact World.putObj_size);have hfr4:Fr c.X c.w0 W4:=⟨by rw[← hW4]; exact hc3.fr.os,by rw[← hW4]; exact hc3.fr.tape,by rw[← hW4]; exact hc3.fr.output,by rw[hsz]; exact hc3.fr.size,fun b hb hx=>(hoth b (by omega)).trans (hc3.fr.old b hb hx)⟩
  refine hdone D W4 (ownB β3 (E rows.length).1) G3 G3 β3 _ ⟨hfr4,fun b ⟨k,ob,q1,q2⟩=>(row_block (hc3.hp k ob q1) b q2).2,hc3.sub,hc3.new,(hoth D (Ne.symm hlD)).trans h2,hnoD,hnD,hcl⟩ ?_;exact hc3.re (c2:=lcx c.P c.N c.n0 W4 (ownB β3 (E rows.length).1) G3 c.B0 D) (fun b hb=>hoth b fun h=>hnl (h ▸ hb)) (fun b hb=>hoth b fun h=>hnol (h ▸ hb)) (by rw[hsz]; exact Nat.le_refl _)
   (by show _::a.defers=_; rw[hc.defers,hds]; rfl) hc.size hc3.env hc3.envlt (fun b hb=>.inl hb) (fun b hb=>hb) (fun b hb=>.inl hb) (Fr.refl _ _) hc3.stay
 ·rintro i j row u W hiN hrow ⟨h1,h2,G',β',hcW,hGG,hnl,hnD⟩ hszW hGk hval;have noD:¬ ownB β' (E i).1 D:=hcW.not_own h2 rfl;have hDW:D<W.heap.size:=(Array.getElem?_eq_some_iff.1 h2).1;refine zOc (E:=E (i+1)) hcW h1 (by rw[hrec]) (by rw[hrec]) (by rw[hrec]) (by rw[hrec]) hnl (by omega) hm hm0 (hmE i) hp1 hp2 ((hval β').keep ⟨hGG,fun _ _=>rfl⟩) (by rw[hrec]; exact hround i j row hiN hrow l) fun G2 β2 W2 e0 e1 e2 e3 e4 e5 e6=>?_
  exact⟨rfl,⟨e1,(e6 D hDW (Ne.symm hlD) noD).trans h2,G2,β2,e0,fun b h=>e3 b (hGG b h),e2,fun h=>(e4 D h).elim hnD fun h=>h.elim noD fun h=>by omega⟩,Nat.le_trans hszW e5,
   fun b hb=>(e6 b (hcW.lt b (hGG b hb)) (fun e=>hnl (e ▸ hGG b hb)) fun h=>hcW.own_G h (hGG b hb)).trans (hGk b hb)⟩
end Go.Abs
namespace Go.Proofs
set_option maxHeartbeats 1000000 in
theorem Tryz.bld_check_used (b off:Nat) (w:World) (h0:w.cell? ⟨b,off,none⟩=some (.pointer (some ⟨b,off,none⟩))) :
  Calls Tryz.prog 128 #[.pointer (some ⟨b,off,none⟩)] w fun e w'=>e = .returned (.tuple #[])/\w'=w:=by
 have hj:Tryz.prog.info? 128=some Tryz.t128:=by kernel_rfl
 go_enter Tryz.func128,Tryz.ntmps128
 go_wp2
 rw[Lib.run_neq_ptr_same w _ Tryz.underlying125 hj]
 go_wp2
 go_end0
 exact⟨rfl,rfl⟩
set_option maxHeartbeats 1000000 in
theorem Tryz.bld_check_fresh (b off D n:Nat) (w:World) (h0:w.cell? ⟨b,off,none⟩=some (.pointer none)) (hsh:w.shape? b=some (D,n)) (hn:off<n) (hlies:liesAt Tryz.prog Tryz.prog.depth D (n / Tryz.prog.cellsOf D) off 128 1=true) (hfz:w.frozen? ⟨b,off,none⟩=false) :
  Calls Tryz.prog 128 #[.pointer (some ⟨b,off,none⟩)] w fun e w'=>e = .returned (.tuple #[])/\w'=w.setCell ⟨b,off,none⟩ (.pointer (some ⟨b,off,none⟩)):=by
 have hj:Tryz.prog.info? 128=some Tryz.t128 :=(by kernel_rfl);have hjs:Tryz.t128.size ≠ 0:=by decide
 go_enter Tryz.func128,Tryz.ntmps128
 go_wp2
 rw[Lib.run_to_unsafe w ⟨b,off,none⟩ Tryz.underlying125 Tryz.underlying211 hj hjs hsh hn]
 simp only[Result.andThen]
 rw[Oper.upon_value]
 go_wp2
 rw[run_callFunc_extern Tryz.func148 (by kernel_rfl) (by kernel_rfl) (by kernel_rfl) (e:=Extern.AbiNoEscape.same) (by kernel_rfl)]
 rw[Lib.run_noEscape]
 simp only[Result.andThen]
 rw[Oper.upon_value]
 go_wp2
 rw[Lib.run_from_unsafe w ⟨b,off,none⟩ Tryz.underlying211 Tryz.underlying125 hj hsh hlies]
 simp only[Result.andThen]
 rw[Oper.upon_value]
 go_wp2
 go_end0
 exact⟨rfl,rfl⟩
theorem Tryz.bld_String (b off g cap:Nat) (l:List UInt8) (w:World) (cur:Array Value) (mk:Nat×Nat) (h0:l ≠ []) (hb:w.cell? ⟨b,off+1,none⟩=some (.slice (some ⟨g,0,none⟩) l.length cap)) (hg:w.heap[g]? = some (.cells cur 5 mk)) (hc:cur.size=cap * 1) (hle:l.length<=cap) (hm:l.length<=9223372036854775807)
  (hx:∀ (j:Nat) x,l[j]? = some x->cur[j]? = some (.int .u8 x.toNat)) :
  Calls Tryz.prog 61 #[.pointer (some ⟨b,off,none⟩)] w fun e w'=>e = .returned (.string ⟨l.toArray⟩)/\w'=w.drew.freeze ⟨g,0,none⟩ l.length:=by
 have hl0:l.length ≠ 0 :=(by simpa using h0);have c1:w.drew.cell? ⟨b,off+1,none⟩=some (.slice (some ⟨g,0,none⟩) l.length cap):=hb;have hSD:(Builtin.unsafeSliceData_ #[126] 168 #[.slice (some ⟨g,0,none⟩) l.length cap]).run Tryz.prog w.drew = .ok (.pointer (some ⟨g,0,none⟩)) w.drew :=
  Lib.run_unsafeSliceData_row _ _ _ _ _ _ (by omega)
 have hg':w.drew.heap[g]? = some (.cells cur 5 mk):=hg;have hUS:(Builtin.unsafeString_ #[168,3] 9 #[.pointer (some ⟨g,0,none⟩),.int .i64 l.length]).run Tryz.prog w.drew = .ok (.string ⟨l.toArray⟩) (w.drew.freeze ⟨g,0,none⟩ l.length):=by
  refine Lib.run_unsafeString_row w.drew 168 3 9 5 Tryz.underlying168 (by kernel_rfl) g cur.size (by simp[World.shape?,hg']) l h0 (by omega) hm ?_;intro j x hx';have e:(Addr.mk g 0 none).add j=⟨g,j,none⟩:=by
   unfold Addr.add;split
   ·rename_i e; rw[e]
   ·simp
  rw[e]
  simp only[World.cell?,hg']
  exact hx j x hx'
 have mixed:Tryz.prog.follows .mixedOrders=true:=by kernel_rfl
 go_enter Tryz.func61,Tryz.ntmps61
 go_wp2
 go_region_o
 all_goals (go_wp2; go_ret; exact⟨rfl,rfl⟩)
open Go.Shelf
def Tryz.laysM171_ren:Go.Shelf.Ren:=⟨fun | 171=>133 | 243=>152 | 246=>160 | 283=>164 | 284=>165 | 285=>166 | 286=>167 | 129=>170 | 317=>169 | 318=>171 | 319=>172 | 320=>173 | 337=>176 | 338=>177 | n=>n,fun | 3=>3 | 9=>9 | 2=>2 | 4=>4 | 171=>230 | 0=>0 | 53=>42 | 37=>126 | 5=>5 | 173=>233 | 212=>244 | 51=>227 | 20=>20 | 213=>245 | 46=>222 | 232=>255 | 233=>256 | n=>n,fun | 17=>1 | 18=>2 | 19=>3 | n=>n⟩
theorem Tryz.laysM171:Go.Proofs.LaysM.n171 Tryz.prog Tryz.laysM171_ren:={
 mixed:=by kernel_rfl
 f129:=Tryz.func170.trans (congrArg some (by kernel_rfl))
 f171:=Tryz.func133.trans (congrArg some (by kernel_rfl))
 f243:=Tryz.func152.trans (congrArg some (by kernel_rfl))
 f246:=Tryz.func160.trans (congrArg some (by kernel_rfl))
 f283:=Tryz.func164.trans (congrArg some (by kernel_rfl))
 f284:=Tryz.func165.trans (congrArg some (by kernel_rfl))
 f285:=Tryz.func166.trans (congrArg some (by kernel_rfl))
 f286:=Tryz.func167.trans (congrArg some (by kernel_rfl))
 f317:=Tryz.func169.trans (congrArg some (by kernel_rfl))
 f318:=Tryz.func171.trans (congrArg some (by kernel_rfl))
 f319:=Tryz.func172.trans (congrArg some (by kernel_rfl))
 f320:=Tryz.func173.trans (congrArg some (by kernel_rfl))
 f337:=Tryz.func176.trans (congrArg some (by kernel_rfl))
 f338:=Tryz.func177.trans (congrArg some (by kernel_rfl))
 t0:=Tryz.underlying0
 a0:=Tryz.isAgg0
 z0:=Tryz.sizeOf0
 v0:=Tryz.zeroValue0
 t2:=Tryz.underlying2
 a2:=Tryz.isAgg2
 z2:=Tryz.sizeOf2
 v2:=Tryz.zeroValue2
 t3:=Tryz.underlying3
 a3:=Tryz.isAgg3
 z3:=Tryz.sizeOf3
 v3:=Tryz.zeroValue3
 t4:=Tryz.underlying4
 a4:=Tryz.isAgg4
 z4:=Tryz.sizeOf4
 v4:=Tryz.zeroValue4
 t5:=Tryz.underlying5
 a5:=Tryz.isAgg5
 z5:=Tryz.sizeOf5
 v5:=Tryz.zeroValue5
 t9:=Tryz.underlying9
 a9:=Tryz.isAgg9
 z9:=Tryz.sizeOf9
 v9:=Tryz.zeroValue9
 t20:=Tryz.underlying20
 a20:=Tryz.isAgg20
 z20:=Tryz.sizeOf20
 v20:=Tryz.zeroValue20
 t37:=Tryz.underlying126
 a37:=Tryz.isAgg126
 z37:=Tryz.sizeOf126
 v37:=Tryz.zeroValue126
 t46:=Tryz.underlying222
 a46:=Tryz.isAgg222
 z46:=Tryz.sizeOf222
 v46:=Tryz.zeroValue222
 t51:=Tryz.underlying227
 a51:=Tryz.isAgg227
 z51:=Tryz.sizeOf227
 v51:=Tryz.zeroValue227
 t53:=Tryz.underlying42
 a53:=Tryz.isAgg42
 z53:=Tryz.sizeOf42
 v53:=Tryz.zeroValue42
 t171:=Tryz.underlying230
 a171:=Tryz.isAgg230
 z171:=Tryz.sizeOf230
 v171:=Tryz.zeroValue230
 t173:=Tryz.underlying233
 a173:=Tryz.isAgg233
 z173:=Tryz.sizeOf233
 v173:=Tryz.zeroValue233
 t212:=Tryz.underlying244
 a212:=Tryz.isAgg244
 z212:=Tryz.sizeOf244
 v212:=Tryz.zeroValue244
 t213:=Tryz.underlying245
 a213:=Tryz.isAgg245
 z213:=Tryz.sizeOf245
 t232:=Tryz.underlying255
 a232:=Tryz.isAgg255
 z232:=Tryz.sizeOf255
 v232:=Tryz.zeroValue255
 t233:=Tryz.underlying256
 a233:=Tryz.isAgg256
 z233:=Tryz.sizeOf256
 v233:=Tryz.zeroValue256
 g17:=by kernel_rfl
 g18:=by kernel_rfl
 g19:=by kernel_rfl
 i0:=by kernel_rfl
 i2:=by kernel_rfl
 i3:=by kernel_rfl
 i4:=by kernel_rfl
 i5:=by kernel_rfl
 i9:=by kernel_rfl
 i20:=by kernel_rfl
 i37:=by kernel_rfl
 i46:=by kernel_rfl
 i51:=by kernel_rfl
 i53:=by kernel_rfl
 i171:=by kernel_rfl
 i173:=by kernel_rfl
 i212:=by kernel_rfl
 i232:=by kernel_rfl
 i233:=by kernel_rfl
 m17:=by kernel_rfl
 m18:=by kernel_rfl
 m19:=by kernel_rfl }
open Go.RowKit Go.Sort Go.Lib in
theorem Tryz.strconv_Itoa (n:Int) (h0 : -9223372036854775808<=n) (h1:n<=9223372036854775807) (w:World) (htab:Lib.TabIs Tryz.prog w "internal/strconv.uint64pow10" .u64 Lib.pow10Tab) :
  Calls Tryz.prog 133 #[.int .i64 n] w fun e w'=>e = .returned (.string ⟨(Lib.itoa n).toArray⟩)/\∃ k os,w'=grow (w.drewN k) os:=Any.strconv_Itoa Tryz.laysM171 n h0 h1 w htab
end Go.Proofs
namespace Go.Proofs.YtbfnjnljboncgaaGreatDoor
open Go.Abs
def zVG:List AV:=[.s (.str []),.s (.int .i64 0),.s .nf,.s (.str [114,111,119]),.s (.int .i64 0),.s (.fn 62),.s (.str [115,121,109]),.s (.int .i64 0),.s (.fn 63),.s (.str [110,117,109]),.s (.int .i64 0),.s (.fn 64),.s (.str [116,101,120,116]),.s (.int .i64 0),.s (.fn 65),.s (.str [102,114,97,99]),.s (.int .i64 2),.s (.fn 62),.s (.str [114,111,111,116]),.s (.int .i64 2),.s (.fn 62),.s (.str [115,117,98]),.s (.int .i64 2),.s (.fn 62),.s (.str [115,117,112]),.s (.int .i64 2),.s (.fn 62),.s (.str [98,111,116,104]),.s (.int .i64 3),.s (.fn 62),.s (.str [97,99,99,101,110,116]),.s (.int .i64 1),.s (.fn 66),.s (.str [102,101,110,99,101]),.s (.int .i64 1),.s (.fn 67),.s (.str [109,97,116,114,105,120]),.s (.int .i64 0),.s (.fn 62)]
def zA1 (a b:AV):List AV:=zVG++[a,b]
theorem zIN {a b:AV}:∀ (i:Nat) (x:AV),(zA1 a b)[i]? = some x->i ≠ 39->i ≠ 40->x.pers=true:=fun i x h h1 h2=>by
 have hk:zVG.all AV.pers=true :=(by decide);have hl:zVG.length=39:=rfl;unfold zA1 at h;rw[List.getElem?_append]at h;split at h
 ·exact List.all_eq_true.1 hk x (List.mem_of_getElem? h)
 ·rw[hl]at h;have:i - 39<2:=by have:=(List.getElem?_eq_some_iff.1 h).1; simpa using this
  omega
theorem zMq (b:Nat) (w:World) (cur:Array Value) (h:w.heap[b]? = some (.cells cur 177 (0,0))) (hc:cur[39]? = some (.pointer (some ⟨b,39,none⟩))) :
  Calls Tryz.prog 128 #[.pointer (some ⟨b,39,none⟩)] w fun e w'=>e = .returned (.tuple #[])/\Wrote b 39 (.pointer (some ⟨b,39,none⟩)) cur 177 w w' :=
 (Tryz.bld_check_used b 39 w (by simp[World.cell?,h,hc])).mono fun e w' ⟨h1,h2⟩=>⟨h1,by subst h2; exact Wrote.same h hc⟩
theorem zLo (b:Nat) (w:World) (cur:Array Value) (h:w.heap[b]? = some (.cells cur 177 (0,0))) (hs:cur.size=41) (hc:cur[39]? = some (.pointer none)) :
  Calls Tryz.prog 128 #[.pointer (some ⟨b,39,none⟩)] w fun e w'=>e = .returned (.tuple #[])/\Wrote b 39 (.pointer (some ⟨b,39,none⟩)) cur 177 w w' :=
 (Tryz.bld_check_fresh b 39 177 41 w (by simp[World.cell?,h,hc]) (by simp[World.shape?,h,hs]) (by decide) (by kernel_rfl) (by simp[World.frozen?,h])).mono fun e w' ⟨h1,h2⟩=>⟨h1,by subst h2; exact Wrote.cell h⟩
def zFn (xs:List AV) (os:List Ob) (x:AV) (os':List (Option Ob)):Prop:=∃ (a0:List UInt8) (z1:List UInt8),zAY a0=some z1/\xs=[.op 0 39]/\os=[.box 177 (zA1 (.op 0 39) (.orow 1)),.row 5 1 (List.map brow a0)]/\x = .tup []/\os'=[some (.box 177 (zA1 (.op 0 39) (.orow 2))),none,some (.row 5 1 (List.map brow z1))]
def zCf:zAp:=zB1 (fun xs os x os'=>zFn xs os x os')
theorem zDi:PSound Tryz.prog 128 zCf :=
 PSound.ofOwn Tryz.call128 fun G w β xs vs os x os' h1 h2 h3 h4 h5 ⟨a0,z1,hm,hx,ho,hr,ho'⟩ =>
  zU7 (p:=.op 0 39) (e:=5) rfl (.inr rfl) rfl rfl zIN (fun b w cur hb _ _ hc=>zMq b w cur hb (hc rfl)) G w β xs vs os x os' h1 h2 h3 h4 h5 ⟨_,hx,ho,hr,by rw[ho',← Option.some.inj hm]; rfl⟩
def zEQ (xs:List AV) (os:List Ob) (x:AV) (os':List (Option Ob)):Prop:=∃ (a0:List UInt8) (z1:List UInt8),zAY a0=some z1/\xs=[.op 0 39]/\os=[.box 177 (zA1 (.s .np) (.orow 1)),.row 5 1 (List.map brow a0)]/\x = .tup []/\os'=[some (.box 177 (zA1 (.op 0 39) (.orow 2))),none,some (.row 5 1 (List.map brow z1))]
def zCQ:zAp:=zB1 (fun xs os x os'=>zEQ xs os x os')
theorem zEI:PSound Tryz.prog 128 zCQ :=
 PSound.ofOwn Tryz.call128 fun G w β xs vs os x os' h1 h2 h3 h4 h5 ⟨a0,z1,hm,hx,ho,hr,ho'⟩ =>
  zU7 (p:=.s .np) (e:=5) rfl (.inl rfl) rfl rfl zIN (fun b w cur hb hs hc _=>zLo b w cur hb hs (hc rfl)) G w β xs vs os x os' h1 h2 h3 h4 h5 ⟨_,hx,ho,hr,by rw[ho',← Option.some.inj hm]; rfl⟩
def zGr (xs:List AV) (os:List Ob) (x:AV) (os':List (Option Ob)):Prop:=∃ (a0:List UInt8) (y0:List UInt8),zCN a0=some y0/\xs=[.op 0 39]/\os=[.box 177 (zA1 (.op 0 39) (.orow 1)),.row 5 1 (List.map brow a0)]/\x = .s (.str y0)/\os'=[some (.box 177 (zA1 (.op 0 39) .junk)),none]
def zDX:zAp:=zB1 (fun xs os x os'=>zGr xs os x os')
theorem zGn:PSound Tryz.prog 61 zDX :=
 PSound.ofOwn Tryz.call61 fun G w β xs vs os x os' h1 h2 h3 h4 h5 ⟨a0,y0,hm,hx,ho,hr,ho'⟩=>by
  obtain⟨⟨hq,hq2⟩,hm⟩:=zAK hm;exact zMr (D:=177) (e:=5) (cells:=zA1 (.op 0 39) (.orow 1)) rfl rfl rfl zIN (fun b g cap l w cur mk=>Tryz.bld_String b 39 g cap l w cur mk) G w β xs vs os x os' h1 h2 h3 h4 h5 ⟨a0,hq,hq2,hx,ho,by rw[hr,Option.some.inj hm],ho'⟩
theorem Ext.grow {G:Nat->Prop}{w:World} (h:∀ b,G b->b<w.heap.size) (k:Nat) (os:Array Obj):Ext G G w (Sort.grow (w.drewN k) os) :=
 ⟨rfl,rfl,rfl,by show w.heap.size<=(w.heap++os).size; simp,fun b hb=>by show(w.heap++os)[b]? = _; simp[Array.getElem?_append,hb],fun _ h=>h,fun _ h=>.inl h,fun b hb=>by have:=h b hb; show b<(w.heap++os).size; simp; omega⟩
theorem yAk {G:Nat->Prop}{w:World} (h:GlobOk G w):Lib.TabIs Tryz.prog w "internal/strconv.uint64pow10" .u64 Lib.pow10Tab:=by
 obtain⟨_,e,f,hh⟩:=h.2 1 _ rfl;have hg:Tryz.prog.globalNamed "internal/strconv.uint64pow10" = some 1:=by kernel_rfl
 unfold Lib.TabIs World.var?
 rw[hg]
 simp only[Option.bind_some,hh]
def zNF (xs:List AV) (r:Ret):Prop:=∃ (a0:Int) (y0:List UInt8),zDN a0=some y0/\xs=[.s (.int .i64 a0)]/\r = .val (.s (.str y0))
def zGg:zAp:=zAu fun xs r=>zNF xs r
theorem zHN:PSound Tryz.prog 133 zGg :=
 ⟨Tryz.call133,fun G w xs vs r hl hgl hp hv ⟨a,y,hm,hx,hr⟩=>by
  subst hx; subst hr
  obtain⟨⟨q1,q2⟩,hm⟩:=zAK hm;have hy:=Option.some.inj hm;subst hy;simp only[AVals,AVal,Rep]at hv;obtain⟨_,_,rfl,rfl,rfl⟩:=hv;exact(Tryz.strconv_Itoa a q1 q2 w (yAk hgl)).mono fun e w' ⟨h1,k,os,h2⟩=>⟨_,G,h1,by rw[h2]; exact Ext.grow hl k os,rfl,by simp only[AVal,Rep]⟩,fun R hR=>(by cases hR),fun R hR=>(by cases hR)⟩
def VAt (hp:Nat->Option Ob) (e:Nat) (v:AV) (ks:List Nd) (keys:List Nat):Prop :=
 (ks=[]/\v = .s (.sl 4 [])/\keys=[])∨∃ q rows keys' w,v = .orow q/\hp q=some (.arow e 4 rows)/\rows.length=ks.length/\keys=q::keys'/\LAt hp e q 0 ks keys' [] w
theorem At.full {hp:Nat->Option Ob}{e:Nat}{p:AV}{k c:Int}{t:List UInt8}{ks:List Nd}{keys:List Nat}{w:Nat} (h:At hp e p (.mk k t c ks) keys [] w):∃ v,zAO hp p=some (zBd k t c v)/\VAt hp e v ks keys:=by
 simp only[At]at h;obtain⟨v,hc,⟨_,_,h,_⟩ | ⟨rfl,rfl,rfl,_,_⟩ | ⟨q,rows,keys',rfl,hq,hlen,rfl,h⟩⟩:=h
 ·cases h
 ·exact⟨_,hc,.inl ⟨rfl,rfl,rfl⟩⟩
 ·exact⟨_,hc,.inr ⟨q,rows,keys',w,rfl,hq,hlen,rfl,h⟩⟩
def zQk (xs:List AV) (hp:Nat->Option Ob) (n:Nat) (Φ:AV->(Nat->Option Ob)->Nat->Prop):Prop :=
 ∃ (k c:Int) (tx:List UInt8) (ks:List Nd),(Nd.mk k tx c ks).cnt<=1000000000/\xs=[.agg (zBd k tx c (.s (.sl 4 (Nd.encs ks))))] /\
  ∀ v hp' n' keys,n<=n'->(∀ k,k<n->hp' k=hp k)->VAt hp' 24 v ks keys->keys.Nodup->(∀ k∈keys,n<=k/\k<n')->Φ (.agg (zBd k tx c v)) hp' n'
def zLY:zAp:=zRa zQk
theorem zWm {T:Nat->Option TI}{σ:St}{t ty q bt:Nat}{i:TI}{cells:List AV} (h1:σ.env t = .op q 0) (h2:σ.hp q=some (.box bt cells)) (h3:T ty=some i) (ha:i.k.agg=true) (hz:i.size=cells.length):zHf T σ [.cell t ty]=some (AV.deep (.agg cells)):=by
 have hb:Nat.ble i.size cells.length=true :=(by rw[hz]; exact Nat.ble_eq_true_of_le (Nat.le_refl _));simp only[zHf,zHR,zRQ,h1,h2,h3,ha,hb]
 rw[hz,List.take_length]
theorem zWM {σ:St}{q:Nat}{ob:Ob}:(zEv σ q ob).hp q=some ob:=by simp only[zEv,Nat.beq_refl,cond_true]
theorem upd_ne {σ:St}{q k:Nat}{ob:Ob} (h:k ≠ q):(zEv σ q ob).hp k=σ.hp k:=by simp only[zEv,zDY h,cond_false]
theorem VAt.frame {hp hp':Nat->Option Ob}{e:Nat}{v:AV}{ks:List Nd}{keys:List Nat} (h:VAt hp e v ks keys) (hs:∀ k∈keys,hp' k=hp k):VAt hp' e v ks keys:=by
 rcases h with h | ⟨q,rows,keys',w,h1,h2,h3,rfl,h4⟩
 ·exact .inl h
 ·exact .inr ⟨q,rows,keys',w,h1,(hs q List.mem_cons_self).trans h2,h3,rfl,h4.sameQ (Sim.same (p0:=.junk) fun k hk=>hs k (List.mem_cons.2 hk)) (fun j _ e=>by cases e) (fun q j _ e=>by cases e)⟩
theorem zDd {T:Nat->Option TI}{own:Bool}{o:Oper}{σ:St}{p:AV}{y:Operand} (hl:isL 4 p) (ho:o.op = .assign y∨o.op = .move y) (hy:opd T σ.env o.type y=p) (hn:(own&&zA6 y)=false):step1 T own o σ=some (none,p,σ):=by
 have e0:p.nrm=p:=by rcases hl with ⟨_,_,rfl⟩ | ⟨_,rfl⟩ <;> rfl
 have e1:zB2 T own o σ.env=some (none,p):=by
  rcases ho with ho | ho <;> simp only[zB2,ho,hn,hy,e0]
 simp only[step1,e1]
theorem zHU {c:Cx}{x:Code}{σ:St}{Q:Abs.End->St->Prop} (l:List (Nat×AV)) (n':Nat) (h:holds σ.env l) (hn:σ.nx=n') (hk:∀ H,(∀ k,H k=σ.hp k)->Tri c x ⟨ofL l,H,n'⟩ Q):Tri c x σ Q:=by
 subst hn;exact zAj (Le.forget l h) (hk σ.hp fun _=>rfl)
theorem At.pend {hp:Nat->Option Ob}{e w:Nat}{p:AV}{k c:Int}{tx:List UInt8}{ks:List Nd} (h:At hp e p (.mk k tx c ks) [] [p] w):zAO hp p=some (zBd k tx c (.s (.sl 4 (Nd.encs ks)))):=by
 simp only[At]at h;obtain⟨v,hc,⟨rfl,_⟩ | ⟨_,_,_,h,_⟩ | ⟨q,rows,keys',_,_,_,h,_⟩⟩:=h
 ·exact hc
 ·cases h
 ·cases h
theorem zIb {hp hp':Nat->Option Ob}{sz k:Nat}{p:AV}{c:List AV} (hl:isL sz p) (h1:hp' k=hp k) (h2:hp' (zBr p)=hp (zBr p)):putC hp' p c k=putC hp p c k:=by
 rcases hl with ⟨q,i,rfl⟩ | ⟨q,rfl⟩ <;> (simp only[zBr]at h2; simp only[putC,h1,h2])
theorem zUG {hp hp':Nat->Option Ob}{sz k:Nat}{p:AV}{c c' cs:List AV} (hl:isL sz p) (hc:zAO hp p=some cs) (h:hp' (zBr p)=putC hp p c' (zBr p)) (hk:k ≠ zBr p->hp' k=hp k):putC hp' p c k=putC hp p c k:=by
 by_cases hb:k=zBr p
 ·subst hb;rcases zCU hl hc with ⟨q,i,e,rows,rfl,hq,hi⟩ | ⟨q,bt,rfl,hq⟩
  ·simp only[zBr]at h ⊢;rw[zI0 hq]at h ⊢;simp only[Nat.beq_refl,cond_true]at h ⊢;rw[zI0 h]
   simp only[Nat.beq_refl,cond_true,List.set_set]
  ·simp only[zBr]at h ⊢;rw[zFI hq]at h ⊢;simp only[Nat.beq_refl,cond_true]at h ⊢;rw[zFI h]
   simp only[Nat.beq_refl,cond_true]
 ·rw[zBS hb,zBS hb,hk hb]
theorem zVL {q j:Nat}:locs q 0 (j+1)=locs q 0 j++[.rp q 4 j 0]:=by
 simp[locs,List.range'_concat]
theorem zXn {α:Type}{S:List α}{p:α}:((S++[p]).map fun p=>[p]).getD S.length []=[p]:=by
 simp[List.getD_eq_getElem?_getD]
structure DInv (hp:Nat->Option Ob) (n e pe:Nat) (t:Nd) (H:Nat->Option Ob) (ls nx:Nat) (S:List AV) (keys:List Nat) (w:Nat):Prop where
 low:∀ k,k<n->H k=hp k
 res:∃ a b c d,H (n+1)=some (.box e [a,b,c,d])
 stk:H ls=some (.arow pe 1 (S.map fun p=>[p]))
 tree:At H e (.op n 0) t keys S w
 nd:(n::keys).Nodup
 kb:∀ k∈keys,n+1<k/\k<nx/\k ≠ ls
 l1:n+1<ls
 l2:ls<nx
set_option maxHeartbeats 4000000 in
theorem zGS:PSound Tryz.prog 19 zLY:=by
 have gok:=@gok0 Tryz.prog;refine zMJ tokW Tryz.call19 Tryz.func19 rfl (fun xs hp n Φ h=>by obtain⟨_,_,_,_,_,rfl,_⟩:=h; show 1<=_; decide) _ rfl ?_;rintro xs hp n Φ w0 G0 B0 ⟨k0,c,tx,ks,hcnt,rfl,hΦ⟩ _ hhp;refine zZx [1,2] [] rfl ?_;refine zZx [7] [] rfl ?_;show Tri ..
 refine zAj (Le.forgetH [(1,.op n 0),(2,.op (n+1) 0),(3,.orow (n+2))] (fun k=>bif Nat.beq k (n+2) then some (.arow 66 1 [[.op n 0]]) else bif Nat.beq k (n+1) then some (.box 24 [.s (.int .i64 0),.s (.str []),.s (.int .i64 0),.nl 4]) else bif Nat.beq k n then some (.box 24 (zBd k0 tx c (.s (.sl 4 (Nd.encs ks))))) else hp k) (n+3) ⟨rfl,rfl,rfl,trivial⟩ (fun k=>rfl) rfl) ?_
 have hI:DInv hp n 24 66 (.mk k0 tx c ks) (fun k=>bif Nat.beq k (n+2) then some (.arow 66 1 [[.op n 0]]) else bif Nat.beq k (n+1) then some (.box 24 [.s (.int .i64 0),.s (.str []),.s (.int .i64 0),.nl 4]) else bif Nat.beq k n then some (.box 24 (zBd k0 tx c (.s (.sl 4 (Nd.encs ks))))) else hp k) (n+2) (n+3) [.op n 0] [] (Nd.mk k0 tx c ks).cnt:={
  low:=fun k hk=>by
   have h1:k ≠ n+2 :=(by omega);have h2:k ≠ n+1 :=(by omega);have h3:k ≠ n :=(by omega);simp only[zDY h1,zDY h2,zDY h3,cond_false]
  res:=⟨.s (.int .i64 0),.s (.str []),.s (.int .i64 0),.nl 4,by
   have h1:n+1 ≠ n+2 :=(by omega);simp only[zDY h1,Nat.beq_refl,cond_false,cond_true]⟩
  stk:=by simp only[Nat.beq_refl,cond_true]; rfl
  tree:=by
   have h1:n ≠ n+2 :=(by omega);have h2:n ≠ n+1 :=(by omega);simp only[At]
   exact⟨.s (.sl 4 (Nd.encs ks)),zDZ (bt:=24) (by simp only[zDY h1,zDY h2,Nat.beq_refl,cond_false,cond_true]),.inl (by simp[Nd.cnt])⟩
  nd:=by simp
  kb:=fun k hk=>by cases hk
  l1:=by omega
  l2:=by omega }
 generalize hH:(fun k=>bif Nat.beq k (n+2) then some (Ob.arow 66 1 [[AV.op n 0]]) else bif Nat.beq k (n+1) then some (Ob.box 24 [AV.s (.int .i64 0),AV.s (.str []),AV.s (.int .i64 0),AV.nl 4]) else bif Nat.beq k n then some (Ob.box 24 (zBd k0 tx c (.s (.sl 4 (Nd.encs ks))))) else hp k)=H0 at hI ⊢
 clear hH
 refine zAa ?_;refine zAi (zAy (X:=(Nat->Option Ob)×Nat×Nat×List AV×List Nat×Nat) (fun y=>match y with | (H,ls,nx,S,keys,w)=>⟨ofL [(1,.op n 0),(2,.op (n+1) 0),(3,.orow ls)],H,nx⟩)
  (fun y=>match y with | (H,ls,nx,S,keys,w)=>DInv hp n 24 66 (.mk k0 tx c ks) H ls nx S keys w) (fun y=>match y with | (H,ls,nx,S,keys,w)=>w) (H0,n+2,n+3,[.op n 0],[],(Nd.mk k0 tx c ks).cnt) hI (Le.refl _ _) ?_)
 rintro⟨H,ls,nx,S,keys,w⟩ hI;have hI:DInv hp n 24 66 (.mk k0 tx c ks) H ls nx S keys w:=hI;refine zAa ?_;refine yAD ?_;refine zAd rfl rfl rfl rfl rfl rfl trivial ?_;refine zAd rfl rfl rfl rfl rfl (zNg rfl rfl rfl rfl rfl hI.stk) trivial ?_;refine zAd rfl rfl rfl rfl rfl rfl trivial ?_;refine zAx rfl (fun hb=>?_) (fun hb=>?_)
 rotate_left
 ·refine zAB ?_;refine zAj (Le.forget [(1,.op n 0),(2,.op (n+1) 0),(3,.orow ls)] ⟨rfl,rfl,rfl,trivial⟩) ?_;have hS:S=[]:=by
   cases S with
   | nil=>rfl
   | cons x S =>
    have:=of_decide_eq_false hb;simp only[List.length_map,List.length_cons]at this
    omega
  subst hS;obtain⟨v,hc,hv⟩:=hI.tree.full;rcases zCU (sz:=4) (.inr ⟨n,rfl⟩) hc with ⟨q,i,e,rows,h1,_⟩ | ⟨q,bt,h1,hq⟩
  ·cases h1
  cases h1;obtain⟨ra,rb,rc,rd,hr1⟩:=hI.res;refine yAD ?_;refine zAd rfl rfl rfl rfl rfl (zWv rfl rfl rfl rfl hq rfl) trivial ?_;have hvl:v.one=true/\v.lt nx=true:=by
   rcases hv with ⟨_,rfl,_⟩ | ⟨q,_,_,_,rfl,_,_,hk,_⟩
   ·exact⟨rfl,rfl⟩
   ·exact⟨rfl,decide_eq_true (hI.kb q (by rw[hk]; exact List.mem_cons_self)).2.1⟩
  refine zFy rfl rfl rfl (zNh rfl rfl rfl hr1 rfl rfl (by show([AV.s _,AV.s _,AV.s _,v]:List AV).all AV.one=true; simp only[List.all_cons,List.all_nil,hvl.1]; rfl) (by show AV.ltAll nx [AV.s _,AV.s _,AV.s _,v]=true; simp only[AV.ltAll,hvl.2]; rfl)) trivial ?_;refine zAh ?_;have hln:n<nx:=Nat.lt_trans (Nat.lt_trans (Nat.lt_succ_self n) hI.l1) hI.l2;have hdeep:AV.deep (.agg (zBd k0 tx c v)) = .agg (zBd k0 tx c v):=by
   rcases hv with ⟨_,rfl,_⟩ | ⟨q,_,_,_,rfl,_⟩ <;> rfl
  unfold zFV;refine⟨_,Le.refl _ _,.agg (zBd k0 tx c v),?_,hΦ v _ _ keys (Nat.le_of_lt hln) (fun k hk=>?_) ?_ (List.nodup_cons.1 hI.nd).2 fun k hk=>⟨Nat.le_of_lt (Nat.lt_trans (Nat.lt_succ_self n) (hI.kb k hk).1),(hI.kb k hk).2.1⟩⟩
  ·exact(zWm (cells:=zBd k0 tx c v) rfl zWM rfl rfl rfl).trans (congrArg some hdeep)
  ·exact(upd_ne (by omega)).trans (hI.low k hk)
  ·exact hv.frame fun k hk=>upd_ne (by have:=(hI.kb k hk).1; omega)
 refine zAf ?_;show Tri ..;obtain⟨S',p,rfl⟩:∃ S' p,S=S'++[p]:=by
  rcases List.eq_nil_or_concat S with rfl | ⟨S',p,rfl⟩
  ·cases hb
  ·exact⟨S',p,List.concat_eq_append⟩
 have hl0:isL 4 p:=hI.tree.loc (.inr ⟨n,rfl⟩) (by simp)
 obtain⟨⟨k1,tx1,c1,ks1⟩,w1,hp0,hw,hrep⟩:=hI.tree.repl (.inr ⟨n,rfl⟩) hI.nd;have hcell:=hp0.pend;have hwl:=hI.tree.len;have hSl:S'.length<1000000000:=by
  have:=hwl.1;have:=hwl.2;simp only[List.length_append,List.length_singleton]at *
  omega
 have hz:IntKind.i64.wrap (((((S'++[p]).map fun p=>[p]).length:Nat):Int) - 1)=(S'.length:Int):=by
  rw[wrap64_in (by simp only[List.length_map,List.length_append,List.length_singleton]; omega) (by simp only[List.length_map,List.length_append,List.length_singleton]; omega)]
  simp only[List.length_map,List.length_append,List.length_singleton]; omega
 have hlt1:S'.length<((S'++[p]).map fun p=>[p]).length :=(by simp);refine zAj (Le.forget [(1,.op n 0),(2,.op (n+1) 0),(3,.orow ls)] ⟨rfl,rfl,rfl,trivial⟩) ?_;refine zAi ?_;refine yAD ?_;refine zAd rfl rfl rfl rfl rfl rfl trivial ?_;refine zAd rfl rfl rfl rfl rfl rfl trivial ?_;refine zAd rfl rfl rfl rfl rfl (zNg rfl rfl rfl rfl rfl hI.stk) trivial ?_;refine zAd rfl rfl rfl rfl rfl rfl trivial ?_;rw[hz]
 refine zAd rfl rfl rfl rfl rfl (zP6 rfl rfl rfl rfl rfl rfl hI.stk rfl) ⟨Int.natCast_nonneg _,Int.ofNat_lt.2 hlt1⟩ ?_;refine zQ1 (c:=p) rfl rfl rfl rfl rfl rfl hI.stk hlt1 (by rw[Int.toNat_natCast,zXn]; rfl) ?_;refine zAd rfl rfl rfl rfl rfl (zDd hl0 (.inl rfl) rfl rfl) trivial ?_;refine zAj (Le.forget [(1,.op n 0),(2,.op (n+1) 0),(3,.orow ls),(4,p)] ⟨rfl,rfl,rfl,rfl,trivial⟩) ?_;refine zZx [21] [] rfl ?_;refine zAd rfl rfl rfl rfl rfl rfl trivial ?_;refine zAd rfl rfl rfl rfl rfl rfl trivial ?_;refine zAd rfl rfl rfl rfl rfl (zNg rfl rfl rfl rfl rfl hI.stk) trivial ?_
 refine zAd rfl rfl rfl rfl rfl rfl trivial ?_;rw[hz]
 refine zAd rfl rfl rfl rfl rfl (zWw rfl rfl rfl rfl rfl rfl hI.stk rfl) ⟨Int.natCast_nonneg _,Int.ofNat_le.2 (Nat.le_of_lt hlt1)⟩ ?_;refine zAd rfl rfl rfl rfl rfl rfl trivial ?_;show Tri ..;refine zHU [(1,.op n 0),(2,.op (n+1) 0),(3,.orow nx),(4,p)] (nx+1) ⟨rfl,rfl,rfl,rfl,trivial⟩ rfl fun H1 hH1=>?_
 have g1:H1 nx=some (.arow 66 1 (S'.map fun p=>[p])):=(hH1 nx).trans (by
  show(bif Nat.beq nx nx then some (Ob.arow 66 1 (((S'++[p]).map fun p=>[p]).take ((S'.length:Int)).toNat)) else _)=_;rw[Nat.beq_refl,cond_true,Int.toNat_natCast]
  simp)
 have g2:∀ k,k ≠ nx->k ≠ ls->H1 k=H k:=fun k h1 h2=>(hH1 k).trans (by
  show(bif Nat.beq k nx then _ else bif Nat.beq k ls then none else H k)=_;rw[zDY h1,zDY h2]; rfl)
 clear hH1
 have hbase:zBr p=n∨zBr p∈keys:=by
  rcases hI.tree.base (p0:=p) (by simp) with h | h
  ·exact .inl (by rw[h]; rfl)
  ·exact .inr h
 have hln:n<nx:=Nat.lt_trans (Nat.lt_trans (Nat.lt_succ_self n) hI.l1) hI.l2;have hbl:zBr p ≠ nx/\zBr p ≠ ls/\zBr p ≠ n+1/\zBr p<nx:=by
  have h1:=hI.l1;have h2:=hI.l2;rcases hbase with h | h
  ·rw[h]; omega
  ·have:=hI.kb _ h; omega
 have fin:∀ (cs:List AV) (Hj:Nat->Option Ob) (lsj nxj:Nat) (new:List Nat) (ch:List AV) (w':Nat),(∀ k,k ≠ ls->k<nx->Hj k=putC H p cs k)->Hj lsj=some (.arow 66 1 ((S'++ch).map fun p=>[p]))->At Hj 24 p (.mk k1 tx1 c1 ks1) new ch w' ->
   new.Nodup->(∀ k∈new,nx<=k/\k<nxj/\k ≠ lsj)->nx<=lsj->lsj<nxj->w'<(Nd.mk k1 tx1 c1 ks1).cnt->∃ keys2,DInv hp n 24 66 (.mk k0 tx c ks) Hj lsj nxj (S'++ch) keys2 (w1+w')/\w1+w'<w:=by
  intro cs Hj lsj nxj new ch w' f1 f2 f3 f4 f5 f6 f7 f8;have l1:=hI.l1;have l2:=hI.l2;have hD:∀ k,k=n∨k∈keys->k ≠ ls/\k<nx:=fun k hk=>by
   rcases hk with rfl | hk
   ·omega
   ·have:=hI.kb k hk; omega
  obtain⟨keys2,hperm,hat⟩:=hrep Hj new ch w' (Sim.put hl0 hcell fun k hk=>f1 k (hD k hk).1 (hD k hk).2) f3;have hmem:∀ k,k∈keys2->k∈keys∨k∈new:=fun k hk=>List.mem_append.1 (hperm.mem_iff.1 hk)
  have hkn:=List.nodup_cons.1 hI.nd;refine⟨keys2,{
   low:=fun k hk=>(f1 k (by omega) (by omega)).trans ((zBS (by
    rcases hbase with h | h
    ·omega
    ·have:=hI.kb _ h; omega)).trans (hI.low k hk))
   res:=by
    obtain⟨a,b,c,d,hr⟩:=hI.res;exact⟨a,b,c,d,(f1 (n+1) (by omega) (by omega)).trans ((zBS (Ne.symm hbl.2.2.1)).trans hr)⟩
   stk:=f2
   tree:=hat
   nd:=List.nodup_cons.2 ⟨fun hm=>by
    rcases hmem n hm with h | h
    ·exact hkn.1 h
    ·have:=f5 n h; omega,hperm.nodup_iff.2 (List.nodup_append.2 ⟨hkn.2,f4,fun a ha b hb e=>by
     have:=hI.kb a ha;have:=f5 b hb
     omega⟩)⟩
   kb:=fun k hk=>by
    rcases hmem k hk with h | h
    ·have:=hI.kb k h; omega
    ·have:=f5 k h; omega
   l1:=by omega
   l2:=f7 },by omega⟩
 have hc1:zAO H1 p=some (zBd k1 tx1 c1 (.s (.sl 4 (Nd.encs ks1)))):=(zCl hl0 (g2 _ hbl.1 hbl.2.1)).trans hcell;refine yAD ?_;refine zAd rfl rfl rfl rfl rfl (zDd hl0 (.inr rfl) rfl rfl) trivial ?_;refine zAd rfl rfl rfl rfl rfl (zEL hl0 rfl rfl) trivial ?_;refine zAd rfl rfl rfl rfl rfl (zE3 hl0 rfl rfl rfl rfl rfl rfl rfl) trivial ?_;refine zDK (off:=3) (sz:=4) rfl rfl rfl rfl rfl rfl rfl hl0 rfl hc1 rfl ?_;refine zAd rfl rfl rfl rfl rfl rfl trivial ?_;show Tri ..
 refine zAj (Le.forget [(1,.op n 0),(2,.op (n+1) 0),(3,.orow nx),(4,p),(5,.s (.sl 4 (Nd.encs ks1)))] ⟨rfl,rfl,rfl,rfl,rfl,trivial⟩) ?_;refine yAD ?_;refine zAd rfl rfl rfl rfl rfl (zDd hl0 (.inr rfl) rfl rfl) trivial ?_;refine zAd rfl rfl rfl rfl rfl (zEL hl0 rfl rfl) trivial ?_;refine zAd rfl rfl rfl rfl rfl (zE3 hl0 rfl rfl rfl rfl rfl rfl rfl) trivial ?_;refine zQ2 (off:=3) (sz:=4) (c:=.s (.sl 4 [])) rfl rfl rfl rfl rfl hl0 rfl hc1 rfl (by decide) rfl rfl rfl ?_;show Tri ..
 refine zHU [(1,.op n 0),(2,.op (n+1) 0),(3,.orow nx),(4,p),(5,.s (.sl 4 (Nd.encs ks1)))] (nx+1) ⟨rfl,rfl,rfl,rfl,rfl,trivial⟩ rfl fun H2 hH2=>?_
 have hH2:∀ k,H2 k=putC H1 p (zBd k1 tx1 c1 (.s (.sl 4 []))) k:=hH2
 have hc2:zAO H2 p=some (zBd k1 tx1 c1 (.s (.sl 4 []))):=(zCl hl0 (hH2 _)).trans (zIO hl0 hc1)
 refine zAa ?_;refine yAD ?_;refine zAd rfl rfl rfl rfl rfl rfl trivial ?_;refine zAd rfl rfl rfl rfl rfl rfl trivial ?_;refine zAd rfl rfl rfl rfl rfl rfl trivial ?_;refine zAx rfl (fun hb=>?_) (fun hb=>?_)
 rotate_left
 ·obtain rfl:ks1=[]:=by
   cases ks1 with
   | nil=>rfl
   | cons x l =>
    have:=of_decide_eq_false hb;simp only[Nd.encs,List.length_cons]at this
    omega
  refine zAf ?_;refine zAj (Le.forget [(1,.op n 0),(2,.op (n+1) 0),(3,.orow nx),(4,p),(5,.s (.sl 4 []))] ⟨rfl,rfl,rfl,rfl,rfl,trivial⟩) ?_;refine yAD ?_;refine zAd rfl rfl rfl rfl rfl (zDd hl0 (.inr rfl) rfl rfl) trivial ?_;refine zAd rfl rfl rfl rfl rfl (zEL hl0 rfl rfl) trivial ?_;refine zAd rfl rfl rfl rfl rfl (zE3 hl0 rfl rfl rfl rfl rfl rfl rfl) trivial ?_;refine zDK (off:=3) (sz:=4) rfl rfl rfl rfl rfl rfl rfl hl0 rfl hc2 rfl ?_;refine zAd rfl rfl rfl rfl rfl rfl trivial ?_;refine zAd rfl rfl rfl rfl rfl rfl trivial ?_;show Tri ..
  refine zAj (Le.forget [(1,.op n 0),(2,.op (n+1) 0),(3,.orow nx),(4,p),(5,.s (.sl 4 []))] ⟨rfl,rfl,rfl,rfl,rfl,trivial⟩) ?_;refine yAD ?_;refine zAd rfl rfl rfl rfl rfl (zDd hl0 (.inr rfl) rfl rfl) trivial ?_;refine zAd rfl rfl rfl rfl rfl (zEL hl0 rfl rfl) trivial ?_;refine zAd rfl rfl rfl rfl rfl (zE3 hl0 rfl rfl rfl rfl rfl rfl rfl) trivial ?_;refine zDK (off:=3) (sz:=4) rfl rfl rfl rfl rfl rfl rfl hl0 rfl hc2 rfl ?_;refine zAd rfl rfl rfl rfl rfl rfl trivial ?_;refine zAd rfl rfl rfl rfl rfl rfl trivial ?_;show Tri ..
  refine zAi (zAy (X:=Unit) (fun _=>⟨ofL [(1,.op n 0),(2,.op (n+1) 0),(3,.orow nx),(48,.s (.int .i64 0)),(49,.s (.int .i64 0))],H2,nx+1⟩) (fun _=>True) (fun _=>0) () trivial (Le.forget [(1,.op n 0),(2,.op (n+1) 0),(3,.orow nx),(48,.s (.int .i64 0)),(49,.s (.int .i64 0))] ⟨rfl,rfl,rfl,rfl,rfl,trivial⟩) ?_)
  rintro⟨⟩ _;refine yAD ?_;refine zAd rfl rfl rfl rfl rfl rfl trivial ?_;refine zAa ?_;refine zAx rfl (fun hb=>by cases hb) (fun hb=>?_)
  refine zAB ?_;obtain⟨keys2,hz1,hz2⟩:=fin (zBd k1 tx1 c1 (.s (.sl 4 []))) H2 nx (nx+1) [] [] 0
   (fun k h1 h2=>(hH2 k).trans (zIb hl0 (g2 k (by omega) h1) (g2 _ hbl.1 hbl.2.1)))
   (by rw[List.append_nil]; exact(hH2 nx).trans ((zBS (Ne.symm hbl.1)).trans g1))
   (by simp only[At]; exact⟨.s (.sl 4 []),hc2,.inr (.inl (by simp))⟩) (by simp) (fun k hk=>by cases hk) (Nat.le_refl _) (Nat.lt_succ_self _) (by simp[Nd.cnt])
  exact⟨(H2,nx,nx+1,S'++[],keys2,w1+0),hz1,Le.forget [(1,.op n 0),(2,.op (n+1) 0),(3,.orow nx)] ⟨rfl,rfl,rfl,trivial⟩,hz2⟩
 ·have hm:0<ks1.length:=by
   have:=of_decide_eq_true hb;rw[Nd.encs_eq,List.length_map]at this
   omega
  have hkl:ks1.length<1000000000:=by
   have h1:=Nd.cnts_len ks1;have h2:=hwl.2;simp only[Nd.cnt]at hw hcnt h2
   omega
  have hel:(Nd.encs ks1).length=ks1.length :=(by rw[Nd.encs_eq,List.length_map]);refine zAj (Le.forget [(1,.op n 0),(2,.op (n+1) 0),(3,.orow nx),(4,p),(5,.s (.sl 4 (Nd.encs ks1)))] ⟨rfl,rfl,rfl,rfl,rfl,trivial⟩) ?_;refine zAb [35] [] rfl ?_;refine zAd rfl rfl rfl rfl rfl (zDd hl0 (.inr rfl) rfl rfl) trivial ?_;refine zAd rfl rfl rfl rfl rfl rfl trivial ?_;refine zAd rfl rfl rfl rfl rfl rfl trivial ?_
  refine zAd rfl rfl rfl rfl rfl (yAB rfl rfl rfl rfl rfl rfl rfl rfl rfl) (show 0<=_/\_ from⟨Int.natCast_nonneg _,Int.le_refl _,show(((Nd.encs ks1).length:Nat):Int) * ((56:Nat):Int)<=281474976710656 by omega,show(((Nd.encs ks1).length:Nat):Int)<=281474976710656 by omega⟩) ?_;refine zAd rfl rfl rfl rfl rfl (zEL hl0 rfl rfl) trivial ?_;refine zAd rfl rfl rfl rfl rfl (zE3 hl0 rfl rfl rfl rfl rfl rfl rfl) trivial ?_;have hbn:zBr p ≠ nx+1:=by have:=hbl.2.2.2; omega
  refine zQ2 (off:=3) (sz:=4) (c:=.orow (nx+1)) rfl rfl rfl rfl rfl hl0 rfl ((zCl hl0 (by show(bif Nat.beq (zBr p) (nx+1) then _ else H2 (zBr p))=_; rw[zDY hbn]; rfl)).trans hc2) rfl (by decide) rfl rfl (decide_eq_true (Nat.lt_succ_self _)) ?_;show Tri ..;refine zHU [(1,.op n 0),(2,.op (n+1) 0),(3,.orow nx),(4,p),(5,.s (.sl 4 (Nd.encs ks1)))] (nx+2) ⟨rfl,rfl,rfl,rfl,rfl,trivial⟩ rfl fun H3 hH3=>?_
  have hH3:∀ k,H3 k=putC (fun k=>bif Nat.beq k (nx+1) then some (.row 24 4 (List.replicate (((Nd.encs ks1).length:Int)).toNat [.int .i64 0,.str [],.int .i64 0,.sl 4 []])) else H2 k) p (zBd k1 tx1 c1 (.orow (nx+1))) k:=hH3
  have a1:H3 (nx+1)=some (.row 24 4 (List.replicate (((Nd.encs ks1).length:Int)).toNat [.int .i64 0,.str [],.int .i64 0,.sl 4 []])):=(hH3 _).trans ((zBS (Ne.symm hbn)).trans (by simp only[Nat.beq_refl,cond_true]))
  have a2:∀ k,k ≠ nx+1->H3 k=putC H2 p (zBd k1 tx1 c1 (.orow (nx+1))) k:=fun k hk=>(hH3 k).trans (zIb hl0 (by simp only[zDY hk,cond_false]) (by simp only[zDY hbn,cond_false]))
  have hc3:zAO H3 p=some (zBd k1 tx1 c1 (.orow (nx+1))):=(zCl hl0 (a2 _ hbn)).trans (zIO hl0 hc2)
  refine zAj (Le.toA (nx+1) a1) ?_;refine yAD ?_;refine zAd rfl rfl rfl rfl rfl (zDd hl0 (.inr rfl) rfl rfl) trivial ?_;refine zAd rfl rfl rfl rfl rfl (zEL hl0 rfl rfl) trivial ?_;refine zAd rfl rfl rfl rfl rfl (zE3 hl0 rfl rfl rfl rfl rfl rfl rfl) trivial ?_;refine zDK (off:=3) (sz:=4) rfl rfl rfl rfl rfl rfl rfl hl0 rfl ((zCl hl0 (upd_ne hbn)).trans hc3) rfl ?_;refine zAd rfl rfl rfl rfl rfl rfl trivial ?_;refine zAd rfl rfl rfl rfl rfl (zX0 rfl rfl rfl rfl rfl rfl rfl rfl rfl zWM rfl rfl) (show(List.map _ _).length=List.length _ by simp) ?_;show Tri ..
  refine zHU [(1,.op n 0),(2,.op (n+1) 0),(3,.orow nx),(4,p),(5,.s (.sl 4 (Nd.encs ks1)))] (nx+2) ⟨rfl,rfl,rfl,rfl,rfl,trivial⟩ rfl fun H4 hH4=>?_
  have r1:H4 (nx+1)=some (.arow 24 4 ((Nd.encs ks1).map (·.map AV.s))):=(hH4 _).trans zWM;have r2:∀ k,k ≠ nx+1->H4 k=H3 k:=fun k hk=>(hH4 k).trans ((upd_ne hk).trans (upd_ne hk))
  clear hH4
  have hc4:zAO H4 p=some (zBd k1 tx1 c1 (.orow (nx+1))):=(zCl hl0 (r2 _ hbn)).trans hc3;refine yAD ?_;refine zAd rfl rfl rfl rfl rfl (zDd hl0 (.inr rfl) rfl rfl) trivial ?_;refine zAd rfl rfl rfl rfl rfl (zEL hl0 rfl rfl) trivial ?_;refine zAd rfl rfl rfl rfl rfl (zE3 hl0 rfl rfl rfl rfl rfl rfl rfl) trivial ?_;refine zDK (off:=3) (sz:=4) rfl rfl rfl rfl rfl rfl rfl hl0 rfl hc4 rfl ?_;refine zAd rfl rfl rfl rfl rfl (zNg rfl rfl rfl rfl rfl r1) trivial ?_;refine zAd rfl rfl rfl rfl rfl rfl trivial ?_;show Tri ..
  have hlen4:((Nd.encs ks1).map (·.map AV.s)).length=ks1.length :=(by rw[List.length_map,hel]);refine zAi (zAy (X:=(Nat->Option Ob)×Nat×Nat×Nat) (fun y=>match y with | (Hj,lsj,nxj,j)=>⟨ofL [(1,.op n 0),(2,.op (n+1) 0),(3,.orow lsj),(4,p),(48,.s (.int .i64 (ks1.length:Int))),(49,.s (.int .i64 (j:Int)))],Hj,nxj⟩)
   (fun y=>match y with | (Hj,lsj,nxj,j)=>j<=ks1.length/\(∀ k,k ≠ nx->k<nx+2->Hj k=H4 k)/\Hj lsj=some (.arow 66 1 ((S'++locs (nx+1) 0 j).map fun p=>[p]))/\(lsj=nx∨nx+2<=lsj)/\lsj<nxj/\nx+2<=nxj) (fun y=>match y with | (Hj,lsj,nxj,j)=>ks1.length - j) (H4,nx,nx+2,0)
   ⟨Nat.zero_le _,fun k _ _=>rfl,by
    refine(r2 nx (by omega)).trans ((a2 nx (by omega)).trans ((zBS (Ne.symm hbl.1)).trans ((hH2 nx).trans ((zBS (Ne.symm hbl.1)).trans (g1.trans ?_)))))
    simp[locs],.inl rfl,by omega,Nat.le_refl _⟩
   (Le.forget [(1,.op n 0),(2,.op (n+1) 0),(3,.orow nx),(4,p),(48,.s (.int .i64 (ks1.length:Int))),(49,.s (.int .i64 ((0:Nat):Int)))] ⟨rfl,rfl,rfl,rfl,congrArg (fun m:Nat=>AV.s (.int .i64 (m:Int))) hlen4,rfl,trivial⟩) ?_)
  rintro⟨Hj,lsj,nxj,j⟩ ⟨i1,i2,i3,i4,i5,i6⟩
  have hbj:zBr p ≠ nx/\zBr p<nx+2:=⟨hbl.1,by have:=hbl.2.2.2; omega⟩
  have hcj:zAO Hj p=some (zBd k1 tx1 c1 (.orow (nx+1))):=(zCl hl0 (i2 _ hbj.1 hbj.2)).trans hc4;have hrj:Hj (nx+1)=some (.arow 24 4 ((Nd.encs ks1).map (·.map AV.s))):=(i2 (nx+1) (by omega) (by omega)).trans r1;refine yAD ?_;refine zAd rfl rfl rfl rfl rfl rfl trivial ?_;refine zAa ?_;refine zAx rfl (fun hb=>?_) (fun hb=>?_)
  ·refine zAf ?_;show Tri ..;have hj:j<ks1.length:=Int.ofNat_lt.1 (of_decide_eq_true hb)
   have hsl:((S'++locs (nx+1) 0 j).map fun p=>[p]).length=S'.length+j :=(by simp[locs]);refine zAj (Le.forget [(1,.op n 0),(2,.op (n+1) 0),(3,.orow lsj),(4,p),(48,.s (.int .i64 (ks1.length:Int))),(49,.s (.int .i64 (j:Int)))] ⟨rfl,rfl,rfl,rfl,rfl,rfl,trivial⟩) ?_;refine zAa ?_;refine zAi ?_;refine yAD ?_;refine zAd rfl rfl rfl rfl rfl rfl trivial ?_;refine zAd rfl rfl rfl rfl rfl rfl trivial ?_;refine zAb [59,60] [] rfl ?_;refine zAd rfl rfl rfl rfl rfl rfl trivial ?_;refine zAd rfl rfl rfl rfl rfl (zDd hl0 (.inr rfl) rfl rfl) trivial ?_
   refine zAd rfl rfl rfl rfl rfl (zEL hl0 rfl rfl) trivial ?_;refine zAd rfl rfl rfl rfl rfl (zE3 hl0 rfl rfl rfl rfl rfl rfl rfl) trivial ?_;refine zDK (off:=3) (sz:=4) rfl rfl rfl rfl rfl rfl rfl hl0 rfl hcj rfl ?_;refine zAd rfl rfl rfl rfl rfl rfl trivial ?_;refine zAd rfl rfl rfl rfl rfl (zP6 rfl rfl rfl rfl rfl rfl hrj rfl) ⟨Int.natCast_nonneg _,Int.ofNat_lt.2 (by rw[hlen4]; exact hj)⟩ ?_;rw[Int.toNat_natCast]
   refine zAd rfl rfl rfl rfl rfl rfl trivial ?_;refine zAd rfl rfl rfl rfl rfl (zZo (rows:=(S'++locs (nx+1) 0 j).map fun p=>[p]) (rows2:=[[.rp (nx+1) 4 j 0]]) rfl rfl rfl rfl rfl rfl rfl rfl rfl (by show(bif Nat.beq lsj nxj then _ else Hj lsj)=_; rw[zDY (by omega)]; exact i3) (by show(bif Nat.beq nxj nxj then _ else Hj nxj)=_; rw[Nat.beq_refl]; rfl) rfl rfl rfl) (show(((S'++locs (nx+1) 0 j).map fun p=>[p]).length+1) * 8<=140737488355328/\((S'++locs (nx+1) 0 j).map fun p=>[p]).length+1<=9223372036854775807 by rw[hsl]; omega) ?_;refine zAd rfl rfl rfl rfl rfl rfl trivial ?_;show Tri ..
   refine zHU [(1,.op n 0),(2,.op (n+1) 0),(3,.orow (nxj+1)),(4,p),(48,.s (.int .i64 (ks1.length:Int))),(49,.s (.int .i64 (j:Int)))] (nxj+2) ⟨rfl,rfl,rfl,rfl,rfl,rfl,trivial⟩ rfl fun H5 hH5=>?_
   have e1:H5 (nxj+1)=some (.arow 66 1 ((S'++locs (nx+1) 0 (j+1)).map fun p=>[p])):=(hH5 _).trans (by
    show(bif Nat.beq (nxj+1) (nxj+1) then some (Ob.arow 66 1 (((S'++locs (nx+1) 0 j).map fun p=>[p])++[[.rp (nx+1) 4 j 0]])) else _)=_;rw[Nat.beq_refl,cond_true,zVL]
    simp)
   have e2:∀ k,k ≠ nxj+1->k ≠ lsj->k ≠ nxj->H5 k=Hj k:=fun k h1 h2 h3=>(hH5 k).trans (by
    show(bif Nat.beq k (nxj+1) then _ else bif Nat.beq k lsj then none else bif Nat.beq k nxj then _ else Hj k)=_;rw[zDY h1,zDY h2,zDY h3]; rfl)
   clear hH5
   refine yAC ?_;refine zAd rfl rfl rfl rfl rfl rfl trivial ?_;refine zAd rfl rfl rfl rfl rfl rfl trivial ?_;exact⟨(H5,nxj+1,nxj+2,j+1),⟨hj,fun k h1 h2=>(e2 k (by omega) (by omega) (by omega)).trans (i2 k h1 h2),e1,.inr (by omega),by omega,by omega⟩,
    Le.forget [(1,.op n 0),(2,.op (n+1) 0),(3,.orow (nxj+1)),(4,p),(48,.s (.int .i64 (ks1.length:Int))),(49,.s (.int .i64 ((j+1:Nat):Int)))] ⟨rfl,rfl,rfl,rfl,rfl,congrArg (fun z=>AV.s (.int .i64 z)) (zAP (by omega)),trivial⟩,by show ks1.length - (j+1)<ks1.length - j; omega⟩
  ·refine zAB ?_;have hj:j=ks1.length:=by
    have:=of_decide_eq_false hb
    omega
   subst hj;obtain⟨keys2,hz1,hz2⟩:=fin (zBd k1 tx1 c1 (.orow (nx+1))) Hj lsj nxj [nx+1] (locs (nx+1) 0 ks1.length) (Nd.cnts ks1)
    (fun k h1 h2=>(i2 k (by omega) (by omega)).trans ((r2 k (by omega)).trans ((a2 k (by omega)).trans (zUG hl0 hcell ((hH2 _).trans (zIb hl0 (g2 _ hbl.1 hbl.2.1) (g2 _ hbl.1 hbl.2.1))) fun hk=>(hH2 k).trans ((zBS hk).trans (g2 k (by omega) h1))))))
    i3 (by simp only[At]; exact⟨.orow (nx+1),hcj,.inr (.inr ⟨nx+1,_,[],rfl,hrj,hlen4,rfl,LAt.copied hrj⟩)⟩) (by simp) (fun k hk=>by
     have:=List.mem_singleton.1 hk
     omega) (by omega) i5 (by simp[Nd.cnt])
   exact⟨(Hj,lsj,nxj,S'++locs (nx+1) 0 ks1.length,keys2,w1+Nd.cnts ks1),hz1,Le.forget [(1,.op n 0),(2,.op (n+1) 0),(3,.orow lsj)] ⟨rfl,rfl,rfl,trivial⟩,hz2⟩
def zSc (xs:List AV) (r:Ret):Prop:=∃ (a0:Nd) (y0:Nd),zBK a0=some y0/\xs=[.agg ((Nd.enc a0).map .s)]/\r = .val (.agg ((Nd.enc y0).map .s))
def zFo:zAp:=zAu fun xs r=>zSc xs r
theorem zF6:PSound Tryz.prog 19 zFo :=
 PSound.giveAll zGS fun xs r h=>by
  obtain⟨⟨k,t,c,ks⟩,y,hm,rfl,rfl⟩:=h;obtain⟨hq,hm⟩:=zAK hm;obtain rfl:=Option.some.inj hm;refine⟨_,rfl,rfl,k,c,t,ks,hq,rfl,fun v hp' n' keys _ _ hv _ _=>?_⟩
  refine zXM (t:=.mk k t c ks) (RdC.node ?_)
  rcases hv with ⟨rfl,rfl,_⟩ | ⟨q,rows,keys',w,rfl,hq,hlen,rfl,h⟩
  ·exact .s _
  ·exact Rd.rows hq hlen fun j x hj=>(by have:=LAt.rd h j x hj; rwa [Nat.zero_add]at this)
theorem zGP {n:Nd}{i s:Int}{p:List Int} (h:¬ (0<=i/\i<n.kids.length)):zCx n (i::s::p)=none:=by rw[zCx,if_neg h]
theorem zGQ {n x:Nd}{i s:Int}{p:List Int} (h0:0<=i) (hx:n.kids[i.toNat]? = some x) (h:¬ (0<=s/\s<x.kids.length)):zCx n (i::s::p)=none:=by
 have hl:=(List.getElem?_eq_some_iff.1 hx).1;rw[zCx,if_pos ⟨h0,by omega⟩]
 simp only[List.getD_eq_getElem?_getD,hx,Option.getD_some]
 rw[if_neg h]
theorem zOp {n x z:Nd}{i s:Int}{p:List Int} (h0:0<=i) (hx:n.kids[i.toNat]? = some x) (h1:0<=s) (hz:x.kids[s.toNat]? = some z):zCx n (i::s::p)=zCx z p:=by
 have hl:=(List.getElem?_eq_some_iff.1 hx).1;have hl2:=(List.getElem?_eq_some_iff.1 hz).1;rw[zCx,if_pos ⟨h0,by omega⟩]
 simp only[List.getD_eq_getElem?_getD,hx,hz,Option.getD_some]
 rw[if_pos ⟨h1,by omega⟩]
theorem zVw {l:List Nd}{i:Nat}{x:Nd} (h:l[i]? = some x):(Nd.encs l).getD i []=Nd.enc x:=by
 simp[Nd.encs_eq,List.getD_eq_getElem?_getD,h]
theorem zH2 (l:List Nd):(Nd.encs l).length=l.length:=by rw[Nd.encs_eq,List.length_map]
def zVv:Option Nd->AV
 | some y=>.s (.pt (Nd.enc y))
 | none=>.junk
def zSh (xs:List AV) (r:Ret):Prop:=∃ (a0:Nd) (a1:List Int),xs=[.s (.pt (Nd.enc a0)),.s (.sl 1 (a1.map (irow .i64)))]/\r = .val (.tup [zVv (zCx a0 a1),.s (.bool (zCx a0 a1).isSome)])
def zMa:zAp:=zAu fun xs r=>zSh xs r
theorem zRF:PSound Tryz.prog 71 zMa:=by
 have gok:=@gok0 Tryz.prog;refine psq tokW Tryz.call71 Tryz.func71 rfl ?_;rintro xs r w0 G0 ⟨n0,p0,rfl,rfl⟩ _;generalize hy:zCx n0 p0=y;refine yAD ?_;refine zAa ?_;refine zAi (zAy (X:=Nd×List Int) (fun x=>match x with | (n,p)=>⟨ofL [(0,.s (.pt (Nd.enc n))),(1,.s (.sl 1 (p.map (irow .i64)))),(4,.s .np),(5,.s (.bool false))],fun _=>none,0⟩)
  (fun x=>match x with | (n,p)=>zCx n p=y) (fun x=>match x with | (n,p)=>p.length) (n0,p0) hy (Le.forget [(0,.s (.pt (Nd.enc n0))),(1,.s (.sl 1 (p0.map (irow .i64)))),(4,.s .np),(5,.s (.bool false))] ⟨rfl,rfl,rfl,rfl,trivial⟩) ?_)
 rintro⟨⟨k,t,c,ks⟩,p⟩ hI;have hI:zCx (.mk k t c ks) p=y:=hI;refine zAa ?_;refine yAD ?_;refine zAx rfl (fun hb=>?_) (fun hb=>?_)
 ·refine zAf ?_;show Tri ..
  match p,hI,hb with
  | [],_,hb=>cases hb
  | [_],_,hb=>cases hb
  | i::s::p,hI,hb =>
   refine zAj (Le.forget [(0,.s (.pt (Nd.enc (.mk k t c ks)))),(1,.s (.sl 1 ((i::s::p).map (irow .i64)))),(4,.s .np),(5,.s (.bool false))] ⟨rfl,rfl,rfl,rfl,trivial⟩) ?_;refine zAa ?_;refine zAi ?_;refine zAa ?_;refine zKa (by exact tokW) (by exact gok) (by exact mixed) [] [] [1,2,4,5] rfl (by decide +kernel) ?_;refine And.intro (show(0:Int)<=0/\(0:Int)<((((i::s::p).map (irow .i64)).length:Nat):Int) by simp only[List.map_cons,List.length_cons]; omega) ?_;refine And.intro (show(0:Int)<=1/\(1:Int)<((((i::s::p).map (irow .i64)).length:Nat):Int) by simp only[List.map_cons,List.length_cons]; omega) ?_
   refine zAj (Le.forget [(0,.s (.pt [.int .i64 k,.str t,.int .i64 c,.sl 4 (Nd.encs ks)])),(1,.s (.sl 1 ((i::s::p).map (irow .i64)))),(4,.s .np),(5,.s (.bool false)),(6,.s (.int .i64 i)),(7,.s (.int .i64 s))] ⟨rfl,rfl,rfl,rfl,rfl,rfl,trivial⟩) ?_;refine zAa ?_;refine zAa ?_
   by_cases hi:i<0
   ·refine zAb [] [21] rfl ?_;intro b hb;obtain rfl:true=b:=(hb.trans (decide_eq_true hi)).symm;refine zAx rfl (fun _=>?_) (fun h=>by cases h)
    refine yAD ?_;refine zAh ?_;obtain rfl:none=y:=(zGP (fun h=>by omega)).symm.trans hI;unfold zC4;exact⟨_,Le.forget [(5,.s (.bool false))] ⟨rfl,trivial⟩,rfl,rfl⟩
   by_cases hi2:(ks.length:Int)<=i
   ·refine zAb [] [21,29] rfl ?_;intro b hb;obtain rfl:false=b:=(hb.trans (decide_eq_false hi)).symm;intro b hb;obtain rfl:true=b:=(hb.trans (decide_eq_true (show(((Nd.encs ks).length:Nat):Int)<=i by rw[zH2]; exact hi2))).symm;refine zAx rfl (fun _=>?_) (fun h=>by cases h)
    refine yAD ?_;refine zAh ?_;obtain rfl:none=y:=(zGP (n:=.mk k t c ks) (fun h=>by have:i<ks.length:=h.2; omega)).symm.trans hI;unfold zC4;exact⟨_,Le.forget [(5,.s (.bool false))] ⟨rfl,trivial⟩,rfl,rfl⟩
   refine zAb [] [21,29] rfl ?_;intro b hb;obtain rfl:false=b:=(hb.trans (decide_eq_false hi)).symm;intro b hb;obtain rfl:false=b:=(hb.trans (decide_eq_false (show ¬ (((Nd.encs ks).length:Nat):Int)<=i by rw[zH2]; exact hi2))).symm;refine zAx rfl (fun h=>by cases h) (fun _=>?_)
   refine zAf ?_;show Tri ..;have hi0:i.toNat<ks.length :=(by omega);obtain⟨⟨k2,t2,c2,ks2⟩,hx⟩:∃ x,ks[i.toNat]? = some x:=⟨_,List.getElem?_eq_getElem hi0⟩
   refine zAj (Le.forget [(0,.s (.pt [.int .i64 k,.str t,.int .i64 c,.sl 4 (Nd.encs ks)])),(1,.s (.sl 1 ((i::s::p).map (irow .i64)))),(4,.s .np),(5,.s (.bool false)),(6,.s (.int .i64 i)),(7,.s (.int .i64 s))] ⟨rfl,rfl,rfl,rfl,rfl,rfl,trivial⟩) ?_;refine yAD ?_;refine And.intro (show(0:Int)<=i/\i<(((Nd.encs ks).length:Nat):Int) by rw[zH2]; omega) ?_;show Tri ..
   refine zAj (Le.forget [(0,.s (.pt [.int .i64 k,.str t,.int .i64 c,.sl 4 (Nd.encs ks)])),(1,.s (.sl 1 ((i::s::p).map (irow .i64)))),(4,.s .np),(5,.s (.bool false)),(6,.s (.int .i64 i)),(7,.s (.int .i64 s)),(8,.s (.pt [.int .i64 k2,.str t2,.int .i64 c2,.sl 4 (Nd.encs ks2)]))] ⟨rfl,rfl,rfl,rfl,rfl,rfl,congrArg (fun z=>AV.s (.pt z)) (zVw hx),trivial⟩) ?_;refine zAa ?_;refine zAa ?_
   by_cases hs:s<0
   ·refine zAb [] [38] rfl ?_;intro b hb;obtain rfl:true=b:=(hb.trans (decide_eq_true hs)).symm;refine zAx rfl (fun _=>?_) (fun h=>by cases h)
    refine yAD ?_;refine zAh ?_;obtain rfl:none=y:=(zGQ (n:=.mk k t c ks) (by omega) hx (fun h=>by omega)).symm.trans hI;unfold zC4;exact⟨_,Le.forget [(5,.s (.bool false))] ⟨rfl,trivial⟩,rfl,rfl⟩
   by_cases hs2:(ks2.length:Int)<=s
   ·refine zAb [] [38,46] rfl ?_;intro b hb;obtain rfl:false=b:=(hb.trans (decide_eq_false hs)).symm;intro b hb;obtain rfl:true=b:=(hb.trans (decide_eq_true (show(((Nd.encs ks2).length:Nat):Int)<=s by rw[zH2]; exact hs2))).symm;refine zAx rfl (fun _=>?_) (fun h=>by cases h)
    refine yAD ?_;refine zAh ?_;obtain rfl:none=y:=(zGQ (n:=.mk k t c ks) (by omega) hx (fun h=>by have:s<ks2.length:=h.2; omega)).symm.trans hI;unfold zC4;exact⟨_,Le.forget [(5,.s (.bool false))] ⟨rfl,trivial⟩,rfl,rfl⟩
   refine zAb [] [38,46] rfl ?_;intro b hb;obtain rfl:false=b:=(hb.trans (decide_eq_false hs)).symm;intro b hb;obtain rfl:false=b:=(hb.trans (decide_eq_false (show ¬ (((Nd.encs ks2).length:Nat):Int)<=s by rw[zH2]; exact hs2))).symm;refine zAx rfl (fun h=>by cases h) (fun _=>?_)
   refine zAf ?_;show Tri ..;have hs0:s.toNat<ks2.length :=(by omega);obtain⟨z,hz⟩:∃ z,ks2[s.toNat]? = some z:=⟨_,List.getElem?_eq_getElem hs0⟩
   refine zAj (Le.forget [(0,.s (.pt [.int .i64 k,.str t,.int .i64 c,.sl 4 (Nd.encs ks)])),(1,.s (.sl 1 ((i::s::p).map (irow .i64)))),(4,.s .np),(5,.s (.bool false)),(6,.s (.int .i64 i)),(7,.s (.int .i64 s)),(8,.s (.pt [.int .i64 k2,.str t2,.int .i64 c2,.sl 4 (Nd.encs ks2)]))] ⟨rfl,rfl,rfl,rfl,rfl,rfl,rfl,trivial⟩) ?_;refine yAC ?_;refine And.intro (show(0:Int)<=s/\s<(((Nd.encs ks2).length:Nat):Int) by rw[zH2]; omega) ?_;show Tri ..
   refine zAj (Le.forget [(0,.s (.pt (Nd.enc z))),(1,.s (.sl 1 ((i::s::p).map (irow .i64)))),(4,.s .np),(5,.s (.bool false))] ⟨congrArg (fun z=>AV.s (.pt z)) (zVw hz),rfl,rfl,rfl,trivial⟩) ?_;refine yAC ?_;refine And.intro (show(0:Int)<=2/\(2:Int)<=((((i::s::p).map (irow .i64)).length:Nat):Int)/\_<=_ from⟨by decide,by simp only[List.map_cons,List.length_cons]; omega,Int.le_refl _⟩) ?_
   exact⟨(z,p),(zOp (n:=.mk k t c ks) (by omega) hx (by omega) hz).symm.trans hI,Le.forget [(0,.s (.pt (Nd.enc z))),(1,.s (.sl 1 (p.map (irow .i64)))),(4,.s .np),(5,.s (.bool false))] ⟨rfl,congrArg (fun z=>AV.s (.sl 1 z)) (by rw[Int.toNat_natCast,List.take_length]; rfl),rfl,rfl,trivial⟩,by show p.length<p.length+1+1; omega⟩
 ·refine zAB ?_;refine zAa ?_
  match p,hI,hb with
  | [],hI,_ =>
   refine yAC ?_;refine zAh ?_;obtain rfl:some (.mk k t c ks)=y:=hI;unfold zC4;exact⟨_,Le.refl _ _,rfl,rfl⟩
  | [i],hI,_ =>
   refine yAC ?_;refine zAh ?_;obtain rfl:none=y:=hI;unfold zC4;exact⟨_,Le.forget [(5,.s (.bool false))] ⟨rfl,trivial⟩,rfl,rfl⟩
  | i::s::p,_,hb=>exact absurd (of_decide_eq_false hb) (by simp only[List.map_cons,List.length_cons]; omega)
end Go.Proofs.YtbfnjnljboncgaaGreatDoor
namespace Go.Abs
theorem PSound.giveTop {P:Program}{f e sz:Nat}{R:List AV->(Nat->Option Ob)->Nat->(AV->(Nat->Option Ob)->Nat->Prop)->Prop}{S:List AV->List S->List (List S)->Prop} (h:PSound P f (zRa R))
  (hS:∀ xs cs rs,S xs cs rs->R xs (fun _=>none) 0 fun x hp n=>∃ q rows hpD,x = .agg (cs.map .s++[.orow q])/\hp q=some (.arow e sz rows)/\rows.length=rs.length/\(∀ r∈rs,r.length=sz)/\(∀ k ob,hpD k=some ob->hp k=some ob/\k ≠ q) /\
   ∀ (i:Nat) x s,rows.flatten[i]? = some x->rs.flatten[i]? = some s->Rd hpD x s) :
  PSound P f (zB1 fun xs os x os'=>∃ cs rs,os=[]/\x = .agg (cs.map .s++[.orow 0])/\os'=[some (.row e sz rs)]/\S xs cs rs):=by
 refine PSound.ofOwn h.1 fun G w β xs vs os x os' hlt hgl hv hxl hob ⟨cs,rs,ho,hx,ho',hs⟩=>?_
 subst ho; subst hx; subst ho'
 refine(h.2.2.2 R rfl G w β xs vs (fun _=>none) 0 _ hlt hgl hv hxl ⟨fun k ob hk=>(by cases hk),fun k ob hk=>(by cases hk),fun k k' ob ob' hk=>(by cases hk)⟩ (hS xs cs rs hs)).mono ?_;rintro e' w' ⟨v,G',β',x,hp',n',rfl,⟨q,rows,hpD,rfl,hq,hlen,hsz,hD,hrd⟩,hn,hfr,hsub,hnew,hlt',hx,hxl,hob,hst⟩
 let c:Cx:=zEU P w β (fun _=>none) 0 G 0
 have hk:Keep G G' w w':=⟨hsub,fun b hb=>hfr.old b (hlt b hb) (by rintro⟨k,ob,h,_⟩; cases h)⟩
 have hc:Conc c G' β' ⟨fun _=>.junk,hpD,n'⟩ { tmps:=#[],defers:=[] } w':={
  defers:=rfl
  size:=rfl
  env:=fun t=>by simp only[AVal]
  envlt:=fun t=>rfl
  hp:=fun k ob hk=>hob.obs k ob (hD k ob hk).1
  hplt:=fun k ob hk=>hob.lts k ob (hD k ob hk).1
  inj:=fun k k' ob ob' hk hk'=>hob.inj k k' ob ob' (hD k ob hk).1 (hD k' ob' hk').1
  lt:=hlt'
  sub:=hsub
  new:=hnew
  fr:=hfr
  stay:=⟨hn,hst⟩
  glob:=hgl.keep hk }
 have hmine:∀ b,c.mine b->w.heap.size<=b:=fun b hb=>by
  rcases hb with ⟨k,ob,h,_⟩ | h
  ·cases h
  ·exact h
 have hk':Keep G' (allG G' β' hpD) w' w':=⟨fun _ h=>.inl h,fun _ _=>rfl⟩
 refine⟨v,allG G' β' hpD,fun _=>β' q,rfl,⟨hfr.os,hfr.tape,hfr.output,hfr.size,fun b hb _=>hfr.old b hb (by rintro⟨k,ob,h,_⟩; cases h)⟩,fun b hb=>.inl (hsub b hb),fun b hb=>?_,fun b hb=>?_,?_,?_,Nat.zero_le _,⟨fun i ob hi=>?_,fun i j ob ob' hi hj hne=>?_⟩,fun i ob hi=>absurd hi (Nat.not_lt_zero _)⟩
 ·rcases hb with hb | ⟨k,ob,h1,h2⟩
  ·exact(hnew b hb).imp id fun h=>.inr (hmine b h)
  ·exact .inr (.inr (hmine b (row_block (hc.hp k ob h1) b h2).2))
 ·rcases hb with hb | ⟨k,ob,h1,h2⟩
  ·exact hlt' b hb
  ·exact hc.blk_lt h1 h2
 ·simp only[AVal]at hx ⊢;obtain⟨us,rfl,hus⟩:=hx;refine⟨us,rfl,AVals.mk (by rw[hus.length]; simp) fun i y u hy hu=>?_⟩
  rw[List.getElem?_append]at hy
  by_cases hi:i<(cs.map AV.s).length
  ·rw[if_pos hi]at hy;obtain⟨u',hu',hr⟩:=hus.get (i:=i) (x:=y) (by rw[List.getElem?_append,if_pos hi]; exact hy)
   rw[hu]at hu'; cases hu'
   rw[List.getElem?_map]at hy;obtain⟨s,_,rfl⟩:=Option.map_eq_some_iff.1 hy;simp only[AVal]at hr ⊢;exact hr.keep hk'
  ·rw[if_neg hi]at hy;have h0:i - (cs.map AV.s).length=0 :=(by have:=(List.getElem?_eq_some_iff.1 hy).1; simpa using this);rw[h0]at hy;cases hy;obtain⟨u',hu',hr⟩:=hus.get (i:=i) (x:=.orow q) (by rw[List.getElem?_append,if_neg hi,h0]; rfl)
   rw[hu]at hu'; cases hu'
   simp only[AVal]at hr ⊢;exact hr
 ·simp only[AV.lt]
  refine zCp fun i y hy=>?_
  rw[List.getElem?_append]at hy;split at hy
  ·rw[List.getElem?_map]at hy;obtain⟨s,_,rfl⟩:=Option.map_eq_some_iff.1 hy
   rfl
  ·rename_i hi
   have h0:i - (cs.map AV.s).length=0 :=(by have:=(List.getElem?_eq_some_iff.1 hy).1; simpa using this);rw[h0]at hy;cases hy
   rfl
 ·match i,hi with
  | 0,hi =>
   cases hi;refine⟨?_,rfl⟩
   obtain⟨hl,hz,ho⟩:=hob.obs q _ hq;refine⟨hsz,hz,?_⟩
   rcases ho with ⟨h1,rfl⟩ | ⟨b,cap,cur,h1,h2,h3,h4,h5,h6,h7⟩
   ·exact .inl ⟨h1,List.length_eq_zero_iff.1 (by simpa using hlen.symm)⟩
   ·refine .inr ⟨b,cap,cur,by rw[← hlen]; exact h1,by rw[← hlen]; exact h2,h3,h4,?_,.inr (hmine b h6),fun i s hi=>?_⟩
    ·rintro(hb | ⟨k,ob,g1,g2⟩)
     ·exact h5 hb
     ·exact hob.inj k q ob _ (hD k ob g1).1 hq (hD k ob g1).2 b g2 (by rw[h1]; rfl)
    ·have hfl:=zAS hl;have hfs:=zAS hsz;have hil:i<rows.flatten.length :=(by rw[hfl,hlen,← hfs]; exact(List.getElem?_eq_some_iff.1 hi).1);obtain⟨u,hu,hr',_⟩:=h7 i _ (List.getElem?_eq_getElem hil)
     exact⟨u,hu,(hrd i _ s (List.getElem?_eq_getElem hil) hi).rep hc hr'⟩
  | i+1,hi=>simp at hi
 ·match i,j,hi,hj with
  | 0,0,_,_=>exact absurd rfl hne
  | 0,j+1,_,hj=>simp at hj
  | i+1,_,hi,_=>simp at hi
end Go.Abs
namespace Go.Proofs.YtbfnjnljboncgaaGreatDoor
open Go.Abs
theorem VAt.rd {hp:Nat->Option Ob}{e:Nat}{v:AV}{ks:List Nd}{keys:List Nat} (h:VAt hp e v ks keys):Rd hp v (.sl 4 (Nd.encs ks)):=by
 rcases h with ⟨rfl,rfl,_⟩ | ⟨q,rows,keys',w,rfl,hq,hlen,rfl,h⟩
 ·exact .s _
 ·exact Rd.rows hq hlen fun j x hj=>(by have:=LAt.rd h j x hj; rwa [Nat.zero_add]at this)
def zT6 (xs:List AV) (cs:List S) (rs:List (List S)):Prop:=∃ (a0:Nd) (k c:Int) (t:List UInt8) (ks:List Nd),zCL a0=some (.mk k t c ks)/\xs=[.agg ((Nd.enc a0).map .s)]/\cs=[.int .i64 k,.str t,.int .i64 c]/\rs=Nd.encs ks
theorem zMW:PSound Tryz.prog 19 (zB1 fun xs os x os'=>∃ cs rs,os=[]/\x = .agg (cs.map .s++[.orow 0])/\os'=[some (.row 24 4 rs)]/\zT6 xs cs rs):=by
 refine PSound.giveTop zGS fun xs cs rs ⟨⟨k0,t0,c0,ks0⟩,k,c,t,ks,hm,hx,hcs,hrs⟩=>?_
 subst hx; subst hcs; subst hrs
 obtain⟨⟨hq,hne⟩,hm⟩:=zAK hm;cases hm;refine⟨k0,c0,t0,ks0,hq,rfl,fun v hp' n' keys _ _ hv hnd _=>?_⟩
 rcases hv with ⟨rfl,_⟩ | ⟨q,rows,keys',w,rfl,hq,hlen,rfl,hl⟩
 ·exact absurd rfl hne
 refine⟨q,rows,fun k=>if k∈keys' then hp' k else none,rfl,hq,by rw[Nd.encs_eq,List.length_map]; exact hlen,fun r hr=>?_,fun k ob hk=>?_,zSR fun j r s hr hs=>?_⟩
 ·rw[Nd.encs_eq]at hr;obtain⟨x,_,rfl⟩:=List.mem_map.1 hr;cases x; rfl
 ·dsimp only at hk;split at hk
  ·rename_i hm
   exact⟨hk,fun e=>(List.nodup_cons.1 hnd).1 (by rw[← e]; exact hm)⟩
  ·cases hk
 ·rw[Nd.encs_eq,List.getElem?_map]at hs;cases hx:ks0[j]? with
  | none=>rw[hx]at hs; cases hs
  | some x =>
   rw[hx]at hs; cases hs
   obtain⟨keys0,rest,w0,hperm,hat,_⟩:=LAt.hole (i:=0) hl hnd hx;rw[Nat.zero_add]at hat;obtain⟨k2,t2,c2,ks2⟩:=x;obtain⟨v,hc,hv⟩:=hat.full;rw[zFf hq,hr]at hc;cases hc;exact RdC.node (VAt.rd (hv.frame fun k hk=>by
    show(if k∈keys' then hp' k else none)=hp' k;rw[if_pos (hperm.mem_iff.2 (List.mem_append_left _ hk))]))
def zL0 (xs:List AV) (os:List Ob) (x:AV) (os':List (Option Ob)):Prop:=∃ (a0:Nd) (y0:Nd),zCL a0=some y0/\xs=[.agg ((Nd.enc a0).map .s)]/\os=[]/\x = .agg (match y0 with | .mk k t c _=>[.s (.int .i64 k),.s (.str t),.s (.int .i64 c),.orow 0])/\os'=[some (.row 24 4 (match y0 with | .mk _ _ _ ks=>Nd.encs ks))]
def zFp:zAp:=zB1 (fun xs os x os'=>zL0 xs os x os')
theorem zHa:PSound Tryz.prog 19 zFp :=
 PSound.ofOwn zMW.1 fun G w β xs vs os x os' h1 h2 h3 h4 h5 ⟨a0,⟨k,t,c,ks⟩,hm,hx,ho,hr,ho'⟩ =>
  zMW.2.2.1 _ rfl G w β xs vs os x os' h1 h2 h3 h4 h5 ⟨[.int .i64 k,.str t,.int .i64 c],Nd.encs ks,ho,hr,ho',a0,k,c,t,ks,hm,hx,rfl,rfl⟩
def zAU (slices1:List (List Nd)):Nat->Int->Int->Option (Int)
| 0,_,_=>none
| k+1,x3,size4=>bif decide (x3<(slices1.length:Int)) then ((at? slices1 x3).bind fun e6=>bif decide ((IntKind.i64.wrap (size4+(e6.length:Int)))<0) then (none) else (zAU slices1 k (IntKind.i64.wrap (x3+1)) (IntKind.i64.wrap (size4+(e6.length:Int))))) else (some size4)
def zAW (slices1:List (List Nd)):Nat->Int->(List Nd)->Option ((List Nd))
| 0,_,_=>none
| k+1,x11,l13=>bif decide (x11<(slices1.length:Int)) then ((at? slices1 x11).bind fun e15=>req (l13.length+e15.length<=4294967296) <| zAW slices1 k (IntKind.i64.wrap (x11+1)) (l13++e15)) else (some l13)
def zBP (n:Nat):(List (List Nd))->Option (List Nd)
| slices1=>(zAU slices1 n 0 0).bind fun size5=>(zDU size5).bind fun y9=>(zAW slices1 n 0 y9).bind fun l14=>some l14
def zAZ (n:Nat):(zO8×List Nd)->Int->(List Nd)->Option (List Nd)
| ⟨⟨c1O,c1S,c1F,c1P,c1M,c1N,c1R,c1Q⟩,c1G⟩,n2,nodes3=>req (0<=(0:Int)/\(0:Int)<=c1F/\c1F<=(c1G.length:Int)) <| req (0<=(IntKind.i64.wrap (c1F+n2))/\(IntKind.i64.wrap (c1F+n2))<=(c1G.length:Int)/\(c1G.length:Int)<=(c1G.length:Int)) <| (zBP n [(c1G.take c1F.toNat).drop (0:Int).toNat,nodes3,(c1G.take (c1G.length:Int).toNat).drop (IntKind.i64.wrap (c1F+n2)).toNat]).bind fun y7=>some y7
def zBp (n:Nat):(zO8×List Nd)->Option ((List Nd)×Int)
| ⟨⟨c1O,c1S,c1F,c1P,c1M,c1N,c1R,c1Q⟩,c1G⟩=>(at? c1G c1F).bind fun⟨e2A,e2C,e2D,e2B⟩=>(zCL (Nd.mk e2A e2C e2D e2B)).bind fun⟨y4A,y4C,y4D,y4B⟩=>(zDp (Nd.mk y4A y4C y4D y4B)).bind fun y5=>bif decide (y5<=c1N) then (some ([],7)) else ((at? y4B c1N).bind fun⟨e6A,e6C,e6D,e6B⟩=>(at? y4B c1N).bind fun⟨e7A,e7C,e7D,e7B⟩=>(bif ((e6B.length:Int) != c1P) then (some true) else ((at? c1M 0).bind fun⟨e11A,e11C,e11D,e11B⟩=>(zCa n (Nd.mk y4A y4C y4D (y4B.set c1N.toNat (Nd.mk e7A e7C e7D []))) (Nd.mk e11A e11C e11D e11B)).bind fun y13=>some (!y13))
   : Option (Bool)).bind fun x9=>bif x9 then (some ([],7)) else ((zAZ n ((c1O,c1S,c1F,c1P,c1M,c1N,c1R,c1Q),c1G) 1 e6B).bind fun y14=>some (y14,0)))
def zDg (n:Nat):(zO8×List Nd)->Option ((List Nd)×Int)
| ⟨⟨c1O,c1S,c1F,c1P,c1M,c1N,c1R,c1Q⟩,c1G⟩=>(at? c1M 0).bind fun⟨e2A,e2C,e2D,e2B⟩=>(zCL (Nd.mk e2A e2C e2D e2B)).bind fun⟨y4A,y4C,y4D,y4B⟩=>req (0<=c1F/\c1F<=IntKind.i64.wrap (c1F+c1P)/\IntKind.i64.wrap (c1F+c1P)<=(c1G.length:Int)) <| (zDH ((c1G.take (IntKind.i64.wrap (c1F+c1P)).toNat).drop c1F.toNat)).bind fun y6=>(at? y4B c1N).bind fun⟨e7A,e7C,e7D,e7B⟩=>(zAZ n ((c1O,c1S,c1F,c1P,c1M,c1N,c1R,c1Q),c1G) c1P [Nd.mk y4A y4C y4D (y4B.set c1N.toNat (Nd.mk e7A e7C e7D y6))]).bind fun y10=>some (y10,0)
def zCE (n:Nat):(zO8×List Nd)->Option ((List Nd)×Int)
| ⟨⟨c1O,c1S,c1F,c1P,c1M,c1N,c1R,c1Q⟩,c1G⟩=>(zAZ n ((c1O,c1S,c1F,c1P,c1M,c1N,c1R,c1Q),c1G) 0 c1M).bind fun y2=>some (y2,0)
def zCF (n:Nat):(zO8×List Nd)->Option ((List Nd)×Int)
| ⟨⟨c1O,c1S,c1F,c1P,c1M,c1N,c1R,c1Q⟩,c1G⟩=>req (0<=c1F/\c1F<=IntKind.i64.wrap (c1F+(c1M.length:Int))/\IntKind.i64.wrap (c1F+(c1M.length:Int))<=(c1G.length:Int)) <| (zAX n ((c1G.take (IntKind.i64.wrap (c1F+(c1M.length:Int))).toNat).drop c1F.toNat) c1M).bind fun y4=>bif (!y4) then (some ([],7)) else ((zAZ n ((c1O,c1S,c1F,c1P,c1M,c1N,c1R,c1Q),c1G) (c1M.length:Int) []).bind fun y5=>some (y5,0))
def zDx (n:Nat):(zO8×List Nd)->Option ((List Nd)×Int)
| ⟨⟨c1O,c1S,c1F,c1P,c1M,c1N,c1R,c1Q⟩,c1G⟩=>(at? c1G c1F).bind fun⟨e2A,e2C,e2D,e2B⟩=>((bif (e2A == 2) then (some (e2A == 2)) else (bif (e2A == 3) then (some (e2A == 3)) else (bif (e2A == 4) then (some (e2A == 4)) else (bif (e2A == 10) then (some (e2A == 10)) else (some (e2A == 11))))):Option (Bool)).bind fun x4=>bif x4 then (some (.go ())) else (some (.ret ([],7))):Option (Fl ((List Nd)×Int) Unit)).bind fun fl=>match fl with
 | .ret r=>some r
 | .go _=>bif (!(e2C == c1R)) then (some ([],7)) else ((zAZ n ((c1O,c1S,c1F,c1P,c1M,c1N,c1R,c1Q),c1G) 1 [Nd.mk e2A c1Q e2D e2B]).bind fun y6=>some (y6,0))
def zB0:(zO8×List Nd)->Option Int
| ⟨⟨c1O,c1S,c1F,c1P,c1M,c1N,c1R,c1Q⟩,c1G⟩=>(bif (c1O == 1) then (some 0) else (bif (c1O == 2) then (some (c1M.length:Int)) else (bif (c1O == 3) then (some c1P) else (some 1))):Option (Int)).bind fun need2=>(bif decide (c1F<0) then (some true) else (bif decide ((c1G.length:Int)<c1F) then (some true) else (some (decide ((IntKind.i64.wrap ((c1G.length:Int) - c1F))<need2)))):Option (Bool)).bind fun x4=>bif x4 then (some 2) else (some 0)
def zC7 (n:Nat):(List Nd)->Int->Option Bool
| l1,slot2=>(bif ((l1.length:Int) != 1) then (some true) else ((zCc n l1).bind fun y5=>bif (!y5) then (some true) else (bif decide (slot2<0) then (some true) else ((at? l1 0).bind fun⟨e6A,e6C,e6D,e6B⟩=>(zDp (Nd.mk e6A e6C e6D e6B)).bind fun y8=>some (decide (y8<=slot2))))):Option (Bool)).bind fun x3=>bif x3 then (some false) else ((at? l1 0).bind fun⟨e9A,e9C,e9D,e9B⟩=>(at? e9B slot2).bind fun⟨e11A,e11C,e11D,e11B⟩=>some ((e11B.length:Int) == 0))
def zEo (n:Nat):zO8->Option Bool
| ⟨a1A,a1I,a1L,a1J,a1E,a1K,a1H,a1C⟩=>(bif (!(a1H == [])) then (some true) else (some (!(a1C == []))):Option (Bool)).bind fun x2=>((bif (a1A == 1) then (some (a1A == 1)) else (some (a1A == 2)):Option (Bool)).bind fun x3=>bif x3 then ((bif (a1J == 0) then (bif (a1K == 0) then (bif (!x2) then (bif decide (0<(a1E.length:Int)) then ((zCc n a1E).bind fun y6=>some y6) else (some false)) else (some false)) else (some false)) else (some false):Option (Bool)).bind fun x4=>some (.ret x4)) else ((bif (a1A == 3) then (some (a1A == 3)) else (some (a1A == 4)):Option (Bool)).bind fun x7=>bif x7 then ((bif decide (0<=a1J) then (bif (!x2) then ((zC7 n a1E a1K).bind fun y9=>some y9) else (some false)) else (some false):Option (Bool)).bind fun x8=>some (.ret x8)
   ) else (bif (a1A == 5) then ((bif (a1J == 0) then (bif (a1K == 0) then (bif ((a1E.length:Int) == 0) then (some (!(a1H == a1C))) else (some false)) else (some false)) else (some false):Option (Bool)).bind fun x10=>some (.ret x10)) else (some (.go ())))):Option (Fl Bool Unit)).bind fun fl=>match fl with
 | .ret r=>some r
 | .go _=>some false
def zFB:(List Int)->Option (List Int)
| l1=>(zCX l1).bind fun y2=>some y2
def zBy (l1:List Nd):Nat->Int->(List Nd)->Option ((List Nd))
| 0,_,_=>none
| k+1,x4,l5=>bif decide (x4<(l1.length:Int)) then ((at? l1 x4).bind fun⟨e7A,e7C,e7D,e7B⟩=>(zBK (Nd.mk e7A e7C e7D e7B)).bind fun⟨y9A,y9C,y9D,y9B⟩=>req (l5.length + [Nd.mk y9A y9C y9D y9B].length<=4294967296) <| zBy l1 k (IntKind.i64.wrap (x4+1)) (l5++[Nd.mk y9A y9C y9D y9B])) else (some l5)
def zEW (n:Nat):(List Nd)->Option (List Nd)
| l1=>(zBy l1 n 0 []).bind fun l6=>some l6
def zFC (n:Nat):zO8->Option zO8
| ⟨op1A,op1I,op1L,op1J,op1E,op1K,op1H,op1C⟩=>(zFB op1I).bind fun y2=>(zEW n op1E).bind fun y3=>some (op1A,y2,op1L,op1J,y3,op1K,op1H,op1C)
def zBq:(zO8×List Nd)->Option ((List Nd)×Int)
| ⟨⟨c1O,c1S,c1F,c1P,c1M,c1N,c1R,c1Q⟩,c1G⟩=>(at? c1G c1F).bind fun⟨e2A,e2C,e2D,e2B⟩=>(zBK (Nd.mk e2A e2C e2D e2B)).bind fun⟨y4A,y4C,y4D,y4B⟩=>(zDp (Nd.mk y4A y4C y4D y4B)).bind fun y5=>bif decide (y5<=c1N) then (some ([],7)) else (none)
def zBh (n:Nat) (c:zO8×List Nd):Option (List Nd×Int) :=
 match zBq c with
 | some r=>some r
 | none=>zBp n c
def zCi (n:Nat):(zO8×List Nd)->Option ((List Nd)×Int)
| ⟨⟨c1O,c1S,c1F,c1P,c1M,c1N,c1R,c1Q⟩,c1G⟩=>(zB0 ((c1O,c1S,c1F,c1P,c1M,c1N,c1R,c1Q),c1G)).bind fun y2=>bif (y2 != 0) then (some ([],y2)) else (bif (c1O == 1) then ((zCE n ((c1O,c1S,c1F,c1P,c1M,c1N,c1R,c1Q),c1G)).bind fun⟨y3,y4⟩=>some (y3,y4)) else (bif (c1O == 2) then ((zCF n ((c1O,c1S,c1F,c1P,c1M,c1N,c1R,c1Q),c1G)).bind fun⟨y5,y6⟩=>some (y5,y6)) else (bif (c1O == 3) then ((zDg n ((c1O,c1S,c1F,c1P,c1M,c1N,c1R,c1Q),c1G)).bind fun⟨y7,y8⟩=>some (y7,y8)) else (
     bif (c1O == 4) then ((zBh n ((c1O,c1S,c1F,c1P,c1M,c1N,c1R,c1Q),c1G)).bind fun⟨y9,y10⟩=>some (y9,y10)) else ((zDx n ((c1O,c1S,c1F,c1P,c1M,c1N,c1R,c1Q),c1G)).bind fun⟨y11,y12⟩=>some (y11,y12))))))
def zEX (n:Nat):Nd->zO8->Option (Nd×Int)
| ⟨n1A,n1C,n1D,n1B⟩,⟨op2A,op2I,op2L,op2J,op2E,op2K,op2H,op2C⟩=>(zA2 n (Nd.mk n1A n1C n1D n1B)).bind fun y3=>bif (!y3) then (some (Nd.mk 0 [] 0 [],1)) else ((zEo n (op2A,op2I,op2L,op2J,op2E,op2K,op2H,op2C)).bind fun y4=>bif (!y4) then (some (Nd.mk 0 [] 0 [],4)) else ((zGC n (Nd.mk n1A n1C n1D n1B) op2I).bind fun⟨⟨y5A,y5C,y5D,y5B⟩,y6⟩=>bif (y6 != 0) then (some (Nd.mk 0 [] 0 [],y6)) else ((zCi n ((op2A,op2I,op2L,op2J,op2E,op2K,op2H,op2C),y5B)).bind fun⟨y7,y8⟩=>bif (y8 != 0) then (some (Nd.mk 0 [] 0 [],y8)) else (
     (zEH n (Nd.mk n1A n1C n1D n1B) op2I (Nd.mk y5A y5C y5D y7)).bind fun⟨⟨y9A,y9C,y9D,y9B⟩,y10⟩=>bif (y10 != 0) then (some (Nd.mk 0 [] 0 [],6)) else (some (Nd.mk y9A y9C y9D y9B,0))))))
def zBF (n:Nat) (ops2:List zO8):Nat->Int->(List UInt8)->Int->(List Nd)->Int->Option (Fl (Nd×Int×Int) (Int×(List UInt8)×Int×(List Nd)))
| 0,_,_,_,_,_=>none
| k+1,x7,x8,x9,x10,x11=>bif decide (x11<(ops2.length:Int)) then ((at? ops2 x11).bind fun⟨e16A,e16I,e16L,e16J,e16E,e16K,e16H,e16C⟩=>(zEX n (Nd.mk x7 x8 x9 x10) (e16A,e16I,e16L,e16J,e16E,e16K,e16H,e16C)).bind fun⟨⟨y18A,y18C,y18D,y18B⟩,y19⟩=>bif (y19 != 0) then (some (.ret (Nd.mk 0 [] 0 [],x11,y19))) else (zBF n ops2 k y18A y18C y18D y18B (IntKind.i64.wrap (x11+1)))) else (some (.go (x7,x8,x9,x10)))
def zBE (n:Nat):Nd->(List zO8)->Option (Nd×Int×Int)
| ⟨n1A,n1C,n1D,n1B⟩,ops2=>(zA2 n (Nd.mk n1A n1C n1D n1B)).bind fun y3=>bif (!y3) then (some (Nd.mk 0 [] 0 [],0,1)) else ((zBK (Nd.mk n1A n1C n1D n1B)).bind fun⟨y4A,y4C,y4D,y4B⟩=>(zBF n ops2 n y4A y4C y4D y4B 0).bind fun fl=>match fl with
  | .ret r=>some r
  | .go ⟨x12,x13,x14,x15⟩=>some (Nd.mk x12 x13 x14 x15,0,0))
def zB6 (n:Nat):zO8->Option zO8
| ⟨op1A,op1I,op1L,op1J,op1E,op1K,op1H,op1C⟩=>(zFC n (op1A,op1I,op1L,op1J,op1E,op1K,op1H,op1C)).bind fun⟨y2A,y2I,y2L,y2J,y2E,y2K,y2H,y2C⟩=>(bif (op1A == 1) then (some (2,y2H,y2C)) else (bif (op1A == 2) then (some (1,y2H,y2C)) else (bif (op1A == 3) then (some (4,y2H,y2C)) else (bif (op1A == 4) then (some (3,y2H,y2C)) else (bif (op1A == 5) then (some (y2A,op1C,op1H)) else (some (y2A,y2H,y2C)))))):Option (Int×(List UInt8)×(List UInt8))).bind fun⟨x3,x4,x5⟩=>some (x3,y2I,y2L,y2J,y2E,y2K,x4,x5)
def zA7 (n:Nat) (ops:List zO8):Nat->Option (List zO8)
| 0=>some []
| i+1=>(zA7 n ops i).bind fun acc=>(ops[ops.length - 1 - i]?).bind fun o=>(zB6 n o).bind fun y=>req (acc.length+1<=4294967296) <| some (acc++[y])
def zCm (n:Nat):(List zO8)->Option (List zO8)
| ops2=>req (ops2.length<=4294967296) <| zA7 n ops2 ops2.length
def zAG (slices1:List (List Int)):Nat->Int->Int->Option (Int)
| 0,_,_=>none
| k+1,x3,size4=>bif decide (x3<(slices1.length:Int)) then ((at? slices1 x3).bind fun e6=>bif decide ((IntKind.i64.wrap (size4+(e6.length:Int)))<0) then (none) else (zAG slices1 k (IntKind.i64.wrap (x3+1)) (IntKind.i64.wrap (size4+(e6.length:Int))))) else (some size4)
def zAH (slices1:List (List Int)):Nat->Int->(List Int)->Option ((List Int))
| 0,_,_=>none
| k+1,x11,l13=>bif decide (x11<(slices1.length:Int)) then ((at? slices1 x11).bind fun e15=>req (l13.length+e15.length<=4294967296) <| zAH slices1 k (IntKind.i64.wrap (x11+1)) (l13++e15)) else (some l13)
def zBi (n:Nat):(List (List Int))->Option (List Int)
| slices1=>(zAG slices1 n 0 0).bind fun size5=>(zDh size5).bind fun y9=>(zAH slices1 n 0 y9).bind fun l14=>some l14
def zFc:Option Bool:=some true
def zCR (n:Nat):zO8->(List zO8)->Option (List zO8)
| ⟨op1A,op1I,op1L,op1J,op1E,op1K,op1H,op1C⟩,o2=>(zFC n (op1A,op1I,op1L,op1J,op1E,op1K,op1H,op1C)).bind fun⟨y3A,y3I,y3L,y3J,y3E,y3K,y3H,y3C⟩=>req (o2.length + [(y3A,y3I,y3L,y3J,y3E,y3K,y3H,y3C)].length<=4294967296) <| some (o2++[(y3A,y3I,y3L,y3J,y3E,y3K,y3H,y3C)])
def zBg (F_diff_insertions:(List Nd)->(List Nd)->(List Int)->(List zO8)->Option (List zO8)) (n:Nat) (a3:List Int) (x8:Int) (e14B:List Nd) (e24B:List Nd):Nat->Int->(List zO8)->Option ((List zO8))
| 0,_,_=>none
| k+1,x31,l32=>bif decide (x31<(e14B.length:Int)) then ((at? e24B x31).bind fun⟨e34A,e34C,e34D,e34B⟩=>(at? e14B x31).bind fun⟨e36A,e36C,e36D,e36B⟩=>(zBi n [a3,[x8,x31]]).bind fun y40=>(F_diff_insertions e34B e36B y40 l32).bind fun w41=>zBg F_diff_insertions n a3 x8 e14B e24B k (IntKind.i64.wrap (x31+1)) w41) else (some l32)
def zBf (F_diff_insertions:(List Nd)->(List Nd)->(List Int)->(List zO8)->Option (List zO8)) (n:Nat) (a1:List Nd) (a2:List Nd) (a3:List Int):Nat->Int->(List (Int×Int))->(List zO8)->Option ((List zO8))
| 0,_,_,_=>none
| k+1,x8,x9,l10=>bif decide (x8<(a2.length:Int)) then (((at? a2 x8).bind fun⟨e14A,e14C,e14D,e14B⟩=>(bif ((x9.length:Int) == 0) then (some true) else ((at? x9 0).bind fun⟨e18Ac,e18Ad⟩=>some (e18Ad != x8)):Option (Bool)).bind fun x16=>bif x16 then ((zCR n (1,a3,x8,0,[Nd.mk e14A e14C e14D e14B],0,[],[]) l10).bind fun w21=>some (x9,w21)) else ((at? x9 0).bind fun⟨e22Ac,e22Ad⟩=>(at? a1 e22Ac).bind fun⟨e24A,e24C,e24D,e24B⟩=>req (0<=(1:Int)/\(1:Int)<=(x9.length:Int)/\(x9.length:Int)<=(x9.length:Int)) <| (bif (!(e24C == e14C)) then ((zCR n (5,a3,x8,0,[],0,e24C,e14C) l10).bind fun w28=>some w28) else (some l10):Option ((List zO8))).bind fun l27 =>
    (zBg F_diff_insertions n a3 x8 e14B e24B n 0 l27).bind fun l33=>some ((x9.take (x9.length:Int).toNat).drop (1:Int).toNat,l33)):Option ((List (Int×Int))×(List zO8))).bind fun⟨x12,l13⟩=>zBf F_diff_insertions n a1 a2 a3 k (IntKind.i64.wrap (x8+1)) x12 l13) else (some l10)
def zAT:Nat->(List Nd)->(List Nd)->(List Int)->(List zO8)->Option (List zO8)
| 0,_,_,_,_=>none
| n+1,a1,a2,a3,o4=>(zD3 n a1 a2).bind fun y5=>(zBf (zAT n) n a1 a2 a3 n 0 y5 o4).bind fun l11=>some l11
def zBB (F:List Nd->List Nd->List Int->List zO8->Option (List zO8)) (n:Nat) (xk yk:List Nd) (path:List Int) (j:Int) (o:List zO8):Nat->Option (List zO8)
| 0=>some o
| i+1=>(zBB F n xk yk path j o i).bind fun acc=>(at? xk ((xk.length - 1 - i:Nat):Int)).bind fun⟨u_kind,u_text,u_cols,u_kids⟩=>(at? yk ((xk.length - 1 - i:Nat):Int)).bind fun⟨v_kind,v_text,v_cols,v_kids⟩=>(zBi n [path,[j,((xk.length - 1 - i:Nat):Int)]]).bind fun y=>F u_kids v_kids y acc
def zBR (F:List Nd->List Nd->List Int->List zO8->Option (List zO8)) (n:Nat) (b:List Nd) (path:List Int) (j:Int):Nd->List (Int×Int)->List zO8->Option (List (Int×Int)×List zO8)
| ⟨x_kind,x_text,x_cols,x_kids⟩,p,o=>(bif ((p.length:Int) == 0) then (some true) else ((at? p (IntKind.i64.wrap ((p.length:Int) - 1))).bind fun⟨e_0,e_1⟩=>some (e_0 != j)):Option (Bool)).bind fun c=>bif c then ((zCR n (2,path,j,0,[Nd.mk x_kind x_text x_cols x_kids],0,[],[]) o).bind fun w=>some (p,w)) else ((at? p (IntKind.i64.wrap ((p.length:Int) - 1))).bind fun⟨e_0,e_1⟩=>(at? b e_1).bind fun⟨y_kind,y_text,y_cols,y_kids⟩=>req (0<=IntKind.i64.wrap ((p.length:Int) - 1)/\IntKind.i64.wrap ((p.length:Int) - 1)<=(p.length:Int)/\x_kids.length<=4294967296) <| (zBB F n x_kids y_kids path j o x_kids.length).bind fun w=>some (p.take (IntKind.i64.wrap ((p.length:Int) - 1)).toNat,w))
def zBA (F:List Nd->List Nd->List Int->List zO8->Option (List zO8)) (n:Nat) (a b:List Nd) (path:List Int) (p:List (Int×Int)) (o:List zO8):Nat->Option (List (Int×Int)×List zO8)
| 0=>some (p,o)
| i+1=>(zBA F n a b path p o i).bind fun acc=>(a[a.length - 1 - i]?).bind fun x=>zBR F n b path ((a.length - 1 - i:Nat):Int) x acc.1 acc.2
def zBX:Nat->(List Nd)->(List Nd)->(List Int)->(List zO8)->Option (List zO8)
| 0,_,_,_,_=>none
| n+1,a1,b2,path3,o4=>(zD3 n a1 b2).bind fun y5=>req (a1.length<=4294967296) <| (zBA (zBX n) n a1 b2 path3 y5 o4 a1.length).bind fun l6=>some l6.2
def zEF (n:Nat):Nd->Nd->Option ((List zO8)×Int)
| ⟨a1A,a1C,a1D,a1B⟩,⟨b2A,b2C,b2D,b2B⟩=>(zD5 n (Nd.mk a1A a1C a1D a1B) (Nd.mk b2A b2C b2D b2B)).bind fun y3=>bif (!y3) then (some ([],1)) else ((zBX n a1B b2B [] []).bind fun w4=>(zAT n a1B b2B [] w4).bind fun w5=>some (w5,0))
def zBC (b2:List UInt8):Nat->Int->Int->Option (Int)
| 0,_,_=>none
| k+1,h4,x5=>bif decide (x5<(b2.length:Int)) then ((at? b2 x5).bind fun e7=>zBC b2 k (IntKind.u64.wrap ((zKm .xor .u64 h4 (IntKind.u64.wrap (e7.toNat:Int))) * 1099511628211)) (IntKind.i64.wrap (x5+1))) else (some h4)
def zEn (n:Nat):Int->(List UInt8)->Option Int
| h1,b2=>(zBC b2 n h1 0).bind fun h6=>some h6
def zDL (n:Nat):(List UInt8)->Option Int
| b1=>(zEn n 14695981039346656037 b1).bind fun y2=>some y2
def zFE (n:Nat):Nd->Option Bool
| ⟨n1A,n1C,n1D,n1B⟩=>(zGD n (Nd.mk n1A n1C n1D n1B) 60).bind fun y2=>some y2
def zBl (n2:Int):Nat->Int->(List UInt8)->Option ((List UInt8))
| 0,_,_=>none
| k+1,shift4,l5=>bif decide (0<=shift4) then (req (0<=shift4) <| req (l5.length + [b8of (IntKind.u8.wrap (n2.fdiv (2 ^ (min shift4.toNat IntKind.u64.bits))))].length<=4294967296) <| zBl n2 k (IntKind.i64.wrap (shift4 - 8)) (l5++[b8of (IntKind.u8.wrap (n2.fdiv (2 ^ (min shift4.toNat IntKind.u64.bits))))])) else (some l5)
def zBD (n:Nat):(List UInt8)->Int->Option (List UInt8)
| b1,n2=>(zBl n2 n 56 b1).bind fun l6=>some l6
def zBY (n:Nat) (kids4:List Int):Nat->Int->(List UInt8)->Option ((List UInt8))
| 0,_,_=>none
| k+1,x12,l14=>bif decide (x12<(kids4.length:Int)) then ((at? kids4 x12).bind fun e16=>(zBD n l14 e16).bind fun y18=>zBY n kids4 k (IntKind.i64.wrap (x12+1)) y18) else (some l14)
def zEm (n:Nat):Int->(List UInt8)->Int->(List Int)->Option Int
| kind1,text2,cols3,kids4=>req (0<=(0:Int)/\(0:Int)<=(IntKind.i64.wrap ((IntKind.i64.wrap (32+(text2.length:Int)))+(IntKind.i64.wrap (8 * (kids4.length:Int)))))/\(IntKind.i64.wrap ((IntKind.i64.wrap (32+(text2.length:Int)))+(IntKind.i64.wrap (8 * (kids4.length:Int)))))<=4294967296) <| (zBD n (List.replicate (0:Int).toNat (b8of 0)) (IntKind.u64.wrap kind1)).bind fun y6=>(zBD n y6 (IntKind.u64.wrap (text2.length:Int))).bind fun y7=>req (y7.length+text2.length<=4294967296) <| (zBD n (y7++text2) (IntKind.u64.wrap cols3)).bind fun y8=>(zBD n y8 (IntKind.u64.wrap (kids4.length:Int))).bind fun y10=>(zBY n kids4 n 0 y10).bind fun l15=>(zDL n l15).bind fun y19=>some y19
def zBZ (F_digest_tree:Nd->Option Int) (n1B:List Nd):Nat->Int->(List Int)->Option ((List Int))
| 0,_,_=>none
| k+1,x4,l5=>bif decide (x4<(n1B.length:Int)) then ((at? n1B x4).bind fun⟨e7A,e7C,e7D,e7B⟩=>(F_digest_tree (Nd.mk e7A e7C e7D e7B)).bind fun y9=>(at? l5 x4).bind fun e10=>zBZ F_digest_tree n1B k (IntKind.i64.wrap (x4+1)) (l5.set x4.toNat y9)) else (some l5)
def zB5:Nat->Nd->Option Int
| 0,_=>none
| n+1,⟨n1A,n1C,n1D,n1B⟩=>req (0<=(n1B.length:Int)/\(n1B.length:Int)<=4294967296) <| (zBZ (zB5 n) n1B n 0 (List.replicate (n1B.length:Int).toNat 0)).bind fun l6=>(zEm n n1A n1C n1D l6).bind fun y12=>some y12
def zDw (n:Nat):Nd->Option Int
| ⟨n1A,n1C,n1D,n1B⟩=>(zB5 n (Nd.mk n1A n1C n1D n1B)).bind fun y2=>some y2
def zAL (n:Nat) (a2:List zO8):Nat->Int->Option (Fl Bool Unit)
| 0,_=>none
| k+1,x9=>bif decide (x9<(a2.length:Int)) then ((at? a2 x9).bind fun⟨e10A,e10I,e10L,e10J,e10E,e10K,e10H,e10C⟩=>((zHF n (e10A,e10I,e10L,e10J,e10E,e10K,e10H,e10C)).bind fun y13=>bif (!y13) then (some true) else (bif (e10A == 3) then (some true) else (some (e10A == 4))):Option (Bool)).bind fun x12=>bif x12 then (some (.ret true)) else (zAL n a2 k (IntKind.i64.wrap (x9+1)))) else (some (.go ()))
def zA3 (n:Nat):Nd->(List zO8)->Option Bool
| ⟨a1A,a1C,a1D,a1B⟩,a2=>((zFc ).bind fun y4=>bif (!y4) then (some true) else ((zFE n (Nd.mk a1A a1C a1D a1B)).bind fun y5=>bif (!y5) then (some true) else (some (decide (10<(a2.length:Int))))):Option (Bool)).bind fun x3=>bif x3 then ((zFc ).bind fun y7=>some y7) else ((zAL n a2 n 0).bind fun fl=>match fl with
  | .ret r=>some r
  | .go _=>(zBE n (Nd.mk a1A a1C a1D a1B) a2).bind fun⟨⟨y14A,y14C,y14D,y14B⟩,y15,y16⟩=>bif (y16 != 0) then (some true) else ((zEF n (Nd.mk a1A a1C a1D a1B) (Nd.mk y14A y14C y14D y14B)).bind fun⟨y17,y18⟩=>(zFD n (Nd.mk a1A a1C a1D a1B) (Nd.mk y14A y14C y14D y14B)).bind fun⟨y19,y20⟩=>(zEl n a2).bind fun⟨y21,y22⟩=>(zBE n (Nd.mk a1A a1C a1D a1B) y17).bind fun⟨⟨y23A,y23C,y23D,y23B⟩,y24,y25⟩=>(zCm n y17).bind fun y26=>(zBE n (Nd.mk y14A y14C y14D y14B) y26).bind fun⟨⟨y27A,y27C,y27D,y27B⟩,y28,y29⟩=>(bif (y18 != 0) then (some true) else (bif (y20 != 0) then (some true) else (bif (y22 != 0) then (some true) else (
        bif (y25 != 0) then (some true) else (some (y29 != 0))))):Option (Bool)).bind fun x30=>bif x30 then (some false) else (((zCj n (Nd.mk y23A y23C y23D y23B) (Nd.mk y14A y14C y14D y14B)).bind fun y32=>bif y32 then ((zCj n (Nd.mk y27A y27C y27D y27B) (Nd.mk a1A a1C a1D a1B)).bind fun y33=>bif y33 then (bif decide (y19<=y21) then ((zDw n (Nd.mk y23A y23C y23D y23B)).bind fun y34=>(zDw n (Nd.mk y14A y14C y14D y14B)).bind fun y35=>some (y34 == y35)) else (some false)) else (some false)) else (some false):Option (Bool)).bind fun x31=>some x31)))
def zQv (xs:List AV) (r:Ret):Prop:=∃ (a0:List UInt8) (y0:Bool),zCb a0=some y0/\xs=[.s (.str a0)]/\r = .val (.s (.bool y0))
def zK2:zAp:=zAu fun xs r=>zQv xs r
theorem zPQ:PSound Tryz.prog 62 zK2:=by
 have gok:=@gok0 Tryz.prog;refine psq tokW Tryz.call62 Tryz.func62 rfl ?_;rintro xs r w0 G0 ⟨s1,y0,h,rfl,rfl⟩ _;rw[zCb]at h;refine yAD ?_;refine yAD ?_;refine zAh ?_;have hy:=osi h;subst hy;exact fin0 rfl rfl
def zNE (n:Nat) (xs:List AV) (r:Ret):Prop:=∃ (a0:List UInt8) (y0:Bool),zDb n a0=some y0/\xs=[.s (.str a0)]/\r = .val (.s (.bool y0))
def zIv:zAp:=zAu fun xs r=>∃ n,zNE n xs r
theorem zM0:PSound Tryz.prog 98 zIv:=by
 have gok:=@gok0 Tryz.prog;refine psq tokW Tryz.call98 Tryz.func98 rfl ?_;rintro xs r w0 G0 ⟨n,s1,y0,h,rfl,rfl⟩ _;rw[zDb]at h;refine yAD ?_;refine zAa ?_;refine yAD ?_;show Tri ..;obtain⟨fl,hl,ho1⟩:=zAc h;refine zF9 (fl:=fl) (fun z=>match z with | _=>⟨ofL [],fun _=>none,0⟩) ?_ (fun z σ' hz hle=>?_)
 ·refine zAi (zAy (X:=Nat×Int) (fun y=>match y with | (k,i2)=>⟨ofL [(0,.s (.str s1)),(3,.s (.int .i64 i2))],fun _=>none,0⟩) (fun y=>zBu s1 y.1 y.2=some fl) (fun y=>y.1) (n,0) hl ?_ ?_)
  ·exact Le.fgt
  ·rintro⟨k,i2⟩ h;cases k with
   | zero=>cases h
   | succ k =>
    replace h:zBu s1 (k+1) i2=some fl:=h;rw[zBu]at h;refine zAa ?_;refine yAD ?_;refine zAm rfl h (fun hb h=>?_) (fun hb h=>?_)
    ·refine zAf ?_;refine zAa ?_;refine zAi ?_;refine zZx [] [13] rfl ?_;obtain⟨c3,hc3,h⟩:=zAc h;refine And.intro (zCD hc3).1 ?_;intro v4 hv4;obtain rfl:(c3.toNat:Int)=v4:=(hv4.trans (zCD hc3).2).symm;refine zAa ?_;obtain⟨x5,hj,h⟩:=zAc h;refine zAn ⟨ofL [(0,.s (.str s1)),(3,.s (.int .i64 i2)),(20,.s (.bool x5))],fun _=>none,0⟩ ?_ (fun σ' hle=>?_)
     ·replace h:=hj;refine zAb [] [17] rfl ?_;intro b hb;cases b with
      | true =>
       replace h:=zAw hb.symm h;cases h;exact Le.fgt
      | false =>
       replace h:=zAv hb.symm h;cases h;exact Le.fgt
     ·refine zAj hle ?_;refine zAm rfl h (fun hb h=>?_) (fun hb h=>?_)
      ·refine yAD ?_;refine zAh ?_;cases h;replace h:some _=some _:=ho1;have hy:=osi h;subst hy;exact fin0 rfl rfl
      ·refine zAf ?_;refine yAC ?_;refine⟨(k,IntKind.i64.wrap (i2+1)),h,Le.fgt,Nat.lt_succ_self k⟩
    ·refine zAB ?_;cases h;exact⟨_,rfl,Le.fgt⟩
 ·subst hz;obtain _:=z;replace h:=ho1;refine zAj hle ?_;refine yAD ?_;refine zAh ?_;have hy:=osi h;subst hy;exact fin0 rfl rfl
def zND (xs:List AV) (r:Ret):Prop:=∃ (a0:List UInt8) (y0:Bool),zDM a0=some y0/\xs=[.s (.str a0)]/\r = .val (.s (.bool y0))
def zIu:zAp:=zAu fun xs r=>zND xs r
theorem zMZ:PSound Tryz.prog 100 zIu:=by
 have gok:=@gok0 Tryz.prog;refine psq tokW Tryz.call100 Tryz.func100 rfl ?_;rintro xs r w0 G0 ⟨s1,y0,h,rfl,rfl⟩ _;rw[zDM]at h;refine yAD ?_;refine zAa ?_;refine yAD ?_;show Tri ..;obtain⟨fl,hj,ho1⟩:=zAc h;refine zF9 (fl:=fl) (fun z=>match z with | _=>⟨ofL [],fun _=>none,0⟩) ?_ (fun z σ' hz hle=>?_)
 ·replace h:=hj;refine zAi ?_;refine zAa ?_;refine yAD ?_;show Tri ..;obtain⟨x2,hj,h⟩:=zAc h;refine zAn ⟨ofL [(4,.s (.bool x2))],fun _=>none,0⟩ ?_ (fun σ' hle=>?_)
  ·replace h:=hj;refine zAm rfl h (fun hb h=>?_) (fun hb h=>?_)
   ·refine zAf ?_;cases h;exact Le.fgt
   ·refine yAD ?_;refine zAm rfl h (fun hb h=>?_) (fun hb h=>?_)
    ·refine zAf ?_;cases h;exact Le.fgt
    ·refine yAD ?_;refine zAm rfl h (fun hb h=>?_) (fun hb h=>?_)
     ·refine zAf ?_;cases h;exact Le.fgt
     ·refine yAC ?_;cases h;exact Le.fgt
  ·refine zAj hle ?_;refine zAm rfl h (fun hb h=>?_) (fun hb h=>?_)
   ·refine yAD ?_;refine zAh ?_;cases h;replace h:some _=some _:=ho1;have hy:=osi h;subst hy;exact fin0 rfl rfl
   ·refine zAf ?_;cases h;exact⟨_,rfl,Le.fgt⟩
 ·subst hz;obtain _:=z;replace h:=ho1;refine zAj hle ?_;refine yAD ?_;refine zAh ?_;have hy:=osi h;subst hy;exact fin0 rfl rfl
def zPc (xs:List AV) (r:Ret):Prop:=∃ (a0:List UInt8) (y0:Bool),zDz a0=some y0/\xs=[.s (.str a0)]/\r = .val (.s (.bool y0))
def zGL:zAp:=zAu fun xs r=>zPc xs r
theorem zIC:PSound Tryz.prog 66 zGL:=by
 have gok:=@gok0 Tryz.prog;refine psq tokW Tryz.call66 Tryz.func66 rfl ?_;rintro xs r w0 G0 ⟨s1,y0,h,rfl,rfl⟩ _;rw[zDz]at h;refine yAD ?_;refine zAa ?_;refine yAD ?_;show Tri ..;obtain⟨fl,hj,ho1⟩:=zAc h;refine zF9 (fl:=fl) (fun z=>match z with | _=>⟨ofL [],fun _=>none,0⟩) ?_ (fun z σ' hz hle=>?_)
 ·replace h:=hj;refine zAi ?_;refine zAa ?_;refine yAD ?_;show Tri ..;obtain⟨x2,hj,h⟩:=zAc h;refine zAn ⟨ofL [(4,.s (.bool x2))],fun _=>none,0⟩ ?_ (fun σ' hle=>?_)
  ·replace h:=hj;refine zAm rfl h (fun hb h=>?_) (fun hb h=>?_)
   ·refine zAf ?_;cases h;exact Le.fgt
   ·refine yAD ?_;refine zAm rfl h (fun hb h=>?_) (fun hb h=>?_)
    ·refine zAf ?_;cases h;exact Le.fgt
    ·refine yAD ?_;refine zAm rfl h (fun hb h=>?_) (fun hb h=>?_)
     ·refine zAf ?_;cases h;exact Le.fgt
     ·refine yAD ?_;refine zAm rfl h (fun hb h=>?_) (fun hb h=>?_)
      ·refine zAf ?_;cases h;exact Le.fgt
      ·refine yAD ?_;refine zAm rfl h (fun hb h=>?_) (fun hb h=>?_)
       ·refine zAf ?_;cases h;exact Le.fgt
       ·refine yAC ?_;cases h;exact Le.fgt
  ·refine zAj hle ?_;refine zAm rfl h (fun hb h=>?_) (fun hb h=>?_)
   ·refine yAD ?_;refine zAh ?_;cases h;replace h:some _=some _:=ho1;have hy:=osi h;subst hy;exact fin0 rfl rfl
   ·refine zAf ?_;cases h;exact⟨_,rfl,Le.fgt⟩
 ·subst hz;obtain _:=z;replace h:=ho1;refine zAj hle ?_;refine yAD ?_;refine zAh ?_;have hy:=osi h;subst hy;exact fin0 rfl rfl
def zPb (n:Nat) (xs:List AV) (r:Ret):Prop:=∃ (a0:List UInt8) (y0:Bool),zEp n a0=some y0/\xs=[.s (.str a0)]/\r = .val (.s (.bool y0))
def zJm:zAp:=zAu fun xs r=>∃ n,zPb n xs r
theorem zNV:PSound Tryz.prog 63 zJm:=by
 have gok:∀ f s,look? f [(98,zIv),(99,zF1),(100,zIu),(66,zGL)]=some s->PSound Tryz.prog f s:=zAo (by
  simp only[List.forall_mem_cons]
  exact⟨zM0,zIZ,zMZ,zIC,by simp⟩)
 refine psq tokW Tryz.call63 Tryz.func63 rfl ?_;rintro xs r w0 G0 ⟨n,s1,y0,h,rfl,rfl⟩ _;rw[zEp]at h;refine yAD ?_;refine zAa ?_;refine yAD ?_;refine zAm rfl h (fun hb h=>?_) (fun hb h=>?_)
 ·refine zAa ?_;obtain⟨x2,hj,h⟩:=zAc h;refine zAn ⟨ofL [(2,.s (.bool x2))],fun _=>none,0⟩ ?_ (fun σ' hle=>?_)
  ·replace h:=hj;refine zAb [] [8] rfl ?_;obtain⟨y3,hy3,h⟩:=zAc h;refine⟨_,⟨_,_,_,hy3,rfl,rfl⟩,?_⟩
   intro b hb;cases b with
   | true =>
    replace h:=zAw hb.symm h;cases h;exact Le.fgt
   | false =>
    replace h:=zAv hb.symm h;obtain⟨y4,hy4,h⟩:=zAc h;refine⟨_,⟨_,_,_,hy4,rfl,rfl⟩,?_⟩
    cases h;exact Le.fgt
  ·refine zAj hle ?_;refine zAh ?_;have hy:=osi h;subst hy;exact fin0 rfl rfl
 ·refine zAf ?_;refine zAa ?_;obtain⟨x5,hj,h⟩:=zAc h;refine zAn ⟨ofL [(2,.s (.bool x5))],fun _=>none,0⟩ ?_ (fun σ' hle=>?_)
  ·replace h:=hj;refine zAb [] [15,20,24,29] rfl ?_;intro b hb;cases b with
   | true =>
    replace h:=zAw hb.symm h;intro b hb;cases b with
    | true =>
     replace h:=zAw hb.symm h;obtain⟨y6,hy6,h⟩:=zAc h;refine⟨_,⟨_,_,_,hy6,rfl,rfl⟩,?_⟩
     intro b hb;cases b with
     | true =>
      replace h:=zAw hb.symm h;obtain⟨y7,hy7,h⟩:=zAc h;refine⟨_,⟨_,_,hy7,rfl,rfl⟩,?_⟩
      intro b hb;cases b with
      | true =>
       replace h:=zAw hb.symm h;obtain⟨y8,hy8,h⟩:=zAc h;refine⟨_,⟨_,_,hy8,rfl,rfl⟩,?_⟩
       cases h;exact Le.fgt
      | false =>
       replace h:=zAv hb.symm h;cases h;exact Le.fgt
     | false =>
      replace h:=zAv hb.symm h;intro b hb;subst hb;cases h;exact Le.fgt
    | false =>
     replace h:=zAv hb.symm h;intro b hb;subst hb;intro b hb;subst hb;cases h;exact Le.fgt
   | false =>
    replace h:=zAv hb.symm h;intro b hb;subst hb;intro b hb;subst hb;intro b hb;subst hb;cases h;exact Le.fgt
  ·refine zAj hle ?_;refine zAh ?_;have hy:=osi h;subst hy;exact fin0 rfl rfl
def zKj (xs:List AV) (r:Ret):Prop:=∃ (a0:List UInt8) (a1:List UInt8) (y0:List UInt8) (y1:List UInt8) (y2:Bool),zCO a0 a1=some (y0,y1,y2)/\xs=[.s (.str a0),.s (.str a1)]/\r = .val (.tup [.s (.str y0),.s (.str y1),.s (.bool y2)])
def zGu:zAp:=zAu fun xs r=>zKj xs r
theorem zJS:PSound Tryz.prog 130 zGu:=by
 have gok:∀ f s,look? f [(149,zFv)]=some s->PSound Tryz.prog f s:=zAo (by
  simp only[List.forall_mem_cons]
  exact⟨zE9,by simp⟩)
 refine psq tokW Tryz.call130 Tryz.func130 rfl ?_;rintro xs r w0 G0 ⟨s1,sep2,y0,y1,y2,h,rfl,rfl⟩ _;rw[zCO]at h;refine yAD ?_;refine zAa ?_;refine yAD ?_;obtain⟨y3,hy3,h⟩:=zAc h;refine⟨_,⟨_,_,_,hy3,rfl,rfl⟩,?_⟩
 refine yAD ?_;refine zAm rfl h (fun hb h=>?_) (fun hb h=>?_)
 ·refine zAa ?_;refine zA0 [] [] [] rfl (by decide +kernel) ?_;obtain⟨hq,h⟩:=zAK h;refine And.intro hq ?_;obtain⟨hq,h⟩:=zAK h;refine And.intro hq ?_;refine zAh ?_;obtain⟨hj1,hk1⟩:=pij h;subst hj1;obtain⟨hj2,hk2⟩:=Prod.mk.inj hk1;subst hj2;subst hk2;exact fin0 rfl rfl
 ·refine zAf ?_;refine yAD ?_;refine zAh ?_;obtain⟨hj1,hk1⟩:=pij h;subst hj1;obtain⟨hj2,hk2⟩:=Prod.mk.inj hk1;subst hj2;subst hk2;exact fin0 rfl rfl
def zPe (xs:List AV) (r:Ret):Prop:=∃ (a0:List UInt8) (a1:List UInt8) (y0:List UInt8) (y1:List UInt8) (y2:Bool),zEr a0 a1=some (y0,y1,y2)/\xs=[.s (.str a0),.s (.str a1)]/\r = .val (.tup [.s (.str y0),.s (.str y1),.s (.bool y2)])
def zJo:zAp:=zAu fun xs r=>zPe xs r
theorem zNX:PSound Tryz.prog 101 zJo:=by
 have gok:∀ f s,look? f [(130,zGu)]=some s->PSound Tryz.prog f s:=zAo (by
  simp only[List.forall_mem_cons]
  exact⟨zJS,by simp⟩)
 refine psq tokW Tryz.call101 Tryz.func101 rfl ?_;rintro xs r w0 G0 ⟨s1,sep2,y0,y1,y2,h,rfl,rfl⟩ _;rw[zEr]at h;refine yAD ?_;refine yAD ?_;obtain⟨⟨y3,y4,y5⟩,hy3,h⟩:=zAc h;refine⟨_,⟨_,_,_,_,_,hy3,rfl,rfl⟩,?_⟩
 refine zAh ?_;obtain⟨hj1,hk1⟩:=pij h;subst hj1;obtain⟨hj2,hk2⟩:=Prod.mk.inj hk1;subst hj2;subst hk2;exact fin0 rfl rfl
def zPd (n:Nat) (xs:List AV) (r:Ret):Prop:=∃ (a0:List UInt8) (y0:Bool),zDA n a0=some y0/\xs=[.s (.str a0)]/\r = .val (.s (.bool y0))
def zJn:zAp:=zAu fun xs r=>∃ n,zPd n xs r
theorem zNW:PSound Tryz.prog 102 zJn:=by
 have gok:=@gok0 Tryz.prog;refine psq tokW Tryz.call102 Tryz.func102 rfl ?_;rintro xs r w0 G0 ⟨n,s1,y0,h,rfl,rfl⟩ _;rw[zDA]at h;refine yAD ?_;refine zAa ?_;refine yAD ?_;show Tri ..;obtain⟨fl,hl,ho1⟩:=zAc h;refine zF9 (fl:=fl) (fun z=>match z with | _=>⟨ofL [(0,.s (.str s1))],fun _=>none,0⟩) ?_ (fun z σ' hz hle=>?_)
 ·refine zAi (zAy (X:=Nat×Int) (fun y=>match y with | (k,i2)=>⟨ofL [(0,.s (.str s1)),(3,.s (.int .i64 i2))],fun _=>none,0⟩) (fun y=>zBI s1 y.1 y.2=some fl) (fun y=>y.1) (n,0) hl ?_ ?_)
  ·exact Le.fgt
  ·rintro⟨k,i2⟩ h;cases k with
   | zero=>cases h
   | succ k =>
    replace h:zBI s1 (k+1) i2=some fl:=h;rw[zBI]at h;refine zAa ?_;refine yAD ?_;refine zAm rfl h (fun hb h=>?_) (fun hb h=>?_)
    ·refine zAf ?_;refine zAa ?_;refine zAi ?_;refine zAa ?_;obtain⟨x3,hj,h⟩:=zAc h;refine zAn ⟨ofL [(0,.s (.str s1)),(3,.s (.int .i64 i2)),(19,.s (.bool x3))],fun _=>none,0⟩ ?_ (fun σ' hle=>?_)
     ·replace h:=hj;refine zAb [] [12,14,17] rfl ?_;obtain⟨c4,hc4,h⟩:=zAc h;refine And.intro (zCD hc4).1 ?_;intro v5 hv5;obtain rfl:(c4.toNat:Int)=v5:=(hv5.trans (zCD hc4).2).symm;intro b hb;cases b with
      | true =>
       replace h:=zAw hb.symm h;cases h;exact Le.fgt
      | false =>
       replace h:=zAv hb.symm h;obtain⟨c6,hc6,h⟩:=zAc h;refine And.intro (zCD hc6).1 ?_;intro v7 hv7;obtain rfl:(c6.toNat:Int)=v7:=(hv7.trans (zCD hc6).2).symm;cases h;exact Le.fgt
     ·refine zAj hle ?_;refine zAm rfl h (fun hb h=>?_) (fun hb h=>?_)
      ·refine yAD ?_;refine zAh ?_;cases h;replace h:some _=some _:=ho1;have hy:=osi h;subst hy;exact fin0 rfl rfl
      ·refine zAf ?_;refine yAC ?_;refine⟨(k,IntKind.i64.wrap (i2+1)),h,Le.fgt,Nat.lt_succ_self k⟩
    ·refine zAB ?_;cases h;exact⟨_,rfl,Le.fgt⟩
 ·subst hz;obtain _:=z;replace h:=ho1;refine zAj hle ?_;refine yAD ?_;refine zAh ?_;have hy:=osi h;subst hy;exact fin0 rfl rfl
def zPa (n:Nat) (xs:List AV) (r:Ret):Prop:=∃ (a0:List UInt8) (y0:Bool),zDy n a0=some y0/\xs=[.s (.str a0)]/\r = .val (.s (.bool y0))
def zJl:zAp:=zAu fun xs r=>∃ n,zPa n xs r
theorem zNU:PSound Tryz.prog 64 zJl:=by
 have gok:∀ f s,look? f [(101,zJo),(102,zJn)]=some s->PSound Tryz.prog f s:=zAo (by
  simp only[List.forall_mem_cons]
  exact⟨zNX,zNW,by simp⟩)
 refine psq tokW Tryz.call64 Tryz.func64 rfl ?_;rintro xs r w0 G0 ⟨n,s1,y0,h,rfl,rfl⟩ _;rw[zDy]at h;refine yAD ?_;refine yAD ?_;obtain⟨⟨y2,y3,y4⟩,hy2,h⟩:=zAc h;refine⟨_,⟨_,_,_,_,_,hy2,rfl,rfl⟩,?_⟩
 refine zAa ?_;obtain⟨x5,hj,h⟩:=zAc h;refine zAn ⟨ofL [(2,.s (.bool x5))],fun _=>none,0⟩ ?_ (fun σ' hle=>?_)
 ·replace h:=hj;refine zAb [] [15,19,22] rfl ?_;intro b hb;cases b with
  | true =>
   replace h:=zAw hb.symm h;obtain⟨y6,hy6,h⟩:=zAc h;refine⟨_,⟨_,_,_,hy6,rfl,rfl⟩,?_⟩
   intro b hb;cases b with
   | true =>
    replace h:=zAw hb.symm h;intro b hb;cases b with
    | true =>
     replace h:=zAw hb.symm h;cases h;exact Le.fgt
    | false =>
     replace h:=zAv hb.symm h;obtain⟨y7,hy7,h⟩:=zAc h;refine⟨_,⟨_,_,_,hy7,rfl,rfl⟩,?_⟩
     cases h;exact Le.fgt
   | false =>
    replace h:=zAv hb.symm h;cases h;exact Le.fgt
  | false =>
   replace h:=zAv hb.symm h;intro b hb;subst hb;cases h;exact Le.fgt
 ·refine zAj hle ?_;refine zAh ?_;have hy:=osi h;subst hy;exact fin0 rfl rfl
def zQy (n:Nat) (xs:List AV) (r:Ret):Prop:=∃ (a0:List UInt8) (y0:Bool),zEZ n a0=some y0/\xs=[.s (.str a0)]/\r = .val (.s (.bool y0))
def zK4:zAp:=zAu fun xs r=>∃ n,zQy n xs r
theorem zPS:PSound Tryz.prog 65 zK4:=by
 have gok:=@gok0 Tryz.prog;refine psq tokW Tryz.call65 Tryz.func65 rfl ?_;rintro xs r w0 G0 ⟨n,s1,y0,h,rfl,rfl⟩ _;rw[zEZ]at h;refine yAD ?_;refine zAa ?_;refine yAD ?_;show Tri ..;obtain⟨fl,hl,ho1⟩:=zAc h;refine zF9 (fl:=fl) (fun z=>match z with | _=>⟨ofL [(0,.s (.str s1))],fun _=>none,0⟩) ?_ (fun z σ' hz hle=>?_)
 ·refine zAi (zAy (X:=Nat×Int) (fun y=>match y with | (k,i2)=>⟨ofL [(0,.s (.str s1)),(3,.s (.int .i64 i2))],fun _=>none,0⟩) (fun y=>zBO s1 y.1 y.2=some fl) (fun y=>y.1) (n,0) hl ?_ ?_)
  ·exact Le.fgt
  ·rintro⟨k,i2⟩ h;cases k with
   | zero=>cases h
   | succ k =>
    replace h:zBO s1 (k+1) i2=some fl:=h;rw[zBO]at h;refine zAa ?_;refine yAD ?_;refine zAm rfl h (fun hb h=>?_) (fun hb h=>?_)
    ·refine zAf ?_;refine zAa ?_;refine zAi ?_;refine zAa ?_;obtain⟨x3,hj,h⟩:=zAc h;refine zAn ⟨ofL [(0,.s (.str s1)),(3,.s (.int .i64 i2)),(19,.s (.bool x3))],fun _=>none,0⟩ ?_ (fun σ' hle=>?_)
     ·replace h:=hj;refine zAb [] [12,14,17] rfl ?_;obtain⟨c4,hc4,h⟩:=zAc h;refine And.intro (zCD hc4).1 ?_;intro v5 hv5;obtain rfl:(c4.toNat:Int)=v5:=(hv5.trans (zCD hc4).2).symm;intro b hb;cases b with
      | true =>
       replace h:=zAw hb.symm h;cases h;exact Le.fgt
      | false =>
       replace h:=zAv hb.symm h;obtain⟨c6,hc6,h⟩:=zAc h;refine And.intro (zCD hc6).1 ?_;intro v7 hv7;obtain rfl:(c6.toNat:Int)=v7:=(hv7.trans (zCD hc6).2).symm;cases h;exact Le.fgt
     ·refine zAj hle ?_;refine zAm rfl h (fun hb h=>?_) (fun hb h=>?_)
      ·refine yAD ?_;refine zAh ?_;cases h;replace h:some _=some _:=ho1;have hy:=osi h;subst hy;exact fin0 rfl rfl
      ·refine zAf ?_;refine yAC ?_;refine⟨(k,IntKind.i64.wrap (i2+1)),h,Le.fgt,Nat.lt_succ_self k⟩
    ·refine zAB ?_;cases h;exact⟨_,rfl,Le.fgt⟩
 ·subst hz;obtain _:=z;replace h:=ho1;refine zAj hle ?_;refine yAD ?_;refine zAh ?_;have hy:=osi h;subst hy;exact fin0 rfl rfl
def zQw (xs:List AV) (r:Ret):Prop:=∃ (a0:List UInt8) (y0:Bool),zEY a0=some y0/\xs=[.s (.str a0)]/\r = .val (.s (.bool y0))
def zK3:zAp:=zAu fun xs r=>zQw xs r
theorem zPR:PSound Tryz.prog 67 zK3:=by
 have gok:∀ f s,look? f [(103,zFu)]=some s->PSound Tryz.prog f s:=zAo (by
  simp only[List.forall_mem_cons]
  exact⟨zIn,by simp⟩)
 refine psq tokW Tryz.call67 Tryz.func67 rfl ?_;rintro xs r w0 G0 ⟨s1,y0,h,rfl,rfl⟩ _;rw[zEY]at h;refine yAD ?_;refine zAa ?_;obtain⟨x2,hj,h⟩:=zAc h;refine zAn ⟨ofL [(2,.s (.bool x2))],fun _=>none,0⟩ ?_ (fun σ' hle=>?_)
 ·replace h:=hj;refine zAb [] [6,8,12,14] rfl ?_;intro b hb;cases b with
  | true =>
   replace h:=zAw hb.symm h;obtain⟨c3,hc3,h⟩:=zAc h;refine And.intro (zCD hc3).1 ?_;intro v4 hv4;obtain rfl:(c3.toNat:Int)=v4:=(hv4.trans (zCD hc3).2).symm;obtain⟨y5,hy5,h⟩:=zAc h;refine⟨_,⟨_,_,_,hy5,rfl,rfl⟩,?_⟩
   intro b hb;cases b with
   | true =>
    replace h:=zAw hb.symm h;obtain⟨c6,hc6,h⟩:=zAc h;refine And.intro (zCD hc6).1 ?_;intro v7 hv7;obtain rfl:(c6.toNat:Int)=v7:=(hv7.trans (zCD hc6).2).symm;obtain⟨y8,hy8,h⟩:=zAc h;refine⟨_,⟨_,_,_,hy8,rfl,rfl⟩,?_⟩
    cases h;exact Le.fgt
   | false =>
    replace h:=zAv hb.symm h;cases h;exact Le.fgt
  | false =>
   replace h:=zAv hb.symm h;intro b hb;subst hb;cases h;exact Le.fgt
 ·refine zAj hle ?_;refine zAh ?_;have hy:=osi h;subst hy;exact fin0 rfl rfl
def zBH (p:Unit):List S:=[.str [],.int .i64 0,.nf,.str [114,111,119],.int .i64 0,.fn 62,.str [115,121,109],.int .i64 0,.fn 63,.str [110,117,109],.int .i64 0,.fn 64,.str [116,101,120,116],.int .i64 0,.fn 65,.str [102,114,97,99],.int .i64 2,.fn 62,.str [114,111,111,116],.int .i64 2,.fn 62,.str [115,117,98],.int .i64 2,.fn 62,.str [115,117,112],.int .i64 2,.fn 62,.str [98,111,116,104],.int .i64 3,.fn 62,.str [97,99,99,101,110,116],.int .i64 1,.fn 66,.str [102,101,110,99,101],.int .i64 1,.fn 67,.str [109,97,116,114,105,120],.int .i64 0,.fn 62]
def zQx (xs:List AV) (r:Ret):Prop:=∃ (y0:Unit),zD7=some y0/\xs=[]/\r = .val (.agg ((zBH y0).map .s))
def zHr:zAp:=zAu fun xs r=>zQx xs r
theorem zJR:PSound Tryz.prog 36 zHr:=by
 have gok:=@gok0 Tryz.prog;refine psq tokW Tryz.call36 Tryz.func36 rfl ?_;rintro xs r w0 G0 ⟨y0,h,rfl,rfl⟩ _;rw[zD7]at h;refine zZx [0] [] rfl ?_;refine yAD ?_;refine zAh ?_;have hy:=osi h;subst hy;exact fin0 rfl rfl
def zA5 (p:(Unit×Int)):List S:=[.str [],.int .i64 0,.nf,.str [114,111,119],.int .i64 0,.fn 62,.str [115,121,109],.int .i64 0,.fn 63,.str [110,117,109],.int .i64 0,.fn 64,.str [116,101,120,116],.int .i64 0,.fn 65,.str [102,114,97,99],.int .i64 2,.fn 62,.str [114,111,111,116],.int .i64 2,.fn 62,.str [115,117,98],.int .i64 2,.fn 62,.str [115,117,112],.int .i64 2,.fn 62,.str [98,111,116,104],.int .i64 3,.fn 62,.str [97,99,99,101,110,116],.int .i64 1,.fn 66,.str [102,101,110,99,101],.int .i64 1,.fn 67,.str [109,97,116,114,105,120],.int .i64 0,.fn 62,.int .i64 p.2]
def zJb (n:Nat) (xs:List AV) (os:List Ob) (x:AV) (os':List (Option Ob)):Prop:=∃ (a0:(Unit×Int)) (a1:Nd) (y0:Bool) (z0:(Unit×Int)),zCq n a0 a1=some (y0,z0)/\xs=[.op 0 0,.s (.pt (Nd.enc a1))]/\os=[.box 87 ((zA5 a0).map .s)]/\x = .s (.bool y0)/\os'=[some (.box 87 ((zA5 z0).map .s))]
def zFY:zAp:=zB1 (fun xs os x os'=>∃ n,zJb n xs os x os')
abbrev kq0 (a:AV):List AV:=[.s (.str []),.s (.int .i64 0),.s (.nf),.s (.str [114,111,119]),.s (.int .i64 0),.s (.fn 62),.s (.str [115,121,109]),.s (.int .i64 0),.s (.fn 63),.s (.str [110,117,109]),.s (.int .i64 0),.s (.fn 64),.s (.str [116,101,120,116]),.s (.int .i64 0),.s (.fn 65),.s (.str [102,114,97,99]),.s (.int .i64 2),.s (.fn 62),.s (.str [114,111,111,116]),.s (.int .i64 2),.s (.fn 62),.s (.str [115,117,98]),.s (.int .i64 2),.s (.fn 62),.s (.str [115,117,112]),.s (.int .i64 2),.s (.fn 62),.s (.str [98,111,116,104]),.s (.int .i64 3),.s (.fn 62),.s (.str [97,99,99,101,110,116]),.s (.int .i64 1),.s (.fn 66),.s (.str [102,101,110,99,101]),.s (.int .i64 1),.s (.fn 67),.s (.str [109,97,116,114,105,120]),.s (.int .i64 0),.s (.fn 62),a]
theorem zIW:PSound Tryz.prog 68 zFY:=by
 have gok:∀ f s,look? f [(62,zK2),(63,zJm),(64,zJl),(65,zK4),(66,zGL),(67,zK3)]=some s->PSound Tryz.prog f s:=zAo (by
  simp only[List.forall_mem_cons]
  exact⟨zPQ,zNV,zNU,zPS,zIC,zPR,by simp⟩)
 refine PSound.withNil (osq tokW Tryz.call68 Tryz.func68 rfl ?_) _;rintro xs os x os' w0 G0 B0 ⟨n,⟨_,o1E⟩,⟨a2A,a2C,a2D,a2B⟩,y0,z0,h,rfl,rfl,rfl,rfl⟩ _;rw[zCq]at h;refine yAD ?_;refine zAa ?_;refine zAa ?_;obtain⟨x3,hj,h⟩:=zAc h;refine zAn ⟨ofL [(0,.op 0 0),(1,.s (.pt [.int .i64 a2A,.str a2C,.int .i64 a2D,.sl 4 (Nd.encs a2B)])),(34,.s (.bool x3))],ofH [(0,.box 87 (kq0 (.s (.int .i64 o1E))))],1⟩ ?_ (fun σ' hle=>?_)
 ·replace h:=hj;refine zA0 [] [10,17,22] [22] rfl (by decide +kernel) ?_;intro b hb;cases b with
  | true =>
   replace h:=zAw hb.symm h;intro b hb;subst hb;cases h;exact(Le.rnq [(0,0)] _ _ _)
  | false =>
   replace h:=zAv hb.symm h;intro b hb;cases b with
   | true =>
    replace h:=zAw hb.symm h;cases h;exact(Le.rnq [(0,0)] _ _ _)
   | false =>
    replace h:=zAv hb.symm h;intro vsp hvsp;cases hc:(a2A == 1) with
    | true =>
     replace h:=zAw hc h;obtain rfl:(1:Int)=vsp:=(hvsp.trans (eq_of_beq hc)).symm;refine And.intro (by decide) ?_;obtain⟨y4,hy4,h⟩:=zAc h;refine⟨_,⟨_,_,hy4,rfl,rfl⟩,?_⟩
     cases h;exact(Le.rnq [(0,0)] _ _ _)
    | false =>
     replace h:=zAv hc h;cases hc:(a2A == 2) with
     | true =>
      replace h:=zAw hc h;obtain rfl:(2:Int)=vsp:=(hvsp.trans (eq_of_beq hc)).symm;refine And.intro (by decide) ?_;obtain⟨y5,hy5,h⟩:=zAc h;refine⟨_,⟨_,_,_,hy5,rfl,rfl⟩,?_⟩
      cases h;exact(Le.rnq [(0,0)] _ _ _)
     | false =>
      replace h:=zAv hc h;cases hc:(a2A == 3) with
      | true =>
       replace h:=zAw hc h;obtain rfl:(3:Int)=vsp:=(hvsp.trans (eq_of_beq hc)).symm;refine And.intro (by decide) ?_;obtain⟨y6,hy6,h⟩:=zAc h;refine⟨_,⟨_,_,_,hy6,rfl,rfl⟩,?_⟩
       cases h;exact(Le.rnq [(0,0)] _ _ _)
      | false =>
       replace h:=zAv hc h;cases hc:(a2A == 4) with
       | true =>
        replace h:=zAw hc h;obtain rfl:(4:Int)=vsp:=(hvsp.trans (eq_of_beq hc)).symm;refine And.intro (by decide) ?_;obtain⟨y7,hy7,h⟩:=zAc h;refine⟨_,⟨_,_,_,hy7,rfl,rfl⟩,?_⟩
        cases h;exact(Le.rnq [(0,0)] _ _ _)
       | false =>
        replace h:=zAv hc h;cases hc:(a2A == 5) with
        | true =>
         replace h:=zAw hc h;obtain rfl:(5:Int)=vsp:=(hvsp.trans (eq_of_beq hc)).symm;refine And.intro (by decide) ?_;obtain⟨y8,hy8,h⟩:=zAc h;refine⟨_,⟨_,_,hy8,rfl,rfl⟩,?_⟩
         cases h;exact(Le.rnq [(0,0)] _ _ _)
        | false =>
         replace h:=zAv hc h;cases hc:(a2A == 6) with
         | true =>
          replace h:=zAw hc h;obtain rfl:(6:Int)=vsp:=(hvsp.trans (eq_of_beq hc)).symm;refine And.intro (by decide) ?_;obtain⟨y9,hy9,h⟩:=zAc h;refine⟨_,⟨_,_,hy9,rfl,rfl⟩,?_⟩
          cases h;exact(Le.rnq [(0,0)] _ _ _)
         | false =>
          replace h:=zAv hc h;cases hc:(a2A == 7) with
          | true =>
           replace h:=zAw hc h;obtain rfl:(7:Int)=vsp:=(hvsp.trans (eq_of_beq hc)).symm;refine And.intro (by decide) ?_;obtain⟨y10,hy10,h⟩:=zAc h;refine⟨_,⟨_,_,hy10,rfl,rfl⟩,?_⟩
           cases h;exact(Le.rnq [(0,0)] _ _ _)
          | false =>
           replace h:=zAv hc h;cases hc:(a2A == 8) with
           | true =>
            replace h:=zAw hc h;obtain rfl:(8:Int)=vsp:=(hvsp.trans (eq_of_beq hc)).symm;refine And.intro (by decide) ?_;obtain⟨y11,hy11,h⟩:=zAc h;refine⟨_,⟨_,_,hy11,rfl,rfl⟩,?_⟩
            cases h;exact(Le.rnq [(0,0)] _ _ _)
           | false =>
            replace h:=zAv hc h;cases hc:(a2A == 9) with
            | true =>
             replace h:=zAw hc h;obtain rfl:(9:Int)=vsp:=(hvsp.trans (eq_of_beq hc)).symm;refine And.intro (by decide) ?_;obtain⟨y12,hy12,h⟩:=zAc h;refine⟨_,⟨_,_,hy12,rfl,rfl⟩,?_⟩
             cases h;exact(Le.rnq [(0,0)] _ _ _)
            | false =>
             replace h:=zAv hc h;cases hc:(a2A == 10) with
             | true =>
              replace h:=zAw hc h;obtain rfl:(10:Int)=vsp:=(hvsp.trans (eq_of_beq hc)).symm;refine And.intro (by decide) ?_;obtain⟨y13,hy13,h⟩:=zAc h;refine⟨_,⟨_,_,hy13,rfl,rfl⟩,?_⟩
              cases h;exact(Le.rnq [(0,0)] _ _ _)
             | false =>
              replace h:=zAv hc h;cases hc:(a2A == 11) with
              | true =>
               replace h:=zAw hc h;obtain rfl:(11:Int)=vsp:=(hvsp.trans (eq_of_beq hc)).symm;refine And.intro (by decide) ?_;obtain⟨y14,hy14,h⟩:=zAc h;refine⟨_,⟨_,_,hy14,rfl,rfl⟩,?_⟩
               cases h;exact(Le.rnq [(0,0)] _ _ _)
              | false =>
               replace h:=zAv hc h;cases hc:(a2A == 12) with
               | true =>
                replace h:=zAw hc h;obtain rfl:(12:Int)=vsp:=(hvsp.trans (eq_of_beq hc)).symm;refine And.intro (by decide) ?_;obtain⟨y15,hy15,h⟩:=zAc h;refine⟨_,⟨_,_,hy15,rfl,rfl⟩,?_⟩
                cases h;exact(Le.rnq [(0,0)] _ _ _)
               | false =>
                replace h:=zAv hc h;cases h
 ·refine zAj hle ?_;refine zAm rfl h (fun hb h=>?_) (fun hb h=>?_)
  ·refine yAD ?_;refine zAh ?_;obtain⟨hj1,hk1⟩:=pij h;subst hj1 hk1;unfold zCA;exact⟨_,(Le.rnq [(0,0)] [(4,.s (.bool false))] [(0,.box 87 (kq0 (.s (.int .i64 o1E))))] 1),rfl,rfl,rfl,rfl,trivial⟩
  ·refine zAf ?_;refine zAa ?_;refine yAD ?_;refine zAi ?_;refine yAD ?_;refine zAm rfl h (fun hb h=>?_) (fun hb h=>?_)
   ·refine zAa ?_;obtain⟨x16,hj,h⟩:=zAc h;refine zAn ⟨ofL [(4,.s (.bool x16))],ofH [(0,.box 87 (kq0 (.s (.int .i64 o1E))))],1⟩ ?_ (fun σ' hle=>?_)
    ·replace h:=hj;refine zAb [] [46,51] rfl ?_;intro b hb;cases b with
     | true =>
      replace h:=zAw hb.symm h;intro n17 hn17;obtain rfl:=rlE Nd.encs_eq a2B hn17;cases h;exact(Le.rnq [(0,0)] _ _ _)
     | false =>
      replace h:=zAv hb.symm h;cases h;exact(Le.rnq [(0,0)] _ _ _)
    ·refine zAj hle ?_;refine zAh ?_;obtain⟨hj1,hk1⟩:=pij h;subst hj1 hk1;unfold zCA;exact⟨_,(Le.rnq [(0,0)] [(4,.s (.bool x16))] [(0,.box 87 (kq0 (.s (.int .i64 o1E))))] 1),rfl,rfl,rfl,rfl,trivial⟩
   ·refine yAD ?_;refine zAm rfl h (fun hb h=>?_) (fun hb h=>?_)
    ·refine zAa ?_;obtain⟨x18,hj,h⟩:=zAc h;refine zAn ⟨ofL [(4,.s (.bool x18))],ofH [(0,.box 87 (kq0 (.s (.int .i64 o1E))))],1⟩ ?_ (fun σ' hle=>?_)
     ·replace h:=hj;refine zA0 [] [61,68,73,76,81,84,89] [] rfl (by decide +kernel) ?_;intro b hb;cases b with
      | true =>
       replace h:=zAw hb.symm h;intro b hb;cases b with
       | true =>
        replace h:=zAw hb.symm h;intro n19 hn19;obtain rfl:=rlE Nd.encs_eq a2B hn19;intro b hb;cases b with
        | true =>
         replace h:=zAw hb.symm h;intro n20 hn20;obtain rfl:=rlE Nd.encs_eq a2B hn20;intro b hb;cases b with
         | true =>
          replace h:=zAw hb.symm h;intro n21 hn21;obtain rfl:=rlE Nd.encs_eq a2B hn21;obtain⟨hq,h⟩:=zAK h;refine And.intro hq ?_;cases h;exact(Le.rnq [(0,0)] _ _ _)
         | false =>
          replace h:=zAv hb.symm h;cases h;exact(Le.rnq [(0,0)] _ _ _)
        | false =>
         replace h:=zAv hb.symm h;intro b hb;subst hb;cases h;exact(Le.rnq [(0,0)] _ _ _)
       | false =>
        replace h:=zAv hb.symm h;intro b hb;subst hb;intro b hb;subst hb;cases h;exact(Le.rnq [(0,0)] _ _ _)
      | false =>
       replace h:=zAv hb.symm h;intro b hb;subst hb;intro b hb;subst hb;intro b hb;subst hb;cases h;exact(Le.rnq [(0,0)] _ _ _)
     ·refine zAj hle ?_;refine zAh ?_;obtain⟨hj1,hk1⟩:=pij h;subst hj1 hk1;unfold zCA;exact⟨_,(Le.rnq [(0,0)] [(4,.s (.bool x18))] [(0,.box 87 (kq0 (.s (.int .i64 o1E))))] 1),rfl,rfl,rfl,rfl,trivial⟩
    ·refine zAf ?_;refine zAa ?_;obtain⟨x22,hj,h⟩:=zAc h;refine zAn ⟨ofL [(4,.s (.bool x22))],ofH [(0,.box 87 (kq0 (.s (.int .i64 o1E))))],1⟩ ?_ (fun σ' hle=>?_)
     ·replace h:=hj;refine zA0 [] [102,107,112] [20] rfl (by decide +kernel) ?_;intro b hb;cases b with
      | true =>
       replace h:=zAw hb.symm h;intro n23 hn23;obtain rfl:=rlE Nd.encs_eq a2B hn23;intro vsp hvsp;cases hc:(a2A == 1) with
       | true =>
        replace h:=zAw hc h;obtain rfl:(1:Int)=vsp:=(hvsp.trans (eq_of_beq hc)).symm;refine And.intro (by decide) ?_;cases h;exact(Le.rnq [(0,0)] _ _ _)
       | false =>
        replace h:=zAv hc h;cases hc:(a2A == 2) with
        | true =>
         replace h:=zAw hc h;obtain rfl:(2:Int)=vsp:=(hvsp.trans (eq_of_beq hc)).symm;refine And.intro (by decide) ?_;cases h;exact(Le.rnq [(0,0)] _ _ _)
        | false =>
         replace h:=zAv hc h;cases hc:(a2A == 3) with
         | true =>
          replace h:=zAw hc h;obtain rfl:(3:Int)=vsp:=(hvsp.trans (eq_of_beq hc)).symm;refine And.intro (by decide) ?_;cases h;exact(Le.rnq [(0,0)] _ _ _)
         | false =>
          replace h:=zAv hc h;cases hc:(a2A == 4) with
          | true =>
           replace h:=zAw hc h;obtain rfl:(4:Int)=vsp:=(hvsp.trans (eq_of_beq hc)).symm;refine And.intro (by decide) ?_;cases h;exact(Le.rnq [(0,0)] _ _ _)
          | false =>
           replace h:=zAv hc h;cases hc:(a2A == 5) with
           | true =>
            replace h:=zAw hc h;obtain rfl:(5:Int)=vsp:=(hvsp.trans (eq_of_beq hc)).symm;refine And.intro (by decide) ?_;cases h;exact(Le.rnq [(0,0)] _ _ _)
           | false =>
            replace h:=zAv hc h;cases hc:(a2A == 6) with
            | true =>
             replace h:=zAw hc h;obtain rfl:(6:Int)=vsp:=(hvsp.trans (eq_of_beq hc)).symm;refine And.intro (by decide) ?_;cases h;exact(Le.rnq [(0,0)] _ _ _)
            | false =>
             replace h:=zAv hc h;cases hc:(a2A == 7) with
             | true =>
              replace h:=zAw hc h;obtain rfl:(7:Int)=vsp:=(hvsp.trans (eq_of_beq hc)).symm;refine And.intro (by decide) ?_;cases h;exact(Le.rnq [(0,0)] _ _ _)
             | false =>
              replace h:=zAv hc h;cases hc:(a2A == 8) with
              | true =>
               replace h:=zAw hc h;obtain rfl:(8:Int)=vsp:=(hvsp.trans (eq_of_beq hc)).symm;refine And.intro (by decide) ?_;cases h;exact(Le.rnq [(0,0)] _ _ _)
              | false =>
               replace h:=zAv hc h;cases hc:(a2A == 9) with
               | true =>
                replace h:=zAw hc h;obtain rfl:(9:Int)=vsp:=(hvsp.trans (eq_of_beq hc)).symm;refine And.intro (by decide) ?_;cases h;exact(Le.rnq [(0,0)] _ _ _)
               | false =>
                replace h:=zAv hc h;cases hc:(a2A == 10) with
                | true =>
                 replace h:=zAw hc h;obtain rfl:(10:Int)=vsp:=(hvsp.trans (eq_of_beq hc)).symm;refine And.intro (by decide) ?_;cases h;exact(Le.rnq [(0,0)] _ _ _)
                | false =>
                 replace h:=zAv hc h;cases hc:(a2A == 11) with
                 | true =>
                  replace h:=zAw hc h;obtain rfl:(11:Int)=vsp:=(hvsp.trans (eq_of_beq hc)).symm;refine And.intro (by decide) ?_;cases h;exact(Le.rnq [(0,0)] _ _ _)
                 | false =>
                  replace h:=zAv hc h;cases hc:(a2A == 12) with
                  | true =>
                   replace h:=zAw hc h;obtain rfl:(12:Int)=vsp:=(hvsp.trans (eq_of_beq hc)).symm;refine And.intro (by decide) ?_;cases h;exact(Le.rnq [(0,0)] _ _ _)
                  | false =>
                   replace h:=zAv hc h;cases h
      | false =>
       replace h:=zAv hb.symm h;cases h;exact(Le.rnq [(0,0)] _ _ _)
     ·refine zAj hle ?_;refine zAh ?_;obtain⟨hj1,hk1⟩:=pij h;subst hj1 hk1;unfold zCA;exact⟨_,(Le.rnq [(0,0)] [(4,.s (.bool x22))] [(0,.box 87 (kq0 (.s (.int .i64 o1E))))] 1),rfl,rfl,rfl,rfl,trivial⟩
def zCe (n:Nat) (xs:List AV) (os:List Ob) (x:AV) (os':List (Option Ob)):Prop:=∃ (a0:(Unit×Int)) (a1:Nd) (a2:Int) (y0:Bool) (z0:(Unit×Int)),zA4 n a0 a1 a2=some (y0,z0)/\xs=[.op 0 0,.s (.pt (Nd.enc a1)),.s (.int .i64 a2)]/\os=[.box 87 ((zA5 a0).map .s)]/\x = .s (.bool y0)/\os'=[some (.box 87 ((zA5 z0).map .s))]
theorem zHg (n:Nat) (ih:PSound Tryz.prog 37 (zB1 (zCe n))):PSound Tryz.prog 37 (zB1 (zCe (n+1))):=by
 have gok:∀ f s,look? f [(68,zFY),(37,zB1 (zCe n))]=some s->PSound Tryz.prog f s:=zAo (by
  simp only[List.forall_mem_cons]
  exact⟨zIW,ih,by simp⟩)
 refine PSound.withNil (osq tokW Tryz.call37 Tryz.func37 rfl ?_) _;rintro xs os x os' w0 G0 B0 ⟨⟨_,o1E⟩,⟨a2A,a2C,a2D,a2B⟩,a3,y0,z0,h,rfl,rfl,rfl,rfl⟩ _;rw[zA4]at h;refine yAD ?_;refine yAD ?_;refine zAa ?_;refine zAa ?_;obtain⟨⟨x4,x5⟩,hj,h⟩:=zAc h;refine zAn ⟨ofL [(0,.op 0 0),(1,.s (.pt [.int .i64 a2A,.str a2C,.int .i64 a2D,.sl 4 (Nd.encs a2B)])),(2,.s (.int .i64 a3)),(29,.s (.bool x4))],ofH [(0,.box 87 (kq0 (.s (.int .i64 x5))))],1⟩ ?_ (fun σ' hle=>?_)
 ·replace h:=hj;refine zAb [] [20,24] rfl ?_;intro b hb;cases b with
  | true =>
   replace h:=zAw hb.symm h;intro b hb;subst hb;cases h;exact(Le.rnq [(0,0)] _ _ _)
  | false =>
   replace h:=zAv hb.symm h;intro b hb;cases b with
   | true =>
    replace h:=zAw hb.symm h;cases h;exact(Le.rnq [(0,0)] _ _ _)
   | false =>
    replace h:=zAv hb.symm h;obtain⟨⟨y6,⟨_,w7E⟩⟩,hy6,h⟩:=zAc h;refine⟨_,_,⟨_,_,_,_,_,hy6,rfl,rfl,rfl,rfl⟩,?_⟩
    cases h;exact(Le.rnq [(0,0)] _ _ _)
 ·refine zAj hle ?_;refine zAm rfl h (fun hb h=>?_) (fun hb h=>?_)
  ·refine yAD ?_;refine zAh ?_;obtain⟨hj1,hk1⟩:=pij h;subst hj1 hk1;unfold zCA;exact⟨_,(Le.rnq [(0,0)] [(6,.s (.bool false))] [(0,.box 87 (kq0 (.s (.int .i64 x5))))] 1),rfl,rfl,rfl,rfl,trivial⟩
  ·refine zAf ?_;refine zAa ?_;refine zZx [] [34] rfl ?_;intro n8 hn8;obtain rfl:=rlE Nd.encs_eq a2B hn8;show Tri ..;obtain⟨fl,hl,ho1⟩:=zAc h;refine zF9 (fl:=fl) (fun z=>match z with | x11=>⟨ofL [],ofH [(0,.box 87 (kq0 (.s (.int .i64 x11))))],1⟩) ?_ (fun x11 σ' hz hle=>?_)
   ·refine zAi (zAy (X:=Nat×Int×Int) (fun y=>match y with | (k,x9,x10)=>⟨ofL [(0,.op 0 0),(1,.s (.pt [.int .i64 a2A,.str a2C,.int .i64 a2D,.sl 4 (Nd.encs a2B)])),(2,.s (.int .i64 a3)),(34,.s (.int .i64 (a2B.length:Int))),(35,.s (.int .i64 x10))],ofH [(0,.box 87 (kq0 (.s (.int .i64 x9))))],1⟩) (fun y=>zAQ (zA4 n) a2A a2B a3 y.1 y.2.1 y.2.2=some fl) (fun y=>y.1) (n,x5,0) hl ?_ ?_)
    ·exact(Le.rnq [(0,0)] _ _ _)
    ·rintro⟨k,x9,x10⟩ h;cases k with
     | zero=>cases h
     | succ k =>
      replace h:zAQ (zA4 n) a2A a2B a3 (k+1) x9 x10=some fl:=h;rw[zAQ]at h;refine yAD ?_;refine zAa ?_;refine zAm rfl h (fun hb h=>?_) (fun hb h=>?_)
      ·refine zAf ?_;refine zAa ?_;refine zAi ?_;refine yAD ?_;refine zAa ?_;obtain⟨⟨x12,x13⟩,hj,h⟩:=zAc h;refine zAn ⟨ofL [(0,.op 0 0),(1,.s (.pt [.int .i64 a2A,.str a2C,.int .i64 a2D,.sl 4 (Nd.encs a2B)])),(2,.s (.int .i64 a3)),(34,.s (.int .i64 (a2B.length:Int))),(35,.s (.int .i64 x10)),(65,.s (.bool x12))],ofH [(0,.box 87 (kq0 (.s (.int .i64 x13))))],1⟩ ?_ (fun σ' hle=>?_)
       ·replace h:=hj;refine zA0 [] [48,53,60] [25] rfl (by decide +kernel) ?_;obtain⟨⟨e14A,e14C,e14D,e14B⟩,he14,h⟩:=zAc h;refine And.intro (zAq Nd.encs_eq he14).1 ?_;intro r15 hr15;obtain rfl:[.int .i64 e14A,.str e14C,.int .i64 e14D,.sl 4 (Nd.encs e14B)]=r15:=(hr15.trans (zAq Nd.encs_eq he14).2.1).symm;intro b hb;cases b with
        | true =>
         replace h:=zAw hb.symm h;cases h;exact(Le.rnq [(0,0)] _ _ _)
        | false =>
         replace h:=zAv hb.symm h;obtain⟨⟨e16A,e16C,e16D,e16B⟩,he16,h⟩:=zAc h;refine And.intro (zAq Nd.encs_eq he16).1 ?_;intro r17 hr17;obtain rfl:[.int .i64 e16A,.str e16C,.int .i64 e16D,.sl 4 (Nd.encs e16B)]=r17:=(hr17.trans (zAq Nd.encs_eq he16).2.1).symm;obtain⟨⟨y18,⟨_,w19E⟩⟩,hy18,h⟩:=zAc h;refine⟨_,_,⟨_,_,_,_,_,hy18,rfl,rfl,rfl,rfl⟩,?_⟩
         cases h;exact(Le.rnq [(0,0)] _ _ _)
       ·refine zAj hle ?_;refine zAm rfl h (fun hb h=>?_) (fun hb h=>?_)
        ·refine yAD ?_;refine zAh ?_;cases h;replace h:some _=some _:=ho1;obtain⟨hj1,hk1⟩:=pij h;subst hj1 hk1;unfold zCA;exact⟨_,(Le.rnq [(0,0)] [(6,.s (.bool false))] [(0,.box 87 (kq0 (.s (.int .i64 x13))))] 1),rfl,rfl,rfl,rfl,trivial⟩
        ·refine zAf ?_;refine yAC ?_;refine⟨(k,x13,IntKind.i64.wrap (x10+1)),h,(Le.rnq [(0,0)] _ _ _),Nat.lt_succ_self k⟩
      ·refine zAB ?_;cases h;exact⟨_,rfl,(Le.rnq [(0,0)] _ _ _)⟩
   ·subst hz;replace h:=ho1;refine zAj hle ?_;refine yAD ?_;refine zAh ?_;obtain⟨hj1,hk1⟩:=pij h;subst hj1 hk1;unfold zCA;exact⟨_,(Le.rnq [(0,0)] [(6,.s (.bool true))] [(0,.box 87 (kq0 (.s (.int .i64 x11))))] 1),rfl,rfl,rfl,rfl,trivial⟩
theorem zHt:∀ n,PSound Tryz.prog 37 (zB1 (zCe n)):=by
 intro n
 induction n with
 | zero=>exact zEJ Tryz.call37 (fun xs os x os' h=>by obtain⟨_,_,_,_,_,h,_⟩:=h; cases h) _
 | succ n ih=>exact zHg n ih
def zFr:zAp:=zB1 (fun xs os x os'=>∃ n,zCe n xs os x os')
theorem zIk:PSound Tryz.prog 37 zFr:=zKB zHt _
def zQu (n:Nat) (xs:List AV) (r:Ret):Prop:=∃ (a0:Nd) (y0:Bool),zA2 n a0=some y0/\xs=[.agg ((Nd.enc a0).map .s)]/\r = .val (.s (.bool y0))
def zDm:zAp:=zAu fun xs r=>∃ n,zQu n xs r
theorem zDC:PSound Tryz.prog 18 zDm:=by
 have gok:∀ f s,look? f [(36,zHr),(37,zFr)]=some s->PSound Tryz.prog f s:=zAo (by
  simp only[List.forall_mem_cons]
  exact⟨zJR,zIk,by simp⟩)
 refine psq tokW Tryz.call18 Tryz.func18 rfl ?_;rintro xs r w0 G0 ⟨n,⟨n1A,n1C,n1D,n1B⟩,y0,h,rfl,rfl⟩ _;rw[zA2]at h;refine yAD ?_;refine zZx [6] [] rfl ?_;obtain⟨_,hy2,h⟩:=zAc h;refine⟨_,⟨_,hy2,rfl,rfl⟩,?_⟩
 refine zAa ?_;obtain⟨x3,hj,h⟩:=zAc h;refine zAn ⟨ofL [(2,.s (.bool x3))],fun _=>none,0⟩ ?_ (fun σ' hle=>?_)
 ·replace h:=hj;refine zAb [] [10] rfl ?_;intro b hb;cases b with
  | true =>
   replace h:=zAw hb.symm h;obtain⟨⟨y4,⟨_,w5E⟩⟩,hy4,h⟩:=zAc h;refine⟨_,_,⟨_,_,_,_,_,_,hy4,rfl,rfl,rfl,rfl⟩,?_⟩
   cases h;exact(Le.rnq [] _ [] 0)
  | false =>
   replace h:=zAv hb.symm h;cases h;exact(Le.rnq [] _ [] 0)
 ·refine zAj hle ?_;refine zAh ?_;have hy:=osi h;subst hy;exact fin0 rfl rfl
def zKi (n:Nat) (xs:List AV) (r:Ret):Prop:=∃ (a0:List Nd) (y0:Bool),zCc n a0=some y0/\xs=[.s (.sl 4 (Nd.encs a0))]/\r = .val (.s (.bool y0))
def zEA:zAp:=zAu fun xs r=>∃ n,zKi n xs r
theorem zF7:PSound Tryz.prog 69 zEA:=by
 have gok:∀ f s,look? f [(18,zDm)]=some s->PSound Tryz.prog f s:=zAo (by
  simp only[List.forall_mem_cons]
  exact⟨zDC,by simp⟩)
 refine psq tokW Tryz.call69 Tryz.func69 rfl ?_;rintro xs r w0 G0 ⟨n,l1,y0,h,rfl,rfl⟩ _;rw[zCc]at h;refine yAD ?_;refine yAD ?_;obtain⟨y2,hy2,h⟩:=zAc h;refine⟨_,⟨_,_,_,hy2,rfl,rfl⟩,?_⟩
 refine zAh ?_;have hy:=osi h;subst hy;exact fin0 rfl rfl
def zQt (xs:List AV) (r:Ret):Prop:=∃ (a0:Nd) (y0:Int),zDp a0=some y0/\xs=[.agg ((Nd.enc a0).map .s)]/\r = .val (.s (.int .i64 y0))
def zFX:zAp:=zAu fun xs r=>zQt xs r
theorem zGY:PSound Tryz.prog 104 zFX:=by
 have gok:=@gok0 Tryz.prog;refine psq tokW Tryz.call104 Tryz.func104 rfl ?_;rintro xs r w0 G0 ⟨⟨n1A,n1C,n1D,n1B⟩,y0,h,rfl,rfl⟩ _;rw[zDp]at h;refine yAD ?_;refine zAa ?_;refine yAD ?_;refine zAm rfl h (fun hb h=>?_) (fun hb h=>?_)
 ·refine yAD ?_;refine zAh ?_;have hy:=osi h;subst hy;exact fin0 rfl rfl
 ·refine zAf ?_;refine zZx [] [8] rfl ?_;intro n2 hn2;obtain rfl:=rlE Nd.encs_eq n1B hn2;refine zAh ?_;have hy:=osi h;subst hy;exact fin0 rfl rfl
def zDV (n:Nat) (xs:List AV) (r:Ret):Prop:=∃ (a0:Nd) (a1:Nd) (y0:Bool),zCa n a0 a1=some y0/\xs=[.agg ((Nd.enc a0).map .s),.agg ((Nd.enc a1).map .s)]/\r = .val (.s (.bool y0))
def zA8 (n:Nat) (xs:List AV) (r:Ret):Prop:=∃ (a0:List Nd) (a1:List Nd) (y0:Bool),zAX n a0 a1=some y0/\xs=[.s (.sl 4 (Nd.encs a0)),.s (.sl 4 (Nd.encs a1)),.s (.fn 107)]/\r = .val (.s (.bool y0))
theorem zNq (n:Nat) (ih_node_Equal:PSound Tryz.prog 107 (zAu (zDV n))) (ih_slices_EqualFunc_sNode:PSound Tryz.prog 106 (zAu (zA8 n))):PSound Tryz.prog 107 (zAu (zDV (n+1))):=by
 have gok:∀ f s,look? f [(106,zAu (zA8 n))]=some s->PSound Tryz.prog f s:=zAo (by
  simp only[List.forall_mem_cons]
  exact⟨ih_slices_EqualFunc_sNode,by simp⟩)
 refine psq tokW Tryz.call107 Tryz.func107 rfl ?_;rintro xs r w0 G0 ⟨⟨a1A,a1C,a1D,a1B⟩,⟨b2A,b2C,b2D,b2B⟩,y0,h,rfl,rfl⟩ _;rw[zCa]at h;refine yAD ?_;refine zAa ?_;obtain⟨x3,hj,h⟩:=zAc h;refine zAn ⟨ofL [(4,.s (.bool x3))],fun _=>none,0⟩ ?_ (fun σ' hle=>?_)
 ·replace h:=hj;refine zAb [] [10,17,24] rfl ?_;intro b hb;cases b with
  | true =>
   replace h:=zAw hb.symm h;intro b hb;cases b with
   | true =>
    replace h:=zAw hb.symm h;intro b hb;cases b with
    | true =>
     replace h:=zAw hb.symm h;obtain⟨y4,hy4,h⟩:=zAc h;refine⟨_,⟨_,_,_,hy4,rfl,rfl⟩,?_⟩
     cases h;exact Le.fgt
    | false =>
     replace h:=zAv hb.symm h;cases h;exact Le.fgt
   | false =>
    replace h:=zAv hb.symm h;intro b hb;subst hb;cases h;exact Le.fgt
  | false =>
   replace h:=zAv hb.symm h;intro b hb;subst hb;intro b hb;subst hb;cases h;exact Le.fgt
 ·refine zAj hle ?_;refine zAh ?_;have hy:=osi h;subst hy;exact fin0 rfl rfl
theorem zFO (n:Nat) (ih_node_Equal:PSound Tryz.prog 107 (zAu (zDV n))) (ih_slices_EqualFunc_sNode:PSound Tryz.prog 106 (zAu (zA8 n))):PSound Tryz.prog 106 (zAu (zA8 (n+1))):=by
 have gok:∀ f s,look? f [(107,zAu (zDV n))]=some s->PSound Tryz.prog f s:=zAo (by
  simp only[List.forall_mem_cons]
  exact⟨ih_node_Equal,by simp⟩)
 refine psq tokW Tryz.call106 Tryz.func106 rfl ?_;rintro xs r w0 G0 ⟨s11,s22,y0,h,rfl,rfl⟩ _;rw[zAX]at h;refine yAD ?_;refine zAa ?_;refine zZx [] [11,13] rfl ?_;intro n3 hn3;obtain rfl:=rlE Nd.encs_eq s11 hn3;intro n4 hn4;obtain rfl:=rlE Nd.encs_eq s22 hn4;refine zAm rfl h (fun hb h=>?_) (fun hb h=>?_)
 ·refine yAD ?_;refine zAh ?_;have hy:=osi h;subst hy;exact fin0 rfl rfl
 ·refine zAf ?_;refine zAa ?_;refine zZx [] [16] rfl ?_;intro n5 hn5;obtain rfl:=rlE Nd.encs_eq s11 hn5;show Tri ..;obtain⟨fl,hl,ho1⟩:=zAc h;refine zF9 (fl:=fl) (fun z=>match z with | _=>⟨ofL [],fun _=>none,0⟩) ?_ (fun z σ' hz hle=>?_)
  ·refine zAi (zAy (X:=Nat×Int) (fun y=>match y with | (k,x6)=>⟨ofL [(1,.s (.sl 4 (Nd.encs s22))),(2,.s (.fn 107)),(15,.s (.sl 4 (Nd.encs s11))),(16,.s (.int .i64 (s11.length:Int))),(17,.s (.int .i64 x6))],fun _=>none,0⟩) (fun y=>zAJ (zCa n) s11 s22 y.1 y.2=some fl) (fun y=>y.1) (n,0) hl ?_ ?_)
   ·exact Le.fgt
   ·rintro⟨k,x6⟩ h;cases k with
    | zero=>cases h
    | succ k =>
     replace h:zAJ (zCa n) s11 s22 (k+1) x6=some fl:=h;rw[zAJ]at h;refine yAD ?_;refine zAa ?_;refine zAm rfl h (fun hb h=>?_) (fun hb h=>?_)
     ·refine zAf ?_;refine zAa ?_;refine zAi ?_;refine zZx [8] [20] rfl ?_;obtain⟨⟨e7A,e7C,e7D,e7B⟩,he7,h⟩:=zAc h;refine And.intro (zAq Nd.encs_eq he7).1 ?_;intro r8 hr8;obtain rfl:[.int .i64 e7A,.str e7C,.int .i64 e7D,.sl 4 (Nd.encs e7B)]=r8:=(hr8.trans (zAq Nd.encs_eq he7).2.1).symm;refine zAj (Le.giveBox 0 [.int .i64 e7A,.str e7C,.int .i64 e7D,.sl 4 (Nd.encs e7B)] rfl rfl) ?_;refine zZx [9] [24] rfl ?_;obtain⟨⟨e9A,e9C,e9D,e9B⟩,he9,h⟩:=zAc h;refine And.intro (zAq Nd.encs_eq he9).1 ?_
      intro r10 hr10;obtain rfl:[.int .i64 e9A,.str e9C,.int .i64 e9D,.sl 4 (Nd.encs e9B)]=r10:=(hr10.trans (zAq Nd.encs_eq he9).2.1).symm;refine zAj (Le.giveBox 1 [.int .i64 e9A,.str e9C,.int .i64 e9D,.sl 4 (Nd.encs e9B)] rfl rfl) ?_;refine yAD ?_;obtain⟨y11,hy11,h⟩:=zAc h;refine⟨_,⟨_,_,_,hy11,rfl,rfl⟩,?_⟩
      refine zAm rfl h (fun hb h=>?_) (fun hb h=>?_)
      ·refine yAD ?_;refine zAh ?_;cases h;replace h:some _=some _:=ho1;have hy:=osi h;subst hy;exact fin0 rfl rfl
      ·refine zAf ?_;refine yAC ?_;refine⟨(k,IntKind.i64.wrap (x6+1)),h,(Le.rnq [] _ [] 0),Nat.lt_succ_self k⟩
     ·refine zAB ?_;cases h;exact⟨_,rfl,Le.fgt⟩
  ·subst hz;obtain _:=z;replace h:=ho1;refine zAj hle ?_;refine yAD ?_;refine zAh ?_;have hy:=osi h;subst hy;exact fin0 rfl rfl
theorem zHu:∀ n,PSound Tryz.prog 107 (zAu (zDV n))/\PSound Tryz.prog 106 (zAu (zA8 n)):=by
 intro n
 induction n with
 | zero =>
  refine⟨?_,?_⟩
  ·exact zDr Tryz.call107 (fun xs r h=>by obtain⟨_,_,_,h,_⟩:=h; rw[zCa]at h; cases h)
  ·exact zDr Tryz.call106 (fun xs r h=>by obtain⟨_,_,_,h,_⟩:=h; rw[zAX]at h; cases h)
 | succ n ih =>
  obtain⟨ih_node_Equal,ih_slices_EqualFunc_sNode⟩:=ih;exact⟨zNq n ih_node_Equal ih_slices_EqualFunc_sNode,zFO n ih_node_Equal ih_slices_EqualFunc_sNode⟩
def zK1:zAp:=zAu fun xs r=>∃ n,zDV n xs r
theorem zPP:PSound Tryz.prog 107 zK1:=zFk (fun n=>(zHu n).1)
def zDW:zAp:=zAu fun xs r=>∃ n,zA8 n xs r
theorem zGm:PSound Tryz.prog 106 zDW:=zFk (fun n=>(zHu n).2)
def zE2 (xs:List AV) (os:List Ob) (x:AV) (os':List (Option Ob)):Prop:=∃ (a0:List UInt8) (a1:List UInt8) (y0:Int) (y1:Unit) (z1:List UInt8),zAg a0 a1=some (y0,y1,z1)/\xs=[.op 0 39,.s (.str a0)]/\os=[.box 177 (zA1 (.op 0 39) (.orow 1)),.row 5 1 (List.map brow a1)]/\x = .tup [.s (.int .i64 y0),.junk]/\os'=[some (.box 177 (zA1 (.op 0 39) (.orow 2))),none,some (.row 5 1 (List.map brow z1))]
def zBT:zAp:=zB1 (fun xs os x os'=>zE2 xs os x os')
theorem zXI {α:Type}{a b:α} (h:a=b:=by simp[List.map_append,List.map_take,List.map_drop,irow,brow,zF2,List.map_cons,List.map_nil,zFw,Nd.encs_eq,Nd.enc,zBH,zA5]):a=b :=
 h
theorem zCS:PSound Tryz.prog 95 zBT:=by
 have gok:∀ f s,look? f [(128,zCf)]=some s->PSound Tryz.prog f s:=zAo (by
  simp only[List.forall_mem_cons]
  exact⟨zDi,by simp⟩)
 refine PSound.withNil (osq tokW Tryz.call95 Tryz.func95 rfl ?_) _;rintro xs os x os' w0 G0 B0 ⟨s1,b2,y0,y1,z1,h,rfl,rfl,rfl,rfl⟩ _;rw[zAg]at h;refine yAD ?_;refine yAD ?_;obtain⟨b3,hb3,h⟩:=zAc h;refine⟨_,_,⟨_,_,hb3,rfl,rfl,rfl,rfl⟩,?_⟩
 refine zZx [14] [] rfl ?_;obtain⟨hq,h⟩:=zAK h;refine And.intro (show(((List.map brow) b3).length+(List.map brow s1).length) * 1<=140737488355328/\((List.map brow) b3).length+(List.map brow s1).length<=9223372036854775807 from by simp only[List.length_append,List.length_cons,List.length_nil,List.length_map,rlen (fun _=>rfl)]at hq ⊢; omega) ?_;show Tri ..
 refine zAj (Le.rnq [(0,0),(3,2)] [(1,.s (.str s1))] [(0,.box 177 (zA1 (.op 0 39) (.orow 2))),(2,.row 5 1 ((List.map brow) (b3++s1)))] 3 (h2:=⟨rfl,⟨_,rfl,rfl⟩,rfl,⟨_,rfl,congrArg (Ob.row 5 1) zXI⟩,trivial⟩)) ?_;refine yAD ?_;refine zAh ?_;obtain⟨hj1,hk1⟩:=pij h;subst hj1;obtain⟨hj2,hk2⟩:=Prod.mk.inj hk1;subst hj2;subst hk2;unfold zCA
 exact⟨_,(Le.rnq [(0,0),(2,2)] [(4,.s (.int .i64 (s1.length:Int)))] [(0,.box 177 (zA1 (.op 0 39) (.orow 2))),(2,.row 5 1 ((List.map brow) (b3++s1)))] 3),rfl,rfl,rfl,rfl,rfl,rfl,trivial⟩
def zFm (xs:List AV) (os:List Ob) (x:AV) (os':List (Option Ob)):Prop:=∃ (a0:UInt8) (a1:List UInt8) (y0:Unit) (z1:List UInt8),zAt a0 a1=some (y0,z1)/\xs=[.op 0 39,.s (.int .u8 (a0.toNat:Int))]/\os=[.box 177 (zA1 (.op 0 39) (.orow 1)),.row 5 1 (List.map brow a1)]/\x = .junk/\os'=[some (.box 177 (zA1 (.op 0 39) (.orow 2))),none,some (.row 5 1 (List.map brow z1))]
def zBx:zAp:=zB1 (fun xs os x os'=>zFm xs os x os')
theorem zB7:PSound Tryz.prog 97 zBx:=by
 have gok:∀ f s,look? f [(128,zCf)]=some s->PSound Tryz.prog f s:=zAo (by
  simp only[List.forall_mem_cons]
  exact⟨zDi,by simp⟩)
 refine PSound.withNil (osq tokW Tryz.call97 Tryz.func97 rfl ?_) _;rintro xs os x os' w0 G0 B0 ⟨c1,b2,y0,z1,h,rfl,rfl,rfl,rfl⟩ _;rw[zAt]at h;refine yAD ?_;refine yAD ?_;obtain⟨b3,hb3,h⟩:=zAc h;refine⟨_,_,⟨_,_,hb3,rfl,rfl,rfl,rfl⟩,?_⟩
 refine zZx [14] [13] rfl ?_;intro r4 hr4;obtain rfl:(List.map brow) [c1]=r4:=(hr4.trans zXI).symm;obtain⟨hq,h⟩:=zAK h;refine And.intro (show(((List.map brow) b3).length+((List.map brow) [c1]).length) * 1<=140737488355328/\((List.map brow) b3).length+((List.map brow) [c1]).length<=9223372036854775807 from by simp only[List.length_append,List.length_cons,List.length_nil,List.length_map,rlen (fun _=>rfl)]at hq ⊢; omega) ?_;show Tri ..
 refine zAj (Le.rnq [(0,0),(3,2)] [] [(0,.box 177 (zA1 (.op 0 39) (.orow 2))),(2,.row 5 1 ((List.map brow) (b3++[c1])))] 3 (h2:=⟨rfl,⟨_,rfl,rfl⟩,rfl,⟨_,rfl,congrArg (Ob.row 5 1) zXI⟩,trivial⟩)) ?_;refine yAD ?_;refine zAh ?_;obtain⟨hj1,hk1⟩:=pij h;subst hj1 hk1;unfold zCA
 exact⟨_,(Le.rnq [(0,0),(2,2)] [] [(0,.box 177 (zA1 (.op 0 39) (.orow 2))),(2,.row 5 1 ((List.map brow) (b3++[c1])))] 3),rfl,rfl,rfl,rfl,rfl,rfl,trivial⟩
def zJc (n:Nat) (xs:List AV) (os:List Ob) (x:AV) (os':List (Option Ob)):Prop:=∃ (a0:Nd) (a1:List UInt8) (z1:List UInt8),zBm n a0 a1=some z1/\xs=[.op 0 0,.s (.pt (Nd.enc a0))]/\os=[.box 177 (zA1 (.op 0 39) (.orow 1)),.row 5 1 (List.map brow a1)]/\x = .tup []/\os'=[some (.box 177 (zA1 (.op 0 39) (.orow 2))),none,some (.row 5 1 (List.map brow z1))]
def zFZ:zAp:=zB1 (fun xs os x os'=>∃ n,zJc n xs os x os')
theorem zIX:PSound Tryz.prog 109 zFZ:=by
 have gok:∀ f s,look? f [(95,zBT),(133,zGg),(97,zBx)]=some s->PSound Tryz.prog f s:=zAo (by
  simp only[List.forall_mem_cons]
  exact⟨zCS,zHN,zB7,by simp⟩)
 refine PSound.withNil (osq tokW Tryz.call109 Tryz.func109 rfl ?_) _;rintro xs os x os' w0 G0 B0 ⟨n,⟨a1A,a1C,a1D,a1B⟩,b2,z1,h,rfl,rfl,rfl,rfl⟩ _;rw[zBm]at h;refine zAa ?_;refine zAa ?_;obtain⟨x3,hj,h⟩:=zAc h;refine zAn ⟨ofL [(0,.op 0 0),(1,.s (.pt [.int .i64 a1A,.str a1C,.int .i64 a1D,.sl 4 (Nd.encs a1B)])),(16,.s (.bool x3))],ofH [(0,.box 177 (zA1 (.op 0 39) (.orow 1))),(1,.row 5 1 ((List.map brow) b2))],2⟩ ?_ (fun σ' hle=>?_)
 ·replace h:=hj;refine zAb [] [10] rfl ?_;intro b hb;cases b with
  | true =>
   replace h:=zAw hb.symm h;cases h;exact(Le.rnq [(0,0),(1,1)] _ _ _)
  | false =>
   replace h:=zAv hb.symm h;cases h;exact(Le.rnq [(0,0),(1,1)] _ _ _)
 ·refine zAj hle ?_;obtain⟨l4,hj,h⟩:=zAc h;refine zAn ⟨ofL [(0,.op 0 0),(1,.s (.pt [.int .i64 a1A,.str a1C,.int .i64 a1D,.sl 4 (Nd.encs a1B)]))],ofH [(0,.box 177 (zA1 (.op 0 39) (.orow 2))),(2,.row 5 1 ((List.map brow) l4))],3⟩ ?_ (fun σ' hle=>?_)
  ·replace h:=hj;refine zAm rfl h (fun hb h=>?_) (fun hb h=>?_)
   ·refine zA0 [] [24] [12,13] rfl (by decide +kernel) ?_;intro vsp hvsp;cases hc:(a1A == 1) with
    | true =>
     replace h:=zAw hc h;obtain rfl:(1:Int)=vsp:=(hvsp.trans (eq_of_beq hc)).symm;refine And.intro (by decide) ?_;obtain⟨⟨y5,_,b7⟩,hy5,h⟩:=zAc h;refine⟨_,_,⟨_,_,_,_,_,hy5,rfl,rfl,rfl,rfl⟩,?_⟩
     cases h;exact(Le.rnq [(0,0),(2,2)] _ _ _)
    | false =>
     replace h:=zAv hc h;cases hc:(a1A == 2) with
     | true =>
      replace h:=zAw hc h;obtain rfl:(2:Int)=vsp:=(hvsp.trans (eq_of_beq hc)).symm;refine And.intro (by decide) ?_;obtain⟨⟨y8,_,b10⟩,hy8,h⟩:=zAc h;refine⟨_,_,⟨_,_,_,_,_,hy8,rfl,rfl,rfl,rfl⟩,?_⟩
      cases h;exact(Le.rnq [(0,0),(2,2)] _ _ _)
     | false =>
      replace h:=zAv hc h;cases hc:(a1A == 3) with
      | true =>
       replace h:=zAw hc h;obtain rfl:(3:Int)=vsp:=(hvsp.trans (eq_of_beq hc)).symm;refine And.intro (by decide) ?_;obtain⟨⟨y11,_,b13⟩,hy11,h⟩:=zAc h;refine⟨_,_,⟨_,_,_,_,_,hy11,rfl,rfl,rfl,rfl⟩,?_⟩
       cases h;exact(Le.rnq [(0,0),(2,2)] _ _ _)
      | false =>
       replace h:=zAv hc h;cases hc:(a1A == 4) with
       | true =>
        replace h:=zAw hc h;obtain rfl:(4:Int)=vsp:=(hvsp.trans (eq_of_beq hc)).symm;refine And.intro (by decide) ?_;obtain⟨⟨y14,_,b16⟩,hy14,h⟩:=zAc h;refine⟨_,_,⟨_,_,_,_,_,hy14,rfl,rfl,rfl,rfl⟩,?_⟩
        cases h;exact(Le.rnq [(0,0),(2,2)] _ _ _)
       | false =>
        replace h:=zAv hc h;cases hc:(a1A == 5) with
        | true =>
         replace h:=zAw hc h;obtain rfl:(5:Int)=vsp:=(hvsp.trans (eq_of_beq hc)).symm;refine And.intro (by decide) ?_;obtain⟨⟨y17,_,b19⟩,hy17,h⟩:=zAc h;refine⟨_,_,⟨_,_,_,_,_,hy17,rfl,rfl,rfl,rfl⟩,?_⟩
         cases h;exact(Le.rnq [(0,0),(2,2)] _ _ _)
        | false =>
         replace h:=zAv hc h;cases hc:(a1A == 6) with
         | true =>
          replace h:=zAw hc h;obtain rfl:(6:Int)=vsp:=(hvsp.trans (eq_of_beq hc)).symm;refine And.intro (by decide) ?_;obtain⟨⟨y20,_,b22⟩,hy20,h⟩:=zAc h;refine⟨_,_,⟨_,_,_,_,_,hy20,rfl,rfl,rfl,rfl⟩,?_⟩
          cases h;exact(Le.rnq [(0,0),(2,2)] _ _ _)
         | false =>
          replace h:=zAv hc h;cases hc:(a1A == 7) with
          | true =>
           replace h:=zAw hc h;obtain rfl:(7:Int)=vsp:=(hvsp.trans (eq_of_beq hc)).symm;refine And.intro (by decide) ?_;obtain⟨⟨y23,_,b25⟩,hy23,h⟩:=zAc h;refine⟨_,_,⟨_,_,_,_,_,hy23,rfl,rfl,rfl,rfl⟩,?_⟩
           cases h;exact(Le.rnq [(0,0),(2,2)] _ _ _)
          | false =>
           replace h:=zAv hc h;cases hc:(a1A == 8) with
           | true =>
            replace h:=zAw hc h;obtain rfl:(8:Int)=vsp:=(hvsp.trans (eq_of_beq hc)).symm;refine And.intro (by decide) ?_;obtain⟨⟨y26,_,b28⟩,hy26,h⟩:=zAc h;refine⟨_,_,⟨_,_,_,_,_,hy26,rfl,rfl,rfl,rfl⟩,?_⟩
            cases h;exact(Le.rnq [(0,0),(2,2)] _ _ _)
           | false =>
            replace h:=zAv hc h;cases hc:(a1A == 9) with
            | true =>
             replace h:=zAw hc h;obtain rfl:(9:Int)=vsp:=(hvsp.trans (eq_of_beq hc)).symm;refine And.intro (by decide) ?_;obtain⟨⟨y29,_,b31⟩,hy29,h⟩:=zAc h;refine⟨_,_,⟨_,_,_,_,_,hy29,rfl,rfl,rfl,rfl⟩,?_⟩
             cases h;exact(Le.rnq [(0,0),(2,2)] _ _ _)
            | false =>
             replace h:=zAv hc h;cases hc:(a1A == 10) with
             | true =>
              replace h:=zAw hc h;obtain rfl:(10:Int)=vsp:=(hvsp.trans (eq_of_beq hc)).symm;refine And.intro (by decide) ?_;obtain⟨⟨y32,_,b34⟩,hy32,h⟩:=zAc h;refine⟨_,_,⟨_,_,_,_,_,hy32,rfl,rfl,rfl,rfl⟩,?_⟩
              cases h;exact(Le.rnq [(0,0),(2,2)] _ _ _)
             | false =>
              replace h:=zAv hc h;cases hc:(a1A == 11) with
              | true =>
               replace h:=zAw hc h;obtain rfl:(11:Int)=vsp:=(hvsp.trans (eq_of_beq hc)).symm;refine And.intro (by decide) ?_;obtain⟨⟨y35,_,b37⟩,hy35,h⟩:=zAc h;refine⟨_,_,⟨_,_,_,_,_,hy35,rfl,rfl,rfl,rfl⟩,?_⟩
               cases h;exact(Le.rnq [(0,0),(2,2)] _ _ _)
              | false =>
               replace h:=zAv hc h;cases hc:(a1A == 12) with
               | true =>
                replace h:=zAw hc h;obtain rfl:(12:Int)=vsp:=(hvsp.trans (eq_of_beq hc)).symm;refine And.intro (by decide) ?_;obtain⟨⟨y38,_,b40⟩,hy38,h⟩:=zAc h;refine⟨_,_,⟨_,_,_,_,_,hy38,rfl,rfl,rfl,rfl⟩,?_⟩
                cases h;exact(Le.rnq [(0,0),(2,2)] _ _ _)
               | false =>
                replace h:=zAv hc h;cases h
   ·refine zA0 [] [] [9] rfl (by decide +kernel) ?_;obtain⟨y41,hy41,h⟩:=zAc h;refine⟨_,⟨_,_,hy41,rfl,rfl⟩,?_⟩
    obtain⟨hq,h⟩:=zAK h;refine And.intro (Nat.le_trans hq (by decide)) ?_;obtain⟨⟨y42,_,b44⟩,hy42,h⟩:=zAc h;refine⟨_,_,⟨_,_,_,_,_,hy42,rfl,rfl,rfl,rfl⟩,?_⟩
    cases h;exact(Le.rnq [(0,0),(2,2)] _ _ _)
  ·refine zAj hle ?_;refine zAa ?_;refine yAD ?_;show Tri ..;obtain⟨l45,hj,h⟩:=zAc h;refine zAn ⟨ofL [(0,.op 0 0),(1,.s (.pt [.int .i64 a1A,.str a1C,.int .i64 a1D,.sl 4 (Nd.encs a1B)]))],ofH [(0,.box 177 (zA1 (.op 0 39) (.orow 2))),(2,.row 5 1 ((List.map brow) l45))],3⟩ ?_ (fun σ' hle=>?_)
   ·replace h:=hj;refine zAm rfl h (fun hb h=>?_) (fun hb h=>?_)
    ·refine yAD ?_;obtain⟨⟨y46,_,b48⟩,hy46,h⟩:=zAc h;refine⟨_,_,⟨_,_,_,_,_,hy46,rfl,rfl,rfl,rfl⟩,?_⟩
     refine zAa ?_;refine yAD ?_;show Tri ..;obtain⟨l51,hl,h⟩:=zAc h;refine zAn ⟨ofL [(0,.op 0 0),(1,.s (.pt [.int .i64 a1A,.str a1C,.int .i64 a1D,.sl 4 (Nd.encs a1B)]))],ofH [(0,.box 177 (zA1 (.op 0 39) (.orow 2))),(2,.row 5 1 ((List.map brow) l51))],3⟩ ?_ (fun σ' hle=>?_)
     ·refine zAi (zAy (X:=Nat×Int×(List UInt8)) (fun y=>match y with | (k,x49,l50)=>⟨ofL [(0,.op 0 0),(1,.s (.pt [.int .i64 a1A,.str a1C,.int .i64 a1D,.sl 4 (Nd.encs a1B)])),(4,.s (.int .i64 x49))],ofH [(0,.box 177 (zA1 (.op 0 39) (.orow 2))),(2,.row 5 1 ((List.map brow) l50))],3⟩) (fun y=>zAI a1C y.1 y.2.1 y.2.2=some l51) (fun y=>y.1) (n,0,b48) hl ?_ ?_)
      ·exact(Le.rnq [(0,0),(3,2)] _ _ _)
      ·rintro⟨k,x49,l50⟩ h;cases k with
       | zero=>cases h
       | succ k =>
        replace h:zAI a1C (k+1) x49 l50=some l51:=h;rw[zAI]at h;refine zAa ?_;refine yAD ?_;refine zAm rfl h (fun hb h=>?_) (fun hb h=>?_)
        ·refine zAf ?_;refine zAa ?_;obtain⟨l52,hj,h⟩:=zAc h;refine zAn ⟨ofL [(0,.op 0 0),(1,.s (.pt [.int .i64 a1A,.str a1C,.int .i64 a1D,.sl 4 (Nd.encs a1B)])),(4,.s (.int .i64 x49))],ofH [(0,.box 177 (zA1 (.op 0 39) (.orow 2))),(2,.row 5 1 ((List.map brow) l52))],3⟩ ?_ (fun σ' hle=>?_)
         ·replace h:=hj;refine zAi ?_;refine zAa ?_;refine zAa ?_;obtain⟨x53,hj,h⟩:=zAc h;refine zAn ⟨ofL [(0,.op 0 0),(1,.s (.pt [.int .i64 a1A,.str a1C,.int .i64 a1D,.sl 4 (Nd.encs a1B)])),(4,.s (.int .i64 x49)),(74,.s (.bool x53))],ofH [(0,.box 177 (zA1 (.op 0 39) (.orow 2))),(2,.row 5 1 ((List.map brow) l50))],3⟩ ?_ (fun σ' hle=>?_)
          ·replace h:=hj;refine zAb [] [64,66,72] rfl ?_;obtain⟨c54,hc54,h⟩:=zAc h;refine And.intro (zCD hc54).1 ?_;intro v55 hv55;obtain rfl:(c54.toNat:Int)=v55:=(hv55.trans (zCD hc54).2).symm;intro b hb;cases b with
           | true =>
            replace h:=zAw hb.symm h;cases h;exact(Le.rnq [(0,0),(2,2)] _ _ _)
           | false =>
            replace h:=zAv hb.symm h;obtain⟨c56,hc56,h⟩:=zAc h;refine And.intro (zCD hc56).1 ?_;intro v57 hv57;obtain rfl:(c56.toNat:Int)=v57:=(hv57.trans (zCD hc56).2).symm;cases h;exact(Le.rnq [(0,0),(2,2)] _ _ _)
          ·refine zAj hle ?_;obtain⟨l58,hj,h⟩:=zAc h;refine zAn ⟨ofL [(0,.op 0 0),(1,.s (.pt [.int .i64 a1A,.str a1C,.int .i64 a1D,.sl 4 (Nd.encs a1B)])),(4,.s (.int .i64 x49))],ofH [(0,.box 177 (zA1 (.op 0 39) (.orow 2))),(2,.row 5 1 ((List.map brow) l58))],3⟩ ?_ (fun σ' hle=>?_)
           ·replace h:=hj;refine zAm rfl h (fun hb h=>?_) (fun hb h=>?_)
            ·refine yAC ?_;obtain⟨⟨_,b60⟩,hy59,h⟩:=zAc h;refine⟨_,_,⟨_,_,_,_,hy59,rfl,rfl,rfl,rfl⟩,?_⟩
             cases h;exact(Le.rnq [(0,0),(3,2)] _ _ _)
            ·refine zAf ?_;cases h;exact(Le.rnq [(0,0),(2,2)] _ _ _)
           ·refine zAj hle ?_;refine zA0 [] [87] [9] rfl (by decide +kernel) ?_;obtain⟨c61,hc61,h⟩:=zAc h;refine And.intro (zCD hc61).1 ?_;intro v62 hv62;obtain rfl:(c61.toNat:Int)=v62:=(hv62.trans (zCD hc61).2).symm;obtain⟨⟨_,b64⟩,hy63,h⟩:=zAc h;refine⟨_,_,⟨_,_,_,_,hy63,rfl,rfl,rfl,rfl⟩,?_⟩
            cases h;exact(Le.rnq [(0,0),(3,2)] _ _ _)
         ·refine zAj hle ?_;refine yAC ?_;refine⟨(k,IntKind.i64.wrap (x49+1),l52),h,(Le.rnq [(0,0),(2,2)] _ _ _),Nat.lt_succ_self k⟩
        ·refine zAB ?_;cases h;exact(Le.rnq [(0,0),(2,2)] _ _ _)
     ·refine zAj hle ?_;refine yAC ?_;obtain⟨⟨_,b66⟩,hy65,h⟩:=zAc h;refine⟨_,_,⟨_,_,_,_,hy65,rfl,rfl,rfl,rfl⟩,?_⟩
      cases h;exact(Le.rnq [(0,0),(3,2)] _ _ _)
    ·refine zAf ?_;cases h;exact(Le.rnq [(0,0),(2,2)] _ _ _)
   ·refine zAj hle ?_;refine yAD ?_;refine zAm rfl h (fun hb h=>?_) (fun hb h=>?_)
    ·refine zA0 [] [] [9] rfl (by decide +kernel) ?_;obtain⟨y67,hy67,h⟩:=zAc h;refine⟨_,⟨_,_,hy67,rfl,rfl⟩,?_⟩
     obtain⟨hq,h⟩:=zAK h;refine And.intro (Nat.le_trans hq (by decide)) ?_;obtain⟨⟨y68,_,b70⟩,hy68,h⟩:=zAc h;refine⟨_,_,⟨_,_,_,_,_,hy68,rfl,rfl,rfl,rfl⟩,?_⟩
     have hy:=osi h;subst hy;unfold zCA;exact⟨_,(Le.rnq [(0,0),(3,2)] [] [(0,.box 177 (zA1 (.op 0 39) (.orow 2))),(2,.row 5 1 ((List.map brow) b70))] 3),rfl,rfl,rfl,rfl,rfl,rfl,trivial⟩
    ·refine zAf ?_;have hy:=osi h;subst hy;unfold zCA;exact⟨_,(Le.rnq [(0,0),(2,2)] [] [(0,.box 177 (zA1 (.op 0 39) (.orow 2))),(2,.row 5 1 ((List.map brow) l45))] 3),rfl,rfl,rfl,rfl,rfl,rfl,trivial⟩
def zEw (xs:List AV) (os:List Ob) (x:AV) (os':List (Option Ob)):Prop:=∃ (a0:List UInt8) (a1:List UInt8) (y0:Int) (y1:Unit) (z1:List UInt8),zAg a0 a1=some (y0,y1,z1)/\xs=[.op 0 39,.s (.str a0)]/\os=[.box 177 (zA1 (.s (.np)) (.orow 1)),.row 5 1 (List.map brow a1)]/\x = .tup [.s (.int .i64 y0),.junk]/\os'=[some (.box 177 (zA1 (.op 0 39) (.orow 2))),none,some (.row 5 1 (List.map brow z1))]
def zCB:zAp:=zB1 (fun xs os x os'=>zEw xs os x os')
theorem zEt:PSound Tryz.prog 95 zCB:=by
 have gok:∀ f s,look? f [(128,zCQ)]=some s->PSound Tryz.prog f s:=zAo (by
  simp only[List.forall_mem_cons]
  exact⟨zEI,by simp⟩)
 refine PSound.withNil (osq tokW Tryz.call95 Tryz.func95 rfl ?_) _;rintro xs os x os' w0 G0 B0 ⟨s1,b2,y0,y1,z1,h,rfl,rfl,rfl,rfl⟩ _;rw[zAg]at h;refine yAD ?_;refine yAD ?_;obtain⟨b3,hb3,h⟩:=zAc h;refine⟨_,_,⟨_,_,hb3,rfl,rfl,rfl,rfl⟩,?_⟩
 refine zZx [14] [] rfl ?_;obtain⟨hq,h⟩:=zAK h;refine And.intro (show(((List.map brow) b3).length+(List.map brow s1).length) * 1<=140737488355328/\((List.map brow) b3).length+(List.map brow s1).length<=9223372036854775807 from by simp only[List.length_append,List.length_cons,List.length_nil,List.length_map,rlen (fun _=>rfl)]at hq ⊢; omega) ?_;show Tri ..
 refine zAj (Le.rnq [(0,0),(3,2)] [(1,.s (.str s1))] [(0,.box 177 (zA1 (.op 0 39) (.orow 2))),(2,.row 5 1 ((List.map brow) (b3++s1)))] 3 (h2:=⟨rfl,⟨_,rfl,rfl⟩,rfl,⟨_,rfl,congrArg (Ob.row 5 1) zXI⟩,trivial⟩)) ?_;refine yAD ?_;refine zAh ?_;obtain⟨hj1,hk1⟩:=pij h;subst hj1;obtain⟨hj2,hk2⟩:=Prod.mk.inj hk1;subst hj2;subst hk2;unfold zCA
 exact⟨_,(Le.rnq [(0,0),(2,2)] [(4,.s (.int .i64 (s1.length:Int)))] [(0,.box 177 (zA1 (.op 0 39) (.orow 2))),(2,.row 5 1 ((List.map brow) (b3++s1)))] 3),rfl,rfl,rfl,rfl,rfl,rfl,trivial⟩
end Go.Proofs.YtbfnjnljboncgaaGreatDoor
