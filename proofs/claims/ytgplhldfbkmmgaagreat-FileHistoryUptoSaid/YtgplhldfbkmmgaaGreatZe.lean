/-
  Joined out of: RfB, LibV, LibK, RwA, LibL, FzCA, FzHA, FzHB.
-/
import Derived.Test.YtgplhldfbkmmgaaGreatZd
set_option linter.unusedVariables false
set_option linter.unusedSimpArgs false
set_option maxHeartbeats 2000000
set_option maxRecDepth 100000
namespace Go.Abs
def TriX (c:Cx) (code:Code) (σ:St) (Φ:Exit->Act->World->Prop):Prop:=∀ G β a w,Conc c G β σ a w->code.wpIn (rF none) 2 c.P Φ a w
section
variable {c:Cx} {σ:St} {Φ:Exit->Act->World->Prop}
theorem zWO {x y:Code} (h:TriX c x σ (Exit.then (y.wpIn (rF none) 2 c.P Φ) Φ)):TriX c (.seq x y) σ Φ:=fun G β a w hc=>wpIn_seq (h G β a w hc)
theorem zUB {x:Code}{id:Nat} (h:TriX c x σ (Exit.inBlock id Φ)):TriX c (.block id x) σ Φ:=fun G β a w hc=>wpIn_block (h G β a w hc)
theorem zQp {x y:Code} (hro:c.ro=none) (h:Tri c x σ (fun e σ'=>e = .normal/\TriX c y σ' Φ)):TriX c (.seq x y) σ Φ:=fun G β a w hc=>by
 unfold Tri at h;rw[hro]at h;refine wpIn_seq (wpIn_mono (h G β a w hc) ?_)
 rintro e a' w' ⟨e',G',β',σ',rfl,⟨rfl,hq⟩,hc'⟩
 exact hq G' β' a' w' hc'
theorem zUC (hro:c.ro=none) (hds:c.ds=[]){tg p1 p2 fid sz:Nat}{rows:List (List S)}{assign body:Code}
  (hit:zPg c.P fid sz) (hcall:∀ args w,(callFunc fid args).run c.P w = .ok (.enter fid args) w) (he:σ.env tg = .clo fid [.s (.pt [.sl sz rows])]) (hrl:∀ r∈rows,r.length=sz) (hlen:rows.length<=4611686018427387904)
  (E:Nat->(Nat->Option Ob)×Nat) (hE:E 0=(σ.hp,σ.nx)) (m:Nat) (hm:∀ t,(σ.env t).lt m=true) (hm0:c.n0<=m) (hmE:∀ i,m<=(E i).2) (hp1:p1<c.N) (hp2:p2<c.N)
  (hround:∀ i j row,i+j+1=rows.length->rows[j]? = some row->∀ l w X G B,Rl w X l->Tri (rcx c.P c.N m l w X G B) assign (zS6 σ p1 p2 j row (E i)) (fun e σ1=>e = .normal/\∀ w X G B,Rl w X l ->
   Tri (rcx c.P c.N m l w X G B) body σ1 (fun e σ2=>e = .normal/\∃ σ3,Le (rcx c.P c.N m l w X G B) σ2 σ3/\σ3.hp=(E (i+1)).1/\σ3.nx=(E (i+1)).2)))
  (hdone:∀ D w2 X G2 G' β' a2,Sw c (lcx c.P c.N c.n0 w2 X G2 c.B0 D) D->Conc (lcx c.P c.N c.n0 w2 X G2 c.B0 D) G' β' ⟨σ.env,(E rows.length).1,(E rows.length).2⟩ a2 w2->Φ .normal a2 w2) (hfid:Nat.ble 1048576 fid=false:=by rfl) :
  TriX c (.rangeFunc (.tmp tg) #[p1,p2] assign body) σ Φ:=fun G β a w hc=>zWS hc hro hds hit hcall he hrl hlen E hE m hm hm0 hmE hp1 hp2 hround hfid hdone
end
theorem zVa {c c2:Cx}{D:Nat}{T:Nat->Option TI} (hT:TOk c2.P T){fn:Func}{r:Ret}{code:Code}{σ:St} (hsw:Sw c c2 D) (hX:∀ b,¬ c.X b) (hro:c2.ro=none) (hds:c2.ds=[{ target:=.collected D,args:=#[] }])
  (h:Tri c2 code σ (fun e σ'=>match e with | .exit _=>False | _=>zAw c2 T fn.results.toList r σ')) :
  TriX c2 code σ (bodyPostM (rF none) 2 c2.P fn fun e W'=>∃ v G',e = .returned v/\Ext c.G0 G' c.w0 W'/\RetAt G' c.w0 W' r v):=fun G β a w hc=>by
 unfold Tri at h;rw[hro]at h;refine wpIn_mono (h G β a w hc) ?_;rintro e a' w' ⟨e',G',β',σ',rfl,hq,hc'⟩
 have fin:zAw c2 T fn.results.toList r σ'->LeavesInM (rF none) 2 c2.P fn a'.tmps (fun e W'=>∃ v G',e = .returned v/\Ext c.G0 G' c.w0 W'/\RetAt G' c.w0 W' r v) a'.defers .returning w':=fun hq=>by
  unfold zAw at hq;obtain⟨σ2,hle,hr⟩:=hq;unfold Le at hle;obtain⟨G2,β2,hc2⟩:=hle G' β' a' w' hc';have hDl:D<c2.w0.heap.size:=(Array.getElem?_eq_some_iff.1 hsw.blk).1;have hD:w'.heap[D]? = some (.deferred (some [])):=(hc2.fr.old D hDl hsw.nX).trans hsw.blk;have hnG:¬ G2 D:=fun h=>(hc2.new D h).elim hsw.nG (fun h=>h.elim hsw.nX (fun h=>by omega))
  have hnO:¬ ownB β2 σ2.hp D:=hc2.not_own hD rfl;rw[hc'.defers,hds]
  refine⟨by simp,.inl ⟨_,_,rfl,run_takeDeferred hD,?_⟩⟩
  generalize hW:w'.putObj D (.deferred none)=W;have oth:∀ b,b ≠ D->W.heap[b]? = w'.heap[b]?:=fun b hb=>by rw[← hW]; exact World.putObj_heap_other hb
  have sz:W.heap.size=w'.heap.size :=(by rw[← hW]; exact World.putObj_size);have hge:=hsw.ge;have hmine:∀ b,c2.mine b->c.w0.heap.size<=b:=fun b hb=>by
   rcases hb with hb | hb
   ·exact(hsw.mine b hb).elim (fun h=>absurd h (hX b)) id
   ·exact Nat.le_trans hsw.fr.size hb
  have hc3:Conc { P:=c2.P,w0:=W,X:=fun b=>c.w0.heap.size<=b,G0:=G2,N:=c2.N } G2 β2 ⟨σ2.env,σ2.hp,σ2.nx⟩ { a' with defers:=[] } W :=
   hc2.re (c2:={ P:=c2.P,w0:=W,X:=fun b=>c.w0.heap.size<=b,G0:=G2,N:=c2.N }) (fun b hb=>oth b fun h=>hnG (h ▸ hb)) (fun b hb=>oth b fun h=>hnO (h ▸ hb)) (by rw[sz]; exact Nat.le_refl _) rfl hc2.size hc2.env hc2.envlt
    (fun b ⟨k,ob,q1,q2⟩=>.inl (hmine b (row_block (hc2.hp k ob q1) b q2).2)) (fun b h=>h) (fun b h=>.inl h) (Fr.refl _ _) ⟨Nat.zero_le _,fun k hk=>by cases hk⟩
  have hext:Ext c.G0 G2 c.w0 W:=by
   refine⟨?_,?_,?_,?_,fun b hb=>?_,fun b hb=>hc2.sub b (hsw.sub b hb),fun b hb=>?_,fun b hb=>by rw[sz]; exact hc2.lt b hb⟩
   ·rw[← hW]; show w'.os=_; rw[hc2.fr.os]; exact hsw.fr.os
   ·rw[← hW]; show w'.tape=_; rw[hc2.fr.tape]; exact hsw.fr.tape
   ·rw[← hW]; show w'.output=_; rw[hc2.fr.output]; exact hsw.fr.output
   ·have h1:=hc2.fr.size; have h2:=hsw.fr.size; omega
   ·have h2:=hsw.fr.size;exact(oth b (by omega)).trans ((hc2.fr.old b (by omega) (fun h=>(hsw.mine b h).elim (hX b) (fun h=>by omega))).trans (hsw.fr.old b hb (hX b)))
   ·rcases hc2.new b hb with h | h
    ·exact(hsw.new b h).imp id (fun h=>h.elim (fun h=>absurd h (hX b)) id)
    ·exact .inr (hmine b h)
  unfold RetAt;split at hr
  ·rename_i x
   obtain⟨v,h1,h2⟩:=zHl (c:={ P:=c2.P,w0:=W,X:=fun b=>c.w0.heap.size<=b,G0:=G2,N:=c2.N }) hT hc3 hr.1;exact⟨v,h1,v,G2,rfl,hext,hr.2,AVal.pers hr.2 h2⟩
  ·rename_i e sz' rows
   obtain⟨k,hk1,hk2⟩:=hr;obtain⟨v,h1,h2⟩:=zHl (c:={ P:=c2.P,w0:=W,X:=fun b=>c.w0.heap.size<=b,G0:=G2,N:=c2.N }) hT hc3 hk1;refine⟨v,h1,v,G2,rfl,hext,?_⟩
   simp only[AVal]at h2;obtain⟨rfl,_⟩:=h2;obtain⟨q1,q2,q3⟩:=hc3.hp k _ hk2;refine⟨q1,q2,q3.imp id ?_⟩
   rintro⟨b,cap,cur,g1,g2,g3,g4,g5,g6,g7⟩
   refine⟨b,cap,cur,g1,g2,g3,g4,g5,g6.elim id (fun h=>?_),g7⟩
   have h:W.heap.size<=b:=h;have:=g4.lt
   omega
 cases e' with
 | normal=>exact fin hq
 | ret=>exact fin hq
 | exit id=>exact hq.elim
theorem zXw {P:Program}{f:Nat}{fn:Func}{code:Code}{s:zAz} (hcall:∀ args w,(callFunc f args).run P w = .ok (.enter f args) w)
  (hf:P.funcs[f]? = some fn) (hb:fn.body=some code) (hn:∀ xs r,s.spec xs r->xs.length<=fn.ntmps)
  (N:Nat) (hN:fn.ntmps=N)
  (h:∀ xs r w0 G0,s.spec xs r->AV.persAll xs=true->TriX (zFo P w0 G0 N) code (start xs) (bodyPostM (rF none) 2 P fn fun e W'=>∃ v G',e = .returned v/\Ext G0 G' w0 W'/\RetAt G' w0 W' r v)) (hown:s.own=none:=by rfl) (hheap:s.heap=none:=by rfl):PSound P f s:=by
 subst hN;refine⟨hcall,fun G w xs vs r hlt hgl hp hv hpre=>?_,fun R hR=>(by rw[hown]at hR; cases hR),fun R hR=>(by rw[hheap]at hR; cases hR)⟩
 have hlen:=hv.length;have hxn:=hn xs r hpre;have hc:Conc (zFo P w G fn.ntmps) G (fun _=>.tuple #[]) (start xs) { tmps:=vs.toArray++Array.replicate (fn.ntmps - vs.toArray.size) undef,defers:=[] } w:={
  defers:=rfl
  size:=by simp only[Array.size_append,List.size_toArray,Array.size_replicate]; show _=fn.ntmps; omega
  env:=fun t=>by
   simp only[start]
   by_cases ht:t<xs.length
   ·obtain⟨v,h1,h2⟩:=hv.get (i:=t) (x:=xs[t]) (List.getElem?_eq_getElem ht)
    have e1:xs.getD t .junk=xs[t] :=(by simp[List.getElem?_eq_getElem ht]);have e2:(vs.toArray++Array.replicate (fn.ntmps - vs.toArray.size) undef).getD t undef=v:=by
     rw[Array.getD_eq_getD_getElem?,Array.getElem?_append_left (by simpa [hlen] using ht)]
     simp[h1]
    rw[e1,e2]; exact h2
   ·have:xs.getD t .junk = .junk :=(by simp[List.getElem?_eq_none (by omega:xs.length<=t)]);rw[this]; simp only[AVal]
  envlt:=fun t=>by
   simp only[start]
   by_cases ht:t<xs.length
   ·have e1:xs.getD t .junk=xs[t] :=(by simp[List.getElem?_eq_getElem ht]);rw[e1]; exact zBq (AV.persAll_lt hp) (List.getElem?_eq_getElem ht)
   ·have:xs.getD t .junk = .junk :=(by simp[List.getElem?_eq_none (by omega:xs.length<=t)]);rw[this]; rfl
  hp:=fun k ob hk=>by simp[start]at hk
  hplt:=fun k ob hk=>by simp[start]at hk
  inj:=fun k k' ob ob' hk=>by simp[start]at hk
  lt:=hlt
  sub:=fun b hb=>hb
  new:=fun b hb=>.inl hb
  fr:=Fr.refl _ _
  stay:=⟨Nat.le_refl _,fun k hk=>by cases hk⟩
  glob:=hgl }
 exact callsIn_wide.1 (callsIn_of_wp_marks hf hb trivial (h xs r w G hpre hp G _ _ w hc))
theorem zNk {a:Act}{d:Option Nat}{v:Value}{t:Nat} (h:d ≠ some t):(a.put d v).tmps.getD t undef=a.tmps.getD t undef:=by
 cases d with
 | none=>rfl
 | some d =>
  have hdt:d ≠ t:=fun e=>h (by rw[e])
  simp only[Act.put,Array.getD_eq_getD_getElem?]
  rw[Array.getElem?_setIfInBounds_ne hdt]
theorem zX8 {P:Program}{W:World}{G:Nat->Prop}{β:Nat->Value}{N:Nat}{a:Act}{env:Nat->AV} (hd:a.defers=[]) (hs:a.tmps.size=N) (hl:∀ b,G b->b<W.heap.size) (hg:GlobOk G W) (he:∀ t,AVal G W β (env t) (a.tmps.getD t undef)) (hlt:∀ t,(env t).lt 0=true) :
  Conc (zFo P W G N) G β ⟨env,fun _=>none,0⟩ a W:={
 defers:=hd
 size:=hs
 env:=he
 envlt:=hlt
 hp:=fun k ob hk=>by cases hk
 hplt:=fun k ob hk=>by cases hk
 inj:=fun k k' ob ob' hk=>by cases hk
 lt:=hl
 sub:=fun b hb=>hb
 new:=fun b hb=>.inl hb
 fr:=Fr.refl _ _
 stay:=⟨Nat.le_refl _,fun k hk=>by cases hk⟩
 glob:=hg }
def evP (T:Nat->Option TI) (N:Nat) (ts:List Nat):List Oper->St->(St->Prop)->Prop
 | [],σ,K=>K σ
 | o::os,σ,K =>
  match o.dst,o.guard,zPO o&&zPP o with
  | some d,none,true=>match Nat.blt d N&&zRB d ts with
   | true=>match zCJ T false o σ.env with
    | some (φ,x)=>andO φ (evP T N ts os (σ.put (some d) x) K)
    | none=>False
   | false=>False
  | _,_,_=>False
theorem zMM {P:Program}{W0:World}{G0:Nat->Prop}{T:Nat->Option TI} (hT:TOk P T){N n:Nat}{ops rest:List Oper}{K:St->Prop}{Q:Exit->Act->World->Prop}{ts:List Nat}{v0:Nat->Value}
  (hr:∀ σ G β a w,K σ->Conc (zFo P W0 G0 N) G β σ a w->w.heap.size=W0.heap.size->(∀ t∈ts,a.tmps.getD t undef=v0 t)->wpListIn Fence.wide n P ops.toArray Q rest a w) :
  ∀ (l:List Oper) (σ:St) (G:Nat->Prop) (β:Nat->Value) (a:Act) (w:World),evP T N ts l σ K->Conc (zFo P W0 G0 N) G β σ a w->w.heap.size=W0.heap.size->(∀ t∈ts,a.tmps.getD t undef=v0 t)->wpListIn Fence.wide n P ops.toArray Q (l++rest) a w
 | [],σ,G,β,a,w,h,hc,hs,ht=>hr σ G β a w h hc hs ht
 | o::os,σ,G,β,a,w,h,hc,hs,ht=>by
  unfold evP at h;split at h
  ·rename_i d hd hg hnn
   simp only[Bool.and_eq_true]at hnn;split at h
   ·rename_i hdN
    simp only[Bool.and_eq_true]at hdN;have hdN1:d<N:=Nat.le_of_ble_eq_true hdN.1;have hdts:=zGf hdN.2;split at h
    ·rename_i φ x hp
     obtain⟨hφ,h⟩:=zL3 h;rw[List.cons_append]
     unfold wpListIn;rw[if_pos (by simp[Region.wanted,hg])]
     refine zWk (ro:=none) (K:=fun a' w'=>wpListIn Fence.wide n P ops.toArray Q (os++rest) a' w') (fun c e=>?_) (fun _ _ h=>h) ?_
     ·have:=hnn.2;unfold zPP at this;rw[e]at this;cases this
     ·refine zVs (c:=zFo P W0 G0 N) hT hc hp hφ fun G' w' v he hna hv=>?_
      have hww:=hna hnn.1;subst hww;rw[hd]
      have hput:=(hc.ext he).put (d:=some d) (fun t e=>by cases e; exact hdN1) hv (zTJ hc.envlt hp)
      refine zMM hT hr os _ G' β _ _ h hput hs fun t htt=>?_
      rw[zNk (fun e=>hdts (by cases e; exact htt))]
      exact ht t htt
    ·exact h.elim
   ·exact h.elim
  ·exact h.elim
theorem zTo {P:Program}{W0:World}{G0:Nat->Prop}{T:Nat->Option TI} (hT:TOk P T){N n:Nat}{ops l:List Oper} (m:Nat){K:St->Prop}{Q:Exit->Act->World->Prop} (ts:List Nat){σ:St}{G:Nat->Prop}{β:Nat->Value}{a:Act}{w:World}
  (h:evP T N ts (l.take m) σ K) (hc:Conc (zFo P W0 G0 N) G β σ a w) (hs:w.heap.size=W0.heap.size)
  (hr:∀ σ G β a' w,K σ->Conc (zFo P W0 G0 N) G β σ a' w->w.heap.size=W0.heap.size->(∀ t∈ts,a'.tmps.getD t undef=a.tmps.getD t undef)->wpListIn Fence.wide n P ops.toArray Q (l.drop m) a' w):wpListIn Fence.wide n P ops.toArray Q l a w:=by
 have:=zMM (v0:=fun t=>a.tmps.getD t undef) hT hr (l.take m) σ G β a w h hc hs (fun _ _=>rfl)
 rwa [List.take_append_drop]at this
theorem zPG {P:Program}{W0:World}{G0:Nat->Prop}{T:Nat->Option TI} (hT:TOk P T){N n:Nat}{ops l:List Oper}{K:St->Prop}{Q:Exit->Act->World->Prop} (ts:List Nat){σ:St}{G:Nat->Prop}{β:Nat->Value}{a:Act}{w:World}
  (h:evP T N ts l σ K) (hc:Conc (zFo P W0 G0 N) G β σ a w) (hs:w.heap.size=W0.heap.size)
  (hr:∀ σ G β a' w,K σ->Conc (zFo P W0 G0 N) G β σ a' w->w.heap.size=W0.heap.size->(∀ t∈ts,a'.tmps.getD t undef=a.tmps.getD t undef)->Q .normal a' w):wpListIn Fence.wide n P ops.toArray Q l a w:=by
 have:=zMM (rest:=[]) (v0:=fun t=>a.tmps.getD t undef) (ops:=ops) (n:=n) (Q:=Q) hT hr l σ G β a w h hc hs (fun _ _=>rfl)
 rwa [List.append_nil]at this
theorem zVn {G:Nat->Prop}{w:World}{β:Nat->Value}{a:Act}:∀ {L:List (Nat×AV)},(∀ p∈L,AVal G w β p.2 (a.tmps.getD p.1 undef))->∀ t,AVal G w β (ofL L t) (a.tmps.getD t undef)
 | [],_,t=>by simp only[ofL,AVal]
 | (s,x)::r,h,t=>by
  simp only[ofL]
  cases e:Nat.beq t s with
  | true=>obtain rfl:=Nat.eq_of_beq_eq_true e; exact h _ List.mem_cons_self
  | false=>exact zVn (fun p hp=>h p (List.mem_cons_of_mem _ hp)) t
theorem zT8 {P:Program}{W:World}{G:Nat->Prop}{N:Nat}{a:Act} (L:List (Nat×AV)) (hd:a.defers=[]) (hs:a.tmps.size=N) (hl:∀ b,G b->b<W.heap.size) (hg:GlobOk G W) (hL:ltL 0 L=true) (he:∀ p∈L,AVal G W (fun _=>.tuple #[]) p.2 (a.tmps.getD p.1 undef)) :
  Conc (zFo P W G N) G (fun _=>.tuple #[]) ⟨ofL L,fun _=>none,0⟩ a W:=zX8 hd hs hl hg (zVn he) (zL6 hL)
theorem zLL {n:Nat}{P:Program}{ops:Array Oper}{Q:Exit->Act->World->Prop}{o:Oper}{rest:List Oper}{a:Act}{w:World} (hg:o.guard=none) (h:o.wpIn Fence.wide n P a w (wpListIn Fence.wide n P ops Q rest) Q):wpListIn Fence.wide n P ops Q (o::rest) a w:=by
 unfold wpListIn;rw[if_pos (by simp[Region.wanted,hg])]
 exact h
theorem zWT {P:Program}{o:Oper}{f x y:Operand}{ts:Array TypeId}{l:Nat}{a:Act}{w:World}{K:Act->World->Prop}{Q:Exit->Act->World->Prop}{R:Ending->World->Prop}{u:Value} (ho:o.op = .call { callee:=.value f,args:=#[x,y],argTypes:=ts })
  (hf:a.eval f = .func (.yield l) #[] #[]) (hY:YieldAt Fence.wide 0 P l #[a.eval x,a.eval y] w R) (hR:∀ e w',R e w'->e = .returned u/\K (a.put o.dst u) w'):o.wpIn Fence.wide 1 P a w K Q:=by
 obtain⟨fn,tmps,assign,body,hy,hr⟩:=hY;refine⟨fun _ _=>trivial,?_⟩
 rw[Oper.semAt_eq _ _ _ (by rw[ho]; intro c e; cases e)]
 have:(execOp a.eval o).run P w = .ok (.round l fn tmps assign body) w:=by
  simp[execOp,ho,resolve,hf,Deferred.ofValue,invoke,hy]
 rw[this]
 refine⟨fun h=>(by cases h),hr.mono fun e w' he=>?_⟩
 obtain⟨rfl,h⟩:=hR e w' he;exact h
theorem Conc.back {P:Program}{W:World}{G G':Nat->Prop}{N:Nat}{β:Nat->Value}{σ:St}{a:Act}{w:World} (hc:Conc (zFo P W G N) G' β σ a w) (hs:w.heap.size=W.heap.size):(∀ b,G' b->G b)/\∀ b,b<W.heap.size->w.heap[b]? = W.heap[b]? :=
 ⟨fun b hb=>(hc.new b hb).elim id (fun h=>h.elim False.elim (fun h=>by have:=hc.lt b hb; have h:W.heap.size<=b:=h; omega)),fun b hb=>hc.fr.old b hb (fun h=>h)⟩
end Go.Abs
namespace Go.Proofs.YtgplhldfbkmmgaaGreat
open Go.Abs
def zJZ (xs:List AV) (r:Ret):Prop:=∃ rows,xs=[.s (.sl 8 rows)]/\r = .val (.clo 167 [.s (.pt [.sl 8 rows])])
set_option maxHeartbeats 600000 in
theorem zN2:PSound Tryz.prog 132 (zAy zJZ):=by
 have gok:∀ f s,look? f []=some s->PSound Tryz.prog f s:=zAt (by simp)
 refine zAA tokW Tryz.call132 Tryz.func132 rfl (fun xs r h=>by obtain⟨_,rfl,_⟩:=h; show 1<=4; decide) 4 rfl ?_;rintro xs r w0 G0 ⟨rows,rfl,rfl⟩ _;refine zYe [] [] rfl ?_;show Tri ..;refine zYe [] [] rfl ?_;show Tri ..;refine zAe ?_;unfold zAw;exact⟨_,Le.refl _ _,rfl,rfl⟩
theorem zPH (a:Act) (t:Nat):a.eval (.tmp t)=a.tmps.getD t undef:=rfl
theorem zYb {α:Type}:∀ {l:List α},l.length=8->∃ a b c d e f g h,l=[a,b,c,d,e,f,g,h]
 | [a,b,c,d,e,f,g,h],_=>⟨a,b,c,d,e,f,g,h,rfl⟩
theorem zXe:zPg Tryz.prog 167 8:=by
 intro G w0 v rows hlt hgl hv hrl hlen l J W hsz hk hJ hY h0;have hrep:∀ w:World,(∀ b,G b->w.heap[b]? = w0.heap[b]?)->Rep G w (.pt [.sl 8 rows]) v:=fun w hw=>hv.keep ⟨fun _ h=>h,hw⟩
 have hlt':∀ w:World,w0.heap.size<=w.heap.size->∀ b,G b->b<w.heap.size:=fun w hw b hb=>Nat.lt_of_lt_of_le (hlt b hb) hw
 have hgl':∀ w:World,(∀ b,G b->w.heap[b]? = w0.heap[b]?)->GlobOk G w:=fun w hw=>hgl.keep ⟨fun _ h=>h,hw⟩
 have step:∀ {N:Nat} {G':Nat->Prop} {β:Nat->Value} {σ:St} {a:Act} {wa wb:World} (i:Nat),Conc (zFo Tryz.prog wa G N) G' β σ a wb->wb.heap.size=wa.heap.size->J i wa->w0.heap.size<=wa.heap.size->(∀ b,G b->wa.heap[b]? = w0.heap[b]?) ->
   J i wb/\w0.heap.size<=wb.heap.size/\(∀ b,G b->wb.heap[b]? = w0.heap[b]?):=fun {N G' β σ a wa wb} i hc hs hj h1 h2=>by
  obtain⟨g1,g2⟩:=hc.back hs;exact⟨hJ i wa wb hj ⟨hc.fr.os,hc.fr.tape,hc.fr.output,hc.fr.size,g2⟩,by rw[hs]; exact h1,fun b hb=>(g2 b (hlt' wa h1 b hb)).trans (h2 b hb)⟩
 let St:Nat->Act->World->Prop:=fun i a w=>a.defers=[]/\a.tmps.size=19/\a.tmps.getD 0 undef = .func (.yield l) #[] #[]/\a.tmps.getD 1 undef=v/\a.tmps.getD 3 undef = .int .i64 ((rows.length:Int) - 1 - i)/\J i w/\w0.heap.size<=w.heap.size/\(∀ b,G b->w.heap[b]? = w0.heap[b]?)
 refine callsIn_of_wp Tryz.func167 rfl trivial ?_;generalize ha:({ tmps:=#[Value.func (.yield l) #[] #[],v]++Array.replicate _ undef,defers:=[] }:Act)=a;have a0:a.tmps.getD 0 undef = .func (.yield l) #[] #[] :=(by rw[← ha]; rfl);have a1:a.tmps.getD 1 undef=v :=(by rw[← ha]; rfl);have az:a.tmps.size=19 :=(by rw[← ha]; rfl);have ad:a.defers=[]:=by rw[← ha]
 clear ha
 refine wpIn_seq ?_;refine wpIn_region_lit ?_;refine zPG tokW (N:=19) (K:=fun σ=>σ.env 3 = .s (.int .i64 (IntKind.i64.wrap ((rows.length:Int) - 1)))) [0,1] ?_ (zT8 (G:=G) [(1,.s (.pt [.sl 8 rows]))] ad az (hlt' W hsz) (hgl' W hk) rfl (fun p hp=>by
  obtain rfl:=List.mem_singleton.1 hp;dsimp only;rw[a1]
  simp only[AVal]
  exact hrep W hk)) rfl ?_
 ·show _=_
  rfl
 intro σ1 G1 β1 b w1 hK hc hs hfr;have b0:=(hfr 0 (by simp)).trans a0;have b1:=(hfr 1 (by simp)).trans a1;have b3:=hc.env 3;rw[hK]at b3;simp only[AVal,Rep]at b3;rw[wrap64_in (n:=(rows.length:Int) - 1) (by omega) (by omega)]at b3;have hst:=step 0 hc hs h0 hsz hk;have hS:St 0 b w1:=⟨hc.defers,hc.size,b0,b1,by rw[b3]; congr 1; omega,hst⟩
 clear hst b0 b1 b3 hK hfr hc hs a0 a1 az ad
 refine wpIn_block ?_;refine wpIn_loop (fun a w=>∃ i,i<=rows.length/\St i a w) (fun a _=>match a.tmps.getD 3 undef with | .int _ z=>(z+1).toNat | _=>0) ⟨0,Nat.zero_le _,hS⟩ ?_;rintro a w ⟨i,hi,ad,az,a0,a1,a3,hj,hw1,hw2⟩
 refine wpIn_seq ?_;refine wpIn_seq ?_;refine wpIn_region_lit ?_;refine zPG tokW (N:=19) (K:=fun σ=>σ.env 8 = .s (.bool (decide (0<=(rows.length:Int) - 1 - i)))) [0,1,3] ?_ (zT8 (G:=G) [(3,.s (.int .i64 ((rows.length:Int) - 1 - i)))] ad az (hlt' w hw1) (hgl' w hw2) rfl (fun p hp=>by
  obtain rfl:=List.mem_singleton.1 hp;dsimp only;rw[a3]
  simp[AVal,Rep])) rfl ?_
 ·show _=_
  rfl
 intro σ1 G1 β1 b w1 hK hc hs hfr;have b0:=(hfr 0 (by simp)).trans a0;have b1:=(hfr 1 (by simp)).trans a1;have b3:=(hfr 3 (by simp)).trans a3;have b8:=hc.env 8;rw[hK]at b8;simp only[AVal,Rep]at b8;obtain⟨hj1,hw3,hw4⟩:=step i hc hs hj hw1 hw2;have bd:b.defers=[]:=hc.defers;have bs:b.tmps.size=19:=hc.size
 clear hc hK hfr hs a0 a1 ad az hj hw1 hw2
 refine wpIn_cond_split (t:=decide (0<=(rows.length:Int) - 1 - i)) b8 (fun hb=>?_) (fun hb=>?_)
 ·have hb:=of_decide_eq_true hb;refine wpIn_skip ?_;obtain⟨j,hij⟩:∃ j,i+j+1=rows.length:=⟨rows.length - 1 - i,by omega⟩
  have hz:(rows.length:Int) - 1 - i=(j:Int) :=(by omega);rw[hz]at b3;have hjl:j<rows.length :=(by omega);have hrow:rows[j]? = some rows[j]:=List.getElem?_eq_getElem hjl;have hr8:=hrl _ (List.getElem_mem hjl)
  have hgd:rows.getD ((j:Int).toNat) []=rows[j] :=(by rw[Int.toNat_natCast,List.getD_eq_getElem?_getD,hrow]; rfl);generalize rows[j]=row at hrow hr8 hgd;refine wpIn_seq ?_;refine wpIn_block ?_;refine wpIn_seq ?_;refine wpIn_region_lit ?_;refine zLL rfl ?_;refine zWk (ro:=none) (K:=fun a' w'=>a'=b.put (some 11) (.func (.yield l) #[] #[])/\w'=w1) (by intro c e; cases e) ?_ (zA6 (v:=.func (.yield l) #[] #[]) (w':=w1) (by simp[execOp,zPH,b0]) ⟨rfl,rfl⟩)
  rintro a' w' ⟨ha',hw'⟩
  rw[ha',hw']
  clear ha' hw' a' w'
  have c0:(b.put (some 11) (.func (.yield l) #[] #[])).tmps.getD 0 undef = .func (.yield l) #[] #[]:=(zNk (by decide)).trans b0;have c1:(b.put (some 11) (.func (.yield l) #[] #[])).tmps.getD 1 undef=v:=(zNk (by decide)).trans b1;have c3:(b.put (some 11) (.func (.yield l) #[] #[])).tmps.getD 3 undef = .int .i64 (j:Int):=(zNk (by decide)).trans b3;have c11:(b.put (some 11) (.func (.yield l) #[] #[])).tmps.getD 11 undef = .func (.yield l) #[] #[]:=by
   simp only[Act.put]
   rw[zL4 (by rw[bs]; decide),if_pos rfl]
  have cd:(b.put (some 11) (.func (.yield l) #[] #[])).defers=[]:=(put_defers ..).trans bd;have cs:(b.put (some 11) (.func (.yield l) #[] #[])).tmps.size=19:=(zQd ..).trans bs;generalize b.put (some 11) (.func (.yield l) #[] #[])=c at c0 c1 c3 c11 cd cs
  clear b0 b1 b3 b8 bd bs
  refine zTo tokW (N:=19) 4 (K:=fun σ=>σ.env 12 = .s (.int .i64 (j:Int))/\σ.env 15 = .s (.pt (rows.getD ((j:Int).toNat) []))) [0,1,3,11] ?_ (zT8 (G:=G) [(1,.s (.pt [.sl 8 rows])),(3,.s (.int .i64 (j:Int)))] cd cs (hlt' w1 hw3) (hgl' w1 hw4) rfl (fun p hp=>by
   rcases List.mem_cons.1 hp with rfl | hp
   ·dsimp only;rw[c1]
    simp only[AVal]
    exact hrep w1 hw4
   ·obtain rfl:=List.mem_singleton.1 hp;dsimp only;rw[c3]
    simp[AVal,Rep])) rfl ?_
  ·exact⟨⟨by omega,by omega⟩,rfl,rfl⟩
  intro σ2 G2 β2 d w2 hK hc hs hfr;have d0:=(hfr 0 (by simp)).trans c0;have d1:=(hfr 1 (by simp)).trans c1;have d3:=(hfr 3 (by simp)).trans c3;have d11:=(hfr 11 (by simp)).trans c11;have d12:=hc.env 12;have d15:=hc.env 15;obtain⟨hgb,_⟩:=hc.back hs;rw[hK.1]at d12;rw[hK.2,hgd]at d15;simp only[AVal,Rep]at d12;have d15:=d15.keep (⟨hgb,fun _ _=>rfl⟩:Keep G2 G w2 w2)
  simp only[AVal]at d15;obtain⟨hj2,hw5,hw6⟩:=step i hc hs hj1 hw3 hw4;have dd:d.defers=[]:=hc.defers;have ds:d.tmps.size=19:=hc.size
  clear hc hK hfr hs c0 c1 c3 c11 cd cs hj1 hw3 hw4 hgb
  obtain⟨r1,r2,r3,r4,r5,r6,r7,r8,rfl⟩:=zYb hr8;refine zTo tokW (N:=19) 1 (K:=fun σ=>σ.env 16 = .agg ([r1,r2,r3,r4,r5,r6,r7,r8].map .s)) [0,1,3,11,12] ?_ (zT8 (G:=G) [(15,.s (.pt [r1,r2,r3,r4,r5,r6,r7,r8]))] dd ds (hlt' w2 hw5) (hgl' w2 hw6) rfl (fun p hp=>by
   obtain rfl:=List.mem_singleton.1 hp;dsimp only;simp only[AVal]
   exact d15)) rfl ?_
  ·show _=_
   rfl
  intro σ3 G3 β3 e w3 hK hc hs hfr;have e0:=(hfr 0 (by simp)).trans d0;have e1:=(hfr 1 (by simp)).trans d1;have e3:=(hfr 3 (by simp)).trans d3;have e11:=(hfr 11 (by simp)).trans d11;have e12:=(hfr 12 (by simp)).trans d12;have e16:=hc.env 16;obtain⟨hgb,_⟩:=hc.back hs;rw[hK]at e16;have e16:=e16.keep (⟨hgb,fun _ _=>rfl⟩:Keep G3 G w3 w3)
  obtain⟨hj3,hw7,hw8⟩:=step i hc hs hj2 hw5 hw6;have ed:e.defers=[]:=hc.defers;have es:e.tmps.size=19:=hc.size
  clear hc hK hfr hs d0 d1 d3 d11 d12 d15 dd ds hj2 hw5 hw6 hgb
  refine zLL rfl ?_;have hYY:=hY i j _ (e.tmps.getD 16 undef) w3 hij hrow hj3 hw7 hw8 (fun β=>e16.beta (n:=0) (fun k hk=>by cases hk) (zSI _))
  refine zWT (u:=.bool true) (f:=.tmp 11) (x:=.tmp 12) (y:=.tmp 16) (l:=l) rfl e11 (by rw[zPH,zPH,e12]; exact hYY) ?_;rintro ee w4 ⟨rfl,hj4,hw9,hw10⟩
  refine⟨rfl,?_⟩
  have f0:(e.put (some 17) (.bool true)).tmps.getD 0 undef = .func (.yield l) #[] #[]:=(zNk (by decide)).trans e0;have f1:(e.put (some 17) (.bool true)).tmps.getD 1 undef=v:=(zNk (by decide)).trans e1;have f3:(e.put (some 17) (.bool true)).tmps.getD 3 undef = .int .i64 (j:Int):=(zNk (by decide)).trans e3;have f17:(e.put (some 17) (.bool true)).tmps.getD 17 undef = .bool true:=by
   simp only[Act.put]
   rw[zL4 (by rw[es]; decide),if_pos rfl]
  have fd:(e.put (some 17) (.bool true)).defers=[]:=(put_defers ..).trans ed;have fs:(e.put (some 17) (.bool true)).tmps.size=19:=(zQd ..).trans es;show wpListIn _ _ _ _ _ _ (e.put (some 17) (.bool true)) _;generalize e.put (some 17) (.bool true)=f at f0 f1 f3 f17 fd fs
  clear e0 e1 e3 e11 e12 e16 ed es hj3 hw7 hw8 hYY
  refine zPG tokW (N:=19) (K:=fun σ=>σ.env 18 = .s (.bool false)) [0,1,3] ?_ (zT8 (G:=G) [(17,.s (.bool true))] fd fs (hlt' w4 hw9) (hgl' w4 hw10) rfl (fun p hp=>by
   obtain rfl:=List.mem_singleton.1 hp;dsimp only;rw[f17]
   simp[AVal,Rep])) rfl ?_
  ·show _=_
   rfl
  intro σ5 G5 β5 g w5 hK hc hs hfr;have g0:=(hfr 0 (by simp)).trans f0;have g1:=(hfr 1 (by simp)).trans f1;have g3:=(hfr 3 (by simp)).trans f3;have g18:=hc.env 18;rw[hK]at g18;simp only[AVal,Rep]at g18;obtain⟨hj5,hw11,hw12⟩:=step (i+1) hc hs hj4 hw9 hw10;have gd:g.defers=[]:=hc.defers;have gs:g.tmps.size=19:=hc.size
  clear hc hK hfr hs f0 f1 f3 f17 fd fs hj4 hw9 hw10
  refine wpIn_cond_false g18 ?_;refine wpIn_skip ?_;refine wpIn_region_lit ?_;refine zPG tokW (N:=19) (K:=fun σ=>σ.env 3 = .s (.int .i64 (IntKind.i64.wrap ((j:Int) - 1)))) [0,1] ?_ (zT8 (G:=G) [(3,.s (.int .i64 (j:Int)))] gd gs (hlt' w5 hw11) (hgl' w5 hw12) rfl (fun p hp=>by
   obtain rfl:=List.mem_singleton.1 hp;dsimp only;rw[g3]
   simp[AVal,Rep])) rfl ?_
  ·show _=_
   rfl
  intro σ6 G6 β6 h w6 hK hc hs hfr;have h0':=(hfr 0 (by simp)).trans g0;have h1':=(hfr 1 (by simp)).trans g1;have h3':=hc.env 3;rw[hK]at h3';simp only[AVal,Rep]at h3';rw[wrap64_in (n:=(j:Int) - 1) (by omega) (by omega)]at h3';have hst:=step (i+1) hc hs hj5 hw11 hw12;refine⟨⟨i+1,by omega,hc.defers,hc.size,h0',h1',by rw[h3']; congr 1; omega,hst⟩,?_⟩
  rw[h3',a3]
  show((j:Int) - 1+1).toNat<((rows.length:Int) - 1 - i+1).toNat
  omega
 ·have hb:=of_decide_eq_false hb;refine wpIn_exit ?_;obtain rfl:i=rows.length :=(by omega);simp only[Exit.then,Exit.inBlock,if_true]
  exact⟨bd,_,results_none rfl _ _ _,⟨_,rfl⟩,hj1⟩
theorem zXF {c:Cx}{σ σ':Go.Abs.St}{x:Code}{Φ:Exit->Act->World->Prop} (hle:Le c σ σ') (h:TriX c x σ' Φ):TriX c x σ Φ:=fun G β a w hc=>by
 unfold Le at hle;obtain⟨G',β',h'⟩:=hle G β a w hc;exact h G' β' a w h'
theorem zI6 {n:Nat}{ops:List zO8}:∀ {N:Nat}{y0:List zO8},zA9 n ops N=some y0->∀ i,i<N ->
  ∃ acc o y,zA9 n ops i=some acc/\ops[ops.length - 1 - i]? = some o/\zB1 n o=some y/\acc.length+1<=4294967296/\zA9 n ops (i+1)=some (acc++[y])
 | 0,_,_,i,hi=>by omega
 | N+1,y0,h,i,hi=>by
  have h':=h;unfold zA9 at h;obtain⟨acc,h1,h⟩:=zAc h;obtain⟨o,h2,h⟩:=zAc h;obtain⟨y,h3,h⟩:=zAc h;obtain⟨h4,h5⟩:=zAK h
  by_cases e:i=N
  ·subst e;exact⟨acc,o,y,h1,h2,h3,h4,h'.trans h5.symm⟩
  ·exact zI6 h1 i (by omega)
def zLN (n:Nat) (xs:List AV) (r:Ret):Prop:=∃ (a0:List zO8) (y0:List zO8),zCo n a0=some y0/\xs=[.s (.sl 8 ((List.map zAi) a0))]/\r = .val (.s (.sl 8 ((List.map zAi) y0)))
def zHH:zAz:=zAy fun xs r=>∃ n,zLN n xs r
theorem zKZ:PSound Tryz.prog 97 zHH:=by
 have gok:∀ f s,look? f [(132,zAy zJZ),(133,zKb)]=some s->PSound Tryz.prog f s:=zAt (by
  simp only[List.forall_mem_cons]
  exact⟨zN2,zN6,by simp⟩)
 refine zXw Tryz.call97 Tryz.func97 rfl (fun xs r h=>by obtain⟨n,_,_,_,rfl,_⟩:=h; show 1<=16; decide) 16 rfl ?_;rintro xs r w0 G0 ⟨n,ops,y0,h,rfl,rfl⟩ _;rw[zCo]at h;obtain⟨hl,h⟩:=zAK h;obtain⟨acc,hacc⟩:∃ acc:Nat->List zO8,acc=fun i=>(zA9 n ops i).getD []:=⟨_,rfl⟩
 have hfin:acc ops.length=y0 :=(by rw[hacc]; dsimp only; rw[h]; rfl);have h0:acc 0=[] :=(by rw[hacc]; rfl);have hst:∀ i,i<ops.length->∃ o y,ops[ops.length - 1 - i]? = some o/\zB1 n o=some y/\(acc i).length+1<=4294967296/\acc (i+1)=acc i++[y]:=fun i hi=>by
  obtain⟨a,o,y,h1,h2,h3,h4,h5⟩:=zI6 h i hi;rw[hacc]
  exact⟨o,y,h2,h3,by dsimp only; rw[h1]; exact h4,by dsimp only; rw[h1,h5]; rfl⟩
 clear hacc
 refine zQp rfl ?_;refine zAb [] [] rfl ?_;refine⟨rfl,?_⟩
 refine zQp rfl ?_;refine zAb [3] [] rfl ?_;refine⟨rfl,?_⟩
 refine zWO ?_;refine zQp rfl ?_;refine zAb [] [] rfl ?_;refine⟨_,⟨_,rfl,rfl⟩,?_⟩
 refine⟨rfl,?_⟩
 refine zXF (Le.trans (Le.takeNil 0 0 63 rfl rfl (by decide)) (Le.rnm [(0,0),(1,1)] [(3,.op 0 0),(7,.clo 167 [.s (.pt [.sl 8 ((List.map zAi) ops)])])] [(0,.box 55 [.orow 1]),(1,.row 63 8 [])] 2 ⟨rfl,rfl,trivial⟩ ⟨rfl,⟨_,rfl,rfl⟩,rfl,⟨_,rfl,rfl⟩,trivial⟩)) ?_;refine zUB ?_;refine zUC rfl rfl (sz:=8) (rows:=(List.map zAi) ops) zXe Tryz.call167 rfl (fun r hr=>by obtain⟨o,_,rfl⟩:=List.mem_map.1 hr; rfl) (by rw[List.length_map]; omega)
  (fun i=>(ofH [(0,.box 55 [.orow 1]),(1,.row 63 8 ((List.map zAi) (acc i)))],2)) (by dsimp only; rw[h0]; rfl) 1 (zL6 rfl) (Nat.zero_le _) (fun _=>by show 1<=2; decide) (by show 8<16; decide) (by show 9<16; decide) ?_ ?_
 ·intro i j row hij hrow l w X G B _;rw[List.length_map]at hij;obtain⟨o,y,h1,h2,h3,h4⟩:=hst i (by omega)
  rw[show ops.length - 1 - i=j by omega]at h1;rw[List.getElem?_map,h1]at hrow;obtain rfl:=Option.some.inj hrow;obtain⟨op_kind,op_row,op_at,op_n,op_nodes,op_slot,op_old,op_text⟩:=o;refine zAb [5] [] rfl ?_;refine⟨rfl,fun w X G B _=>?_⟩
  refine zAl ?_;refine zKH (by exact tokW) (by exact gok) (by exact mixed) [] [] [0,1,4,5] rfl (by decide +kernel) ?_;refine⟨_,⟨n,_,_,h2,rfl,rfl⟩,?_⟩
  obtain⟨z_kind,z_row,z_at,z_n,z_nodes,z_slot,z_old,z_text⟩:=y;refine And.intro (by simp only[List.length_map,List.length_cons,List.length_nil]; omega) ?_;refine⟨rfl,_,Le.rename [(0,0),(3,1)] [] [(0,.box 55 [.orow 1]),(1,.row 63 8 ((List.map zAi) (acc (i+1))))] 2 trivial ⟨rfl,⟨_,rfl,rfl⟩,rfl,⟨_,rfl,by rw[h4,List.map_append]; rfl⟩,trivial⟩ rfl rfl rfl rfl rfl,rfl,rfl⟩
 ·intro D w2 X G2 G' β' a2 hsw hc;rw[List.length_map,hfin]at hc;show(Code.seq _ _).wpIn _ _ _ _ a2 w2;refine zVa (c:=zFo Tryz.prog w0 G0 16) tokW hsw (fun _ h=>h) rfl rfl ?_ G' β' a2 w2 hc;refine zYe [] [] rfl ?_;show Tri ..;refine zAe ?_;unfold zAw;exact⟨_,Le.giveRow 1 (e:=63) (sz:=8) (rows:=(List.map zAi) y0) rfl,rfl,rfl⟩
end Go.Proofs.YtgplhldfbkmmgaaGreat
namespace Go.Abs
variable {c:Cx} {σ:St}
theorem Le.ofA (k:Nat){e sz:Nat}{rows:List (List AV)} (rs:List (List S)) (hk:σ.hp k=some (.arow e sz rows)) (hs:zHm rows=some rs):Le c σ (zEL σ k (.row e sz rs)):=by
 unfold Le;intro G β a w hc;obtain⟨s1,s2,s3⟩:=zO5 hs;have hget:∀ {j o},(zEL σ k (.row e sz rs)).hp j=some o->(j=k/\o = .row e sz rs)∨(j ≠ k/\σ.hp j=some o):=fun {j o} h=>by
  simp only[zEL]at h;cases hq:Nat.beq j k with
  | true=>rw[hq,cond_true]at h; cases h; exact .inl ⟨Nat.eq_of_beq_eq_true hq,rfl⟩
  | false=>rw[hq,cond_false]at h; exact .inr ⟨Nat.ne_of_beq_eq_false hq,h⟩
 have hget':∀ {j o},(zEL σ k (.row e sz rs)).hp j=some o->∃ o',σ.hp j=some o':=fun {j o} h=>by
  rcases hget h with ⟨rfl,_⟩ | ⟨_,h⟩
  ·exact⟨_,hk⟩
  ·exact⟨_,h⟩
 refine⟨G,β,{ hc with hp:=fun j o hj=>?_,hplt:=fun j o hj=>?_,inj:=fun j j' o o' hj hj'=>(let ⟨_,h1⟩:=hget' hj; let ⟨_,h2⟩:=hget' hj'; hc.inj j j' _ _ h1 h2) }⟩
 ·rcases hget hj with ⟨rfl,rfl⟩ | ⟨_,h⟩
  ·obtain⟨hlen,hsz,ho⟩:=hc.hp j _ hk;refine⟨fun r hr=>s3 sz hlen r hr,hsz,ho.imp (fun h=>⟨h.1,by have:=h.2; subst this; exact List.length_eq_zero_iff.1 (by simpa using s2.symm)⟩) ?_⟩
   rintro⟨b,cap,cur,h1,h2,h3,h4,h5,h6,h7⟩
   refine⟨b,cap,cur,by rw[← s2]; exact h1,by rw[← s2]; exact h2,h3,h4,h5,h6,fun i s hi=>?_⟩
   have hm:(rows.flatten.map AV.sc)[i]? = some (some s) :=(by rw[s1,List.getElem?_map,hi]; rfl);rw[List.getElem?_map]at hm;obtain⟨x,hx,hxs⟩:=Option.map_eq_some_iff.1 hm;obtain⟨u,hu,hr,_⟩:=h7 i x hx;exact⟨u,hu,AV.sc_rep hxs hr⟩
  ·exact hc.hp j o h
 ·rcases hget hj with ⟨rfl,rfl⟩ | ⟨_,h⟩
  ·exact⟨(hc.hplt j _ hk).1,rfl⟩
  ·exact hc.hplt j o h
theorem zVM:∀ r:List S,zLa (r.map AV.s)=some r
 | []=>rfl
 | x::r=>by simp[zLa,AV.sc,zVM r]
theorem zTM:∀ rows:List (List S),zHm (rows.map (·.map AV.s))=some rows
 | []=>rfl
 | r::rows=>by simp[zHm,zVM r,zTM rows]
theorem zKF:∀ {a b:List (List AV)}{x y:List (List S)},zHm a=some x->zHm b=some y->zHm (a++b)=some (x++y)
 | [],b,x,y,h,h'=>by
  simp only[zHm,Option.some.injEq]at h;subst h;exact h'
 | r::a,b,x,y,h,h'=>by
  simp only[zHm]at h;split at h
  ·rename_i z zs h1 h2
   cases h;simp[zHm,h1,zKF h2 h']
  ·cases h
theorem zTs {k:Nat}{r:AV}{p:Nat->AV}:∀ l:List S,AV.frzAll k r p (l.map AV.s)=l.map AV.s
 | []=>rfl
 | x::l=>by simp[AV.frzAll,AV.frz,zTs l]
theorem zUb {k:Nat}{r:AV}{p:Nat->AV} (rows:List (List S)):(rows.map (·.map AV.s)).map (AV.frzAll k r p)=rows.map (·.map AV.s):=by
 rw[List.map_map]
 exact List.map_congr_left fun l _=>zTs l
end Go.Abs
namespace Go.Proofs.YtgplhldfbkmmgaaGreat
open Go.Abs
def zMi (xs:List AV) (os:List Ob) (x:AV) (os':List (Option Ob)):Prop:=∃ (y0:CV),zCQ=some y0/\xs=[.orow 0]/\os=[.row 68 4 []]/\x = .agg (match y0 with | .mk k i t _=>[.s (.int .i64 k),.s (.int .i64 i),.s (.str t),.orow 1])/\os'=[none,some (.row 68 4 (match y0 with | .mk _ _ _ l=>CV.encs l))]
def zDs:zAz:=zC8 (fun xs os x os'=>zMi xs os x os') (some 0)
theorem zEb:PSound Tryz.prog 58 zDs:=by
 have gok:=@gok0 Tryz.prog;refine PSound.withNil (zFn tokW Tryz.call58 Tryz.func58 rfl (fun xs os x os' h=>by obtain⟨_,_,rfl,rfl,_,rfl⟩:=h; exact⟨by show 1<=5; decide,by show 1<=2; decide⟩) 5 rfl ?_) _;rintro xs os x os' w0 G0 B0 ⟨y0,h,rfl,rfl,rfl,rfl⟩ _;rw[zCQ]at h;cases h;refine zYe [2] [] rfl ?_;show Tri ..;refine zYe [] [] rfl ?_;show Tri ..;refine zAe ?_;unfold zBp
 exact⟨_,(Le.rnm [(0,1),(1,2)] [(2,.op 2 0)] [(1,.row 68 4 []),(2,.box 68 [.s (.int .i64 3),.s (.int .i64 0),.s (.str []),.orow 1])] 3 ⟨rfl,trivial⟩ ⟨rfl,⟨_,rfl,rfl⟩,rfl,⟨_,rfl,rfl⟩,trivial⟩),rfl,rfl,rfl,rfl,trivial⟩
def zEx (n:Nat) (xs:List AV) (r:Ret):Prop:=∃ (a0:CV) (a1:Int) (y0:Bool),zDK n a0 a1=some y0/\xs=[.s (.pt (CV.enc a0)),.s (.int .i64 a1)]/\r = .val (.s (.bool y0))
theorem zL2 (n:Nat) (ih:PSound Tryz.prog 99 (zAy (zEx n))):PSound Tryz.prog 99 (zAy (zEx (n+1))):=by
 have gok:∀ f s,look? f [(99,zAy (zEx n))]=some s->PSound Tryz.prog f s:=zAt (by
  simp only[List.forall_mem_cons]
  exact⟨ih,by simp⟩)
 refine zAA tokW Tryz.call99 Tryz.func99 rfl (fun xs r h=>by obtain⟨_,_,_,_,rfl,_⟩:=h; show 2<=75; decide) 75 rfl ?_;rintro xs r w0 G0 ⟨⟨a1A,a1L,a1B,a1K⟩,a2,y0,h,rfl,rfl⟩ _;rw[zDK]at h;refine zYe [] [] rfl ?_;show Tri ..;refine zAa ?_;refine zYe [] [] rfl ?_;show Tri ..;refine zAh rfl h (fun hb h=>?_) (fun hb h=>?_)
 ·refine zYe [] [] rfl ?_;show Tri ..;refine zAe ?_;have hy:=Option.some.inj h;subst hy;unfold zAw;exact⟨_,Le.refl _ _,rfl,rfl⟩
 ·refine zAf ?_;show Tri ..;refine zAa ?_;refine zYe [] [] rfl ?_;show Tri ..;refine zAl ?_;refine zYe [] [] rfl ?_;show Tri ..;refine zAh rfl h (fun hb h=>?_) (fun hb h=>?_)
  ·refine zAa ?_;obtain⟨x3,hj,h⟩:=zAc h;refine zAv ⟨ofL [(4,.s (.bool x3))],fun _=>none,0⟩ ?_ (fun σ' hle=>?_)
   ·replace h:=hj;refine zAb [] [19,24] rfl ?_;intro b hb;cases b with
    | true =>
     replace h:=zAE hb.symm h;intro n4 hn4;obtain rfl:(a1K.length:Int)=n4:=(hn4.trans (congrArg (fun m:Nat=>(m:Int)) (rlen CV.encs_eq a1K))).symm;cases h;exact(Le.forget _ ⟨rfl,trivial⟩)
    | false =>
     replace h:=zAD hb.symm h;cases h;exact(Le.forget _ ⟨rfl,trivial⟩)
   ·show Tri ..;refine zAk hle ?_;refine zAe ?_;have hy:=Option.some.inj h;subst hy;unfold zAw;exact⟨_,Le.refl _ _,rfl,rfl⟩
  ·refine zYe [] [] rfl ?_;show Tri ..;refine zAh rfl h (fun hb h=>?_) (fun hb h=>?_)
   ·refine zAa ?_;obtain⟨x5,hj,h⟩:=zAc h;refine zAv ⟨ofL [(4,.s (.bool x5))],fun _=>none,0⟩ ?_ (fun σ' hle=>?_)
    ·replace h:=hj;refine zAb [] [34,39] rfl ?_;intro b hb;cases b with
     | true =>
      replace h:=zAE hb.symm h;intro n6 hn6;obtain rfl:(a1K.length:Int)=n6:=(hn6.trans (congrArg (fun m:Nat=>(m:Int)) (rlen CV.encs_eq a1K))).symm;cases h;exact(Le.forget _ ⟨rfl,trivial⟩)
     | false =>
      replace h:=zAD hb.symm h;cases h;exact(Le.forget _ ⟨rfl,trivial⟩)
    ·show Tri ..;refine zAk hle ?_;refine zAe ?_;have hy:=Option.some.inj h;subst hy;unfold zAw;exact⟨_,Le.refl _ _,rfl,rfl⟩
   ·refine zYe [] [] rfl ?_;show Tri ..;refine zAh rfl h (fun hb h=>?_) (fun hb h=>?_)
    ·refine zAa ?_;refine zAa ?_;obtain⟨x7,hj,h⟩:=zAc h;refine zAv ⟨ofL [(0,.s (.pt [.int .i64 a1A,.int .i64 a1L,.str a1B,.sl 4 (CV.encs a1K)])),(1,.s (.int .i64 a2)),(55,.s (.bool x7))],fun _=>none,0⟩ ?_ (fun σ' hle=>?_)
     ·replace h:=hj;refine zAb [] [49] rfl ?_;intro b hb;cases b with
      | true =>
       replace h:=zAE hb.symm h;cases h;exact(Le.forget _ ⟨rfl,rfl,rfl,trivial⟩)
      | false =>
       replace h:=zAD hb.symm h;cases h;exact(Le.forget _ ⟨rfl,rfl,rfl,trivial⟩)
     ·show Tri ..;refine zAk hle ?_;refine zAh rfl h (fun hb h=>?_) (fun hb h=>?_)
      ·refine zYe [] [] rfl ?_;show Tri ..;refine zAe ?_;have hy:=Option.some.inj h;subst hy;unfold zAw;exact⟨_,Le.refl _ _,rfl,rfl⟩
      ·refine zAf ?_;show Tri ..;refine zAa ?_;refine zYe [] [60] rfl ?_;intro n8 hn8;obtain rfl:(a1K.length:Int)=n8:=(hn8.trans (congrArg (fun m:Nat=>(m:Int)) (rlen CV.encs_eq a1K))).symm;show Tri ..;obtain⟨fl,hl,ho1⟩:=zAc h;refine zBt (fl:=fl) (fun z=>match z with | _=>⟨ofL [],fun _=>none,0⟩) ?_ (fun z σ' hz hle=>?_)
       ·refine zAl (zAF (X:=Nat×Int) (fun y=>match y with | (k,x9)=>⟨ofL [(0,.s (.pt [.int .i64 a1A,.int .i64 a1L,.str a1B,.sl 4 (CV.encs a1K)])),(1,.s (.int .i64 a2)),(60,.s (.int .i64 (a1K.length:Int))),(61,.s (.int .i64 x9))],fun _=>none,0⟩) (fun y=>zDb (zDK n) a1K a2 y.1 y.2=some fl) (fun y=>y.1) (n,0) hl ?_ ?_)
        ·exact(Le.forget _ ⟨rfl,rfl,rfl,rfl,trivial⟩)
        ·rintro⟨k,x9⟩ h;cases k with
         | zero=>cases h
         | succ k =>
          replace h:zDb (zDK n) a1K a2 (k+1) x9=some fl:=h;rw[zDb]at h;refine zYe [] [] rfl ?_;show Tri ..;refine zAa ?_;refine zAh rfl h (fun hb h=>?_) (fun hb h=>?_)
          ·refine zAf ?_;show Tri ..;refine zAa ?_;refine zAl ?_;refine zYe [] [] rfl ?_;show Tri ..;refine zYe [] [69] rfl ?_;obtain⟨⟨e10A,e10L,e10B,e10K⟩,he10,h⟩:=zAc h;refine And.intro (zAB CV.encs_eq he10).1 ?_;intro r11 hr11;obtain rfl:[.int .i64 e10A,.int .i64 e10L,.str e10B,.sl 4 (CV.encs e10K)]=r11:=(hr11.trans (zAB CV.encs_eq he10).2.1).symm;obtain⟨y12,hy12,h⟩:=zAc h;refine⟨_,⟨_,_,_,hy12,rfl,rfl⟩,?_⟩
           show Tri ..;refine zAh rfl h (fun hb h=>?_) (fun hb h=>?_)
           ·refine zYe [] [] rfl ?_;show Tri ..;refine zAe ?_;cases h;replace h:some _=some _:=ho1;have hy:=Option.some.inj h;subst hy;unfold zAw;exact⟨_,Le.refl _ _,rfl,rfl⟩
           ·refine zAf ?_;show Tri ..;refine zAb [] [] rfl ?_;refine⟨(k,IntKind.i64.wrap (x9+1)),h,(Le.forget _ ⟨rfl,rfl,rfl,rfl,trivial⟩),Nat.lt_succ_self k⟩
          ·refine zAI ?_;cases h;exact⟨_,rfl,(Le.forget _ trivial)⟩
       ·subst hz;obtain _:=z;replace h:=ho1;show Tri ..;refine zAk hle ?_;refine zYe [] [] rfl ?_;show Tri ..;refine zAe ?_;have hy:=Option.some.inj h;subst hy;unfold zAw;exact⟨_,Le.refl _ _,rfl,rfl⟩
    ·refine zAf ?_;show Tri ..;refine zYe [] [] rfl ?_;show Tri ..;refine zAe ?_;have hy:=Option.some.inj h;subst hy;unfold zAw;exact⟨_,Le.refl _ _,rfl,rfl⟩
theorem zMB:∀ n,PSound Tryz.prog 99 (zAy (zEx n)):=by
 intro n
 induction n with
 | zero=>exact zBI Tryz.call99 (fun xs r h=>by obtain⟨_,_,_,h,_⟩:=h; cases h)
 | succ n ih=>exact zL2 n ih
def zJ9:zAz:=zAy fun xs r=>∃ n,zEx n xs r
theorem zN4:PSound Tryz.prog 99 zJ9:=zCb zMB
def zPh (n:Nat) (xs:List AV) (r:Ret):Prop:=∃ (a0:CV) (y0:Bool),zHx n a0=some y0/\xs=[.agg ((CV.enc a0).map .s)]/\r = .val (.s (.bool y0))
def zJ8:zAz:=zAy fun xs r=>∃ n,zPh n xs r
theorem zN3:PSound Tryz.prog 56 zJ8:=by
 have gok:∀ f s,look? f [(99,zJ9)]=some s->PSound Tryz.prog f s:=zAt (by
  simp only[List.forall_mem_cons]
  exact⟨zN4,by simp⟩)
 refine zAA tokW Tryz.call56 Tryz.func56 rfl (fun xs r h=>by obtain⟨n,_,_,_,rfl,_⟩:=h; show 1<=4; decide) 4 rfl ?_;rintro xs r w0 G0 ⟨n,⟨v1A,v1L,v1B,v1K⟩,y0,h,rfl,rfl⟩ _;rw[zHx]at h;refine zYe [] [] rfl ?_;show Tri ..;refine zYe [] [] rfl ?_;obtain⟨y2,hy2,h⟩:=zAc h;refine⟨_,⟨_,_,_,_,hy2,rfl,rfl⟩,?_⟩
 show Tri ..;refine zAe ?_;have hy:=Option.some.inj h;subst hy;unfold zAw;exact⟨_,Le.refl _ _,rfl,rfl⟩
def zNI (xs:List AV) (r:Ret):Prop:=∃ (a0:CV) (y0:Int),zGO a0=some y0/\xs=[.s (.pt (CV.enc a0))]/\r = .val (.s (.int .u64 y0))
def zI9:zAz:=zAy fun xs r=>zNI xs r
theorem zM3:PSound Tryz.prog 135 zI9:=by
 have gok:=@gok0 Tryz.prog;refine zAA tokW Tryz.call135 Tryz.func135 rfl (fun xs r h=>by obtain⟨_,_,_,rfl,_⟩:=h; show 1<=48; decide) 48 rfl ?_;rintro xs r w0 G0 ⟨⟨v1A,v1L,v1B,v1K⟩,y0,h,rfl,rfl⟩ _;rw[zGO]at h;refine zYe [] [] rfl ?_;show Tri ..;refine zAa ?_;refine zAl ?_;refine zYe [] [] rfl ?_;show Tri ..;refine zAh rfl h (fun hb h=>?_) (fun hb h=>?_)
 ·refine zYe [] [] rfl ?_;show Tri ..;refine zAe ?_;have hy:=Option.some.inj h;subst hy;unfold zAw;exact⟨_,Le.refl _ _,rfl,rfl⟩
 ·refine zYe [] [] rfl ?_;show Tri ..;refine zAh rfl h (fun hb h=>?_) (fun hb h=>?_)
  ·refine zYe [] [25] rfl ?_;intro n2 hn2;obtain rfl:(v1K.length:Int)=n2:=(hn2.trans (congrArg (fun m:Nat=>(m:Int)) (rlen CV.encs_eq v1K))).symm;show Tri ..;refine zAe ?_;have hy:=Option.some.inj h;subst hy;unfold zAw;exact⟨_,Le.refl _ _,rfl,rfl⟩
  ·refine zYe [] [] rfl ?_;show Tri ..;refine zAh rfl h (fun hb h=>?_) (fun hb h=>?_)
   ·refine zYe [] [] rfl ?_;show Tri ..;refine zAe ?_;have hy:=Option.some.inj h;subst hy;unfold zAw;exact⟨_,Le.refl _ _,rfl,rfl⟩
   ·refine zAf ?_;show Tri ..;refine zYe [] [] rfl ?_;show Tri ..;refine zAe ?_;have hy:=Option.some.inj h;subst hy;unfold zAw;exact⟨_,Le.refl _ _,rfl,rfl⟩
def zMd (n:Nat) (xs:List AV) (r:Ret):Prop:=∃ (a0:Int) (y0:Int),zGa n a0=some y0/\xs=[.s (.int .u64 a0)]/\r = .val (.s (.int .i64 y0))
def zH4:zAz:=zAy fun xs r=>∃ n,zMd n xs r
theorem zLV:PSound Tryz.prog 136 zH4:=by
 have gok:=@gok0 Tryz.prog;refine zAA tokW Tryz.call136 Tryz.func136 rfl (fun xs r h=>by obtain⟨n,_,_,_,rfl,_⟩:=h; show 1<=13; decide) 13 rfl ?_;rintro xs r w0 G0 ⟨n,n1,y0,h,rfl,rfl⟩ _;rw[zGa]at h;refine zYe [] [] rfl ?_;show Tri ..;refine zYe [] [] rfl ?_;show Tri ..;refine zAa ?_;refine zYe [] [] rfl ?_;refine And.intro (by decide) ?_;show Tri ..;obtain⟨k4,hl,h⟩:=zAc h;refine zAv ⟨ofL [(3,.s (.int .i64 k4))],fun _=>none,0⟩ ?_ (fun σ' hle=>?_)
 ·refine zAl (zAF (X:=Nat×Int×Int) (fun y=>match y with | (k,n2,k3)=>⟨ofL [(0,.s (.int .u64 n2)),(3,.s (.int .i64 k3))],fun _=>none,0⟩) (fun y=>zCv  y.1 y.2.1 y.2.2=some k4) (fun y=>y.1) (n,n1.fdiv (2 ^ (min (8:Int).toNat IntKind.u64.bits)),1) hl ?_ ?_)
  ·exact(Le.forget _ ⟨rfl,rfl,trivial⟩)
  ·rintro⟨k,n2,k3⟩ h;cases k with
   | zero=>cases h
   | succ k =>
    replace h:zCv  (k+1) n2 k3=some k4:=h;rw[zCv]at h;refine zAa ?_;refine zYe [] [] rfl ?_;show Tri ..;refine zAh rfl h (fun hb h=>?_) (fun hb h=>?_)
    ·refine zAf ?_;show Tri ..;refine zAa ?_;refine zAl ?_;refine zAb [] [] rfl ?_;show Tri ..;refine zAb [] [] rfl ?_;refine And.intro (by decide) ?_;refine⟨(k,n2.fdiv (2 ^ (min (8:Int).toNat IntKind.u64.bits)),IntKind.i64.wrap (k3+1)),h,(Le.forget _ ⟨rfl,rfl,trivial⟩),Nat.lt_succ_self k⟩
    ·refine zAI ?_;cases h;exact(Le.forget _ ⟨rfl,trivial⟩)
 ·show Tri ..;refine zAk hle ?_;refine zYe [] [] rfl ?_;show Tri ..;refine zAe ?_;have hy:=Option.some.inj h;subst hy;unfold zAw;exact⟨_,Le.refl _ _,rfl,rfl⟩
def zQw (n:Nat) (xs:List AV) (os:List Ob) (x:AV) (os':List (Option Ob)):Prop:=∃ (a0:List UInt8) (a1:CV) (y0:List UInt8),zIj n a0 a1=some y0/\xs=[.orow 0,.s (.pt (CV.enc a1))]/\os=[.row 5 1 ((List.map brow) a0)]/\x = .orow 1/\os'=[none,some (.row 5 1 ((List.map brow) y0))]
def zLf:zAz:=zC8 (fun xs os x os'=>∃ n,zQw n xs os x os') (some 0)
theorem zPT:PSound Tryz.prog 100 zLf:=by
 have gok:∀ f s,look? f [(135,zI9),(136,zH4)]=some s->PSound Tryz.prog f s:=zAt (by
  simp only[List.forall_mem_cons]
  exact⟨zM3,zLV,by simp⟩)
 refine PSound.withNil (zFn tokW Tryz.call100 Tryz.func100 rfl (fun xs os x os' h=>by obtain⟨n,_,_,_,_,rfl,rfl,_,rfl⟩:=h; exact⟨by show 2<=54; decide,by show 1<=2; decide⟩) 54 rfl ?_) _;rintro xs os x os' w0 G0 B0 ⟨n,b1,⟨v2A,v2L,v2B,v2K⟩,y0,h,rfl,rfl,rfl,rfl⟩ _;rw[zIj]at h;refine zYe [4] [] rfl ?_;show Tri ..;refine zAk (Le.rnm [(0,0)] [(0,.orow 0),(1,.s (.pt [.int .i64 v2A,.int .i64 v2L,.str v2B,.sl 4 (CV.encs v2K)]))] [(0,.row 5 1 ((List.map brow) b1))] 1 ⟨rfl,rfl,trivial⟩ ⟨rfl,⟨_,rfl,rfl⟩,trivial⟩) ?_;refine zYe [] [] rfl ?_
 obtain⟨y3,hy3,h⟩:=zAc h;refine⟨_,⟨_,_,hy3,rfl,rfl⟩,?_⟩
 show Tri ..;refine zAa ?_;refine zYe [] [] rfl ?_;show Tri ..;refine zAh rfl h (fun hb h=>?_) (fun hb h=>?_)
 ·refine zYe [23] [22] rfl ?_;intro r4 hr4;obtain rfl:(List.map brow) [b8of (IntKind.u8.wrap ((IntKind.u8.wrap (IntKind.i64.wrap (64 * v2A)))+(IntKind.u8.wrap y3)))]=r4:=(hr4.trans (by simp[List.map_append,List.map_take,List.map_drop,irow,brow,zAG,List.map_cons,List.map_nil,zAC,Nd.encs_eq,Nd.enc,CV.encs_eq,CV.enc])).symm;obtain⟨hq,h⟩:=zAK h
  refine And.intro (show(((List.map brow) b1).length+((List.map brow) [b8of (IntKind.u8.wrap ((IntKind.u8.wrap (IntKind.i64.wrap (64 * v2A)))+(IntKind.u8.wrap y3)))]).length) * 1<=140737488355328/\((List.map brow) b1).length+((List.map brow) [b8of (IntKind.u8.wrap ((IntKind.u8.wrap (IntKind.i64.wrap (64 * v2A)))+(IntKind.u8.wrap y3)))]).length<=9223372036854775807 from by simp only[List.length_append,List.length_cons,List.length_nil,List.length_map,rlen (fun _=>rfl)]at hq ⊢; omega) ?_;show Tri ..
  refine zAk (Le.rnm [(1,1)] [(4,.orow 1)] [(1,.row 5 1 ((List.map brow) (b1++[b8of (IntKind.u8.wrap ((IntKind.u8.wrap (IntKind.i64.wrap (64 * v2A)))+(IntKind.u8.wrap y3)))])))] 2 ⟨rfl,trivial⟩ ⟨rfl,⟨_,rfl,congrArg (Ob.row 5 1) (by simp[List.map_append,List.map_take,List.map_drop,irow,brow,zAG,List.map_cons,List.map_nil,zAC,Nd.encs_eq,Nd.enc,CV.encs_eq,CV.enc])⟩,trivial⟩) ?_;refine zAe ?_;have hy:=Option.some.inj h;subst hy;unfold zBp
  exact⟨_,(Le.rnm [(1,1)] [(4,.orow 1)] [(1,.row 5 1 ((List.map brow) (b1++[b8of (IntKind.u8.wrap ((IntKind.u8.wrap (IntKind.i64.wrap (64 * v2A)))+(IntKind.u8.wrap y3)))])))] 2 ⟨rfl,trivial⟩ ⟨rfl,⟨_,rfl,rfl⟩,trivial⟩),rfl,rfl,rfl,rfl,trivial⟩
 ·refine zAf ?_;show Tri ..;refine zYe [] [] rfl ?_;obtain⟨y5,hy5,h⟩:=zAc h;refine⟨_,⟨_,_,_,hy5,rfl,rfl⟩,?_⟩
  show Tri ..;refine zYe [38] [37] rfl ?_;intro r6 hr6;obtain rfl:(List.map brow) [b8of (IntKind.u8.wrap (IntKind.i64.wrap ((IntKind.i64.wrap ((IntKind.i64.wrap ((IntKind.i64.wrap (64 * v2A))+56)) - 1))+y5)))]=r6:=(hr6.trans (by simp[List.map_append,List.map_take,List.map_drop,irow,brow,zAG,List.map_cons,List.map_nil,zAC,Nd.encs_eq,Nd.enc,CV.encs_eq,CV.enc])).symm;obtain⟨hq,h⟩:=zAK h
  refine And.intro (show(((List.map brow) b1).length+((List.map brow) [b8of (IntKind.u8.wrap (IntKind.i64.wrap ((IntKind.i64.wrap ((IntKind.i64.wrap ((IntKind.i64.wrap (64 * v2A))+56)) - 1))+y5)))]).length) * 1<=140737488355328/\((List.map brow) b1).length+((List.map brow) [b8of (IntKind.u8.wrap (IntKind.i64.wrap ((IntKind.i64.wrap ((IntKind.i64.wrap ((IntKind.i64.wrap (64 * v2A))+56)) - 1))+y5)))]).length<=9223372036854775807 from by simp only[List.length_append,List.length_cons,List.length_nil,List.length_map,rlen (fun _=>rfl)]at hq ⊢; omega) ?_;show Tri ..
  refine zAk (Le.rnm [(1,1)] [(0,.orow 1),(5,.s (.int .u64 y3)),(6,.s (.int .i64 y5))] [(1,.row 5 1 ((List.map brow) (b1++[b8of (IntKind.u8.wrap (IntKind.i64.wrap ((IntKind.i64.wrap ((IntKind.i64.wrap ((IntKind.i64.wrap (64 * v2A))+56)) - 1))+y5)))])))] 2 ⟨rfl,rfl,rfl,trivial⟩ ⟨rfl,⟨_,rfl,congrArg (Ob.row 5 1) (by simp[List.map_append,List.map_take,List.map_drop,irow,brow,zAG,List.map_cons,List.map_nil,zAC,Nd.encs_eq,Nd.enc,CV.encs_eq,CV.enc])⟩,trivial⟩) ?_;refine zAa ?_;refine zYe [] [] rfl ?_;show Tri ..;obtain⟨l10,hl,h⟩:=zAc h
  refine zAv ⟨ofL [(0,.orow 1)],ofH [(1,.row 5 1 ((List.map brow) l10))],2⟩ ?_ (fun σ' hle=>?_)
  ·refine zAl (zAF (X:=Nat×Int×(List UInt8)) (fun y=>match y with | (k,i8,l9)=>⟨ofL [(0,.orow 1),(5,.s (.int .u64 y3)),(7,.s (.int .i64 i8))],ofH [(1,.row 5 1 ((List.map brow) l9))],2⟩) (fun y=>zDx y3 y.1 y.2.1 y.2.2=some l10) (fun y=>y.1) (n,IntKind.i64.wrap (y5 - 1),b1++[b8of (IntKind.u8.wrap (IntKind.i64.wrap ((IntKind.i64.wrap ((IntKind.i64.wrap ((IntKind.i64.wrap (64 * v2A))+56)) - 1))+y5)))]) hl ?_ ?_)
   ·exact(Le.rnm [(1,1)] _ _ _ ⟨rfl,rfl,rfl,trivial⟩ ⟨rfl,⟨_,rfl,rfl⟩,trivial⟩)
   ·rintro⟨k,i8,l9⟩ h;cases k with
    | zero=>cases h
    | succ k =>
     replace h:zDx y3 (k+1) i8 l9=some l10:=h;rw[zDx]at h;refine zAa ?_;refine zYe [] [] rfl ?_;show Tri ..;refine zAh rfl h (fun hb h=>?_) (fun hb h=>?_)
     ·refine zAf ?_;show Tri ..;refine zAa ?_;refine zAl ?_;refine zAb [52] [51] rfl ?_;obtain⟨hq,h⟩:=zAK h;refine And.intro hq ?_;intro r11 hr11;obtain rfl:(List.map brow) [b8of (IntKind.u8.wrap (y3.fdiv (2 ^ (min (IntKind.i64.wrap (8 * i8)).toNat IntKind.u64.bits))))]=r11:=(hr11.trans (by simp[List.map_append,List.map_take,List.map_drop,irow,brow,zAG,List.map_cons,List.map_nil,zAC,Nd.encs_eq,Nd.enc,CV.encs_eq,CV.enc])).symm;obtain⟨hq,h⟩:=zAK h
      refine And.intro (show(((List.map brow) l9).length+((List.map brow) [b8of (IntKind.u8.wrap (y3.fdiv (2 ^ (min (IntKind.i64.wrap (8 * i8)).toNat IntKind.u64.bits))))]).length) * 1<=140737488355328/\((List.map brow) l9).length+((List.map brow) [b8of (IntKind.u8.wrap (y3.fdiv (2 ^ (min (IntKind.i64.wrap (8 * i8)).toNat IntKind.u64.bits))))]).length<=9223372036854775807 from by simp only[List.length_append,List.length_cons,List.length_nil,List.length_map,rlen (fun _=>rfl)]at hq ⊢; omega) ?_;show Tri ..
      refine zAk (Le.rnm [(2,1)] [(0,.orow 1),(5,.s (.int .u64 y3)),(7,.s (.int .i64 i8))] [(1,.row 5 1 ((List.map brow) (l9++[b8of (IntKind.u8.wrap (y3.fdiv (2 ^ (min (IntKind.i64.wrap (8 * i8)).toNat IntKind.u64.bits))))])))] 2 ⟨rfl,rfl,rfl,trivial⟩ ⟨rfl,⟨_,rfl,congrArg (Ob.row 5 1) (by simp[List.map_append,List.map_take,List.map_drop,irow,brow,zAG,List.map_cons,List.map_nil,zAC,Nd.encs_eq,Nd.enc,CV.encs_eq,CV.enc])⟩,trivial⟩) ?_;refine zAb [] [] rfl ?_
      refine⟨(k,IntKind.i64.wrap (i8 - 1),l9++[b8of (IntKind.u8.wrap (y3.fdiv (2 ^ (min (IntKind.i64.wrap (8 * i8)).toNat IntKind.u64.bits))))]),h,(Le.rnm [(1,1)] _ _ _ ⟨rfl,rfl,rfl,trivial⟩ ⟨rfl,⟨_,rfl,rfl⟩,trivial⟩),Nat.lt_succ_self k⟩
     ·refine zAI ?_;cases h;exact(Le.rnm [(1,1)] _ _ _ ⟨rfl,trivial⟩ ⟨rfl,⟨_,rfl,rfl⟩,trivial⟩)
  ·show Tri ..;refine zAk hle ?_;refine zYe [] [] rfl ?_;show Tri ..;refine zAe ?_;have hy:=Option.some.inj h;subst hy;unfold zBp;exact⟨_,(Le.rnm [(1,1)] [(4,.orow 1)] [(1,.row 5 1 ((List.map brow) l10))] 2 ⟨rfl,trivial⟩ ⟨rfl,⟨_,rfl,rfl⟩,trivial⟩),rfl,rfl,rfl,rfl,trivial⟩
def zD2 (n:Nat) (xs:List AV) (os:List Ob) (x:AV) (os':List (Option Ob)):Prop:=∃ (a0:List UInt8) (a1:CV) (y0:List UInt8),zDg n a0 a1=some y0/\xs=[.orow 0,.s (.pt (CV.enc a1))]/\os=[.row 5 1 ((List.map brow) a0)]/\x = .orow 1/\os'=[none,some (.row 5 1 ((List.map brow) y0))]
theorem zLb (n:Nat) (ih:PSound Tryz.prog 57 (zC8 (zD2 n) (some 0))):PSound Tryz.prog 57 (zC8 (zD2 (n+1)) (some 0)):=by
 have gok:∀ f s,look? f [(100,zLf),(57,zC8 (zD2 n) (some 0))]=some s->PSound Tryz.prog f s:=zAt (by
  simp only[List.forall_mem_cons]
  exact⟨zPT,ih,by simp⟩)
 refine PSound.withNil (zFn tokW Tryz.call57 Tryz.func57 rfl (fun xs os x os' h=>by obtain⟨_,_,_,_,rfl,rfl,_,rfl⟩:=h; exact⟨by show 2<=50; decide,by show 1<=2; decide⟩) 50 rfl ?_) _;rintro xs os x os' w0 G0 B0 ⟨b1,⟨v2A,v2L,v2B,v2K⟩,y0,h,rfl,rfl,rfl,rfl⟩ _;rw[zDg]at h;refine zYe [4] [] rfl ?_;show Tri ..;refine zAk (Le.rnm [(0,0)] [(0,.orow 0),(1,.s (.pt [.int .i64 v2A,.int .i64 v2L,.str v2B,.sl 4 (CV.encs v2K)]))] [(0,.row 5 1 ((List.map brow) b1))] 1 ⟨rfl,rfl,trivial⟩ ⟨rfl,⟨_,rfl,rfl⟩,trivial⟩) ?_;refine zYe [8] [] rfl ?_
 obtain⟨y3,hy3,h⟩:=zAc h;refine⟨_,_,⟨_,_,_,_,hy3,rfl,rfl,rfl,rfl⟩,?_⟩
 show Tri ..;refine zAa ?_;refine zYe [] [] rfl ?_;show Tri ..;refine zAh rfl h (fun hb h=>?_) (fun hb h=>?_)
 ·refine zYe [21] [] rfl ?_;obtain⟨hq,h⟩:=zAK h;refine And.intro hq ?_;obtain⟨hq,h⟩:=zAK h;refine And.intro (show(((List.map brow) y3).length+(List.map brow ((v2B.take (1048577:Int).toNat).drop (0:Int).toNat)).length) * 1<=140737488355328/\((List.map brow) y3).length+(List.map brow ((v2B.take (1048577:Int).toNat).drop (0:Int).toNat)).length<=9223372036854775807 from by simp only[List.length_append,List.length_cons,List.length_nil,List.length_map,rlen (fun _=>rfl)]at hq ⊢; omega) ?_;show Tri ..
  refine zAk (Le.rnm [(2,1)] [(4,.orow 1)] [(1,.row 5 1 ((List.map brow) (y3++((v2B.take (1048577:Int).toNat).drop (0:Int).toNat))))] 2 ⟨rfl,trivial⟩ ⟨rfl,⟨_,rfl,congrArg (Ob.row 5 1) (by simp[List.map_append,List.map_take,List.map_drop,irow,brow,zAG,List.map_cons,List.map_nil,zAC,Nd.encs_eq,Nd.enc,CV.encs_eq,CV.enc])⟩,trivial⟩) ?_;refine zAe ?_;have hy:=Option.some.inj h;subst hy;unfold zBp;exact⟨_,(Le.rnm [(1,1)] [(4,.orow 1)] [(1,.row 5 1 ((List.map brow) (y3++((v2B.take (1048577:Int).toNat).drop (0:Int).toNat))))] 2 ⟨rfl,trivial⟩ ⟨rfl,⟨_,rfl,rfl⟩,trivial⟩),rfl,rfl,rfl,rfl,trivial⟩
 ·refine zAf ?_;show Tri ..;refine zYe [27] [] rfl ?_;obtain⟨hq,h⟩:=zAK h;refine And.intro (show(((List.map brow) y3).length+(List.map brow v2B).length) * 1<=140737488355328/\((List.map brow) y3).length+(List.map brow v2B).length<=9223372036854775807 from by simp only[List.length_append,List.length_cons,List.length_nil,List.length_map,rlen (fun _=>rfl)]at hq ⊢; omega) ?_;show Tri ..
  refine zAk (Le.rnm [(2,1)] [(0,.orow 1),(1,.s (.pt [.int .i64 v2A,.int .i64 v2L,.str v2B,.sl 4 (CV.encs v2K)]))] [(1,.row 5 1 ((List.map brow) (y3++v2B)))] 2 ⟨rfl,rfl,trivial⟩ ⟨rfl,⟨_,rfl,congrArg (Ob.row 5 1) (by simp[List.map_append,List.map_take,List.map_drop,irow,brow,zAG,List.map_cons,List.map_nil,zAC,Nd.encs_eq,Nd.enc,CV.encs_eq,CV.enc])⟩,trivial⟩) ?_;refine zAa ?_;refine zYe [] [32] rfl ?_;intro n4 hn4;obtain rfl:(v2K.length:Int)=n4:=(hn4.trans (congrArg (fun m:Nat=>(m:Int)) (rlen CV.encs_eq v2K))).symm;show Tri ..;obtain⟨fl,hl,ho1⟩:=zAc h
  refine zBt (fl:=fl) (fun z=>match z with | l8=>⟨ofL [(0,.orow 1)],ofH [(1,.row 5 1 ((List.map brow) l8))],2⟩) ?_ (fun l8 σ' hz hle=>?_)
  ·refine zAl (zAF (X:=Nat×Int×(List UInt8)) (fun y=>match y with | (k,x6,l7)=>⟨ofL [(0,.orow 1),(1,.s (.pt [.int .i64 v2A,.int .i64 v2L,.str v2B,.sl 4 (CV.encs v2K)])),(32,.s (.int .i64 (v2K.length:Int))),(33,.s (.int .i64 x6))],ofH [(1,.row 5 1 ((List.map brow) l7))],2⟩) (fun y=>zCN (zDg n) v2K y.1 y.2.1 y.2.2=some fl) (fun y=>y.1) (n,0,y3++v2B) hl ?_ ?_)
   ·exact(Le.rnm [(1,1)] _ _ _ ⟨rfl,rfl,rfl,rfl,trivial⟩ ⟨rfl,⟨_,rfl,rfl⟩,trivial⟩)
   ·rintro⟨k,x6,l7⟩ h;cases k with
    | zero=>cases h
    | succ k =>
     replace h:zCN (zDg n) v2K (k+1) x6 l7=some fl:=h;rw[zCN]at h;refine zYe [] [] rfl ?_;show Tri ..;refine zAa ?_;refine zAh rfl h (fun hb h=>?_) (fun hb h=>?_)
     ·refine zAf ?_;show Tri ..;refine zAa ?_;refine zAl ?_;refine zYe [] [] rfl ?_;show Tri ..;refine zAa ?_;refine zYe [] [37] rfl ?_;intro n9 hn9;obtain rfl:(l7.length:Int)=n9:=(hn9.trans (congrArg (fun m:Nat=>(m:Int)) (rlen (fun _=>rfl) l7))).symm;show Tri ..;refine zAh rfl h (fun hb h=>?_) (fun hb h=>?_)
      ·refine zYe [] [] rfl ?_;show Tri ..;refine zAe ?_;cases h;replace h:some _=some _:=ho1;have hy:=Option.some.inj h;subst hy;unfold zBp;exact⟨_,(Le.rnm [(1,1)] [(4,.orow 1)] [(1,.row 5 1 ((List.map brow) l7))] 2 ⟨rfl,trivial⟩ ⟨rfl,⟨_,rfl,rfl⟩,trivial⟩),rfl,rfl,rfl,rfl,trivial⟩
      ·refine zAf ?_;show Tri ..;refine zAb [47] [46] rfl ?_;obtain⟨⟨e10A,e10L,e10B,e10K⟩,he10,h⟩:=zAc h;refine And.intro (zAB CV.encs_eq he10).1 ?_;intro r11 hr11;obtain rfl:[.int .i64 e10A,.int .i64 e10L,.str e10B,.sl 4 (CV.encs e10K)]=r11:=(hr11.trans (zAB CV.encs_eq he10).2.1).symm;obtain⟨y12,hy12,h⟩:=zAc h;refine⟨_,_,⟨_,_,_,hy12,rfl,rfl,rfl,rfl⟩,?_⟩
       show Tri ..;refine zAb [] [] rfl ?_;refine⟨(k,IntKind.i64.wrap (x6+1),y12),h,(Le.rnm [(2,1)] _ _ _ ⟨rfl,rfl,rfl,rfl,trivial⟩ ⟨rfl,⟨_,rfl,rfl⟩,trivial⟩),Nat.lt_succ_self k⟩
     ·refine zAI ?_;cases h;exact⟨_,rfl,(Le.rnm [(1,1)] _ _ _ ⟨rfl,trivial⟩ ⟨rfl,⟨_,rfl,rfl⟩,trivial⟩)⟩
  ·subst hz;replace h:=ho1;show Tri ..;refine zAk hle ?_;refine zYe [] [] rfl ?_;show Tri ..;refine zAe ?_;have hy:=Option.some.inj h;subst hy;unfold zBp;exact⟨_,(Le.rnm [(1,1)] [(4,.orow 1)] [(1,.row 5 1 ((List.map brow) l8))] 2 ⟨rfl,trivial⟩ ⟨rfl,⟨_,rfl,rfl⟩,trivial⟩),rfl,rfl,rfl,rfl,trivial⟩
theorem zLS:∀ n,PSound Tryz.prog 57 (zC8 (zD2 n) (some 0)):=by
 intro n
 induction n with
 | zero=>exact zNh Tryz.call57 (fun xs os x os' h=>by obtain⟨_,_,_,h,_⟩:=h; cases h) _
 | succ n ih=>exact zLb n ih
def zI8:zAz:=zC8 (fun xs os x os'=>∃ n,zD2 n xs os x os') (some 0)
theorem zM2:PSound Tryz.prog 57 zI8:=zOU zLS _
def zNH (n:Nat) (xs:List AV) (r:Ret):Prop:=∃ (a0:CV) (y0:List UInt8) (y1:Int),zGN n a0=some (y0,y1)/\xs=[.agg ((CV.enc a0).map .s)]/\r = .val (.tup [.s (.sl 1 ((List.map brow) y0)),.s (.int .i64 y1)])
def zI7:zAz:=zAy fun xs r=>∃ n,zNH n xs r
theorem zM1:PSound Tryz.prog 26 zI7:=by
 have gok:∀ f s,look? f [(56,zJ8),(57,zI8)]=some s->PSound Tryz.prog f s:=zAt (by
  simp only[List.forall_mem_cons]
  exact⟨zN3,zM2,by simp⟩)
 refine zAA tokW Tryz.call26 Tryz.func26 rfl (fun xs r h=>by obtain⟨n,_,_,_,_,rfl,_⟩:=h; show 1<=13; decide) 13 rfl ?_;rintro xs r w0 G0 ⟨n,⟨v1A,v1L,v1B,v1K⟩,y0,y1,h,rfl,rfl⟩ _;rw[zGN]at h;refine zYe [] [] rfl ?_;show Tri ..;refine zAa ?_;refine zYe [] [] rfl ?_;obtain⟨y2,hy2,h⟩:=zAc h;refine⟨_,⟨_,_,_,hy2,rfl,rfl⟩,?_⟩
 show Tri ..;refine zAh rfl h (fun hb h=>?_) (fun hb h=>?_)
 ·refine zYe [] [] rfl ?_;show Tri ..;refine zAe ?_;obtain⟨hj1,hk1⟩:=pij h;subst hj1 hk1;unfold zAw;exact⟨_,Le.refl _ _,rfl,rfl⟩
 ·refine zAf ?_;show Tri ..;refine zYe [] [] rfl ?_;obtain⟨y3,hy3,h⟩:=zAc h;refine⟨_,_,⟨_,_,_,_,hy3,rfl,rfl,rfl,rfl⟩,?_⟩
  show Tri ..;refine zAa ?_;refine zYe [] [10] rfl ?_;intro n4 hn4;obtain rfl:(y3.length:Int)=n4:=(hn4.trans (congrArg (fun m:Nat=>(m:Int)) (rlen (fun _=>rfl) y3))).symm;show Tri ..;refine zAh rfl h (fun hb h=>?_) (fun hb h=>?_)
  ·refine zYe [] [] rfl ?_;show Tri ..;refine zAe ?_;obtain⟨hj1,hk1⟩:=pij h;subst hj1 hk1;unfold zAw;exact⟨_,Le.refl _ _,rfl,rfl⟩
  ·refine zAf ?_;show Tri ..;refine zYe [] [] rfl ?_;show Tri ..;refine zAe ?_;obtain⟨hj1,hk1⟩:=pij h;subst hj1 hk1;unfold zAw;exact⟨_,(Le.trans (Le.rnm [(1,0)] [(2,.orow 0),(3,.s (.int .i64 0))] [(0,.row 5 1 ((List.map brow) y3))] 1 ⟨rfl,rfl,trivial⟩ ⟨rfl,⟨_,rfl,rfl⟩,trivial⟩) (Le.giveRow 0 rfl)),rfl,rfl⟩
def zAu (p:(List UInt8)):List S:=[.sl 1 ((List.map brow) p)]
def zMf (n:Nat) (xs:List AV) (r:Ret):Prop:=∃ (a0:Int) (a1:List UInt8) (y0:Int),zGb n a0 a1=some y0/\xs=[.s (.int .u64 a0),.s (.sl 1 ((List.map brow) a1))]/\r = .val (.s (.int .u64 y0))
def zH5:zAz:=zAy fun xs r=>∃ n,zMf n xs r
theorem zLW:PSound Tryz.prog 64 zH5:=by
 have gok:=@gok0 Tryz.prog;refine zAA tokW Tryz.call64 Tryz.func64 rfl (fun xs r h=>by obtain⟨n,_,_,_,_,rfl,_⟩:=h; show 2<=20; decide) 20 rfl ?_;rintro xs r w0 G0 ⟨n,h1,b2,y0,h,rfl,rfl⟩ _;rw[zGb]at h;refine zYe [] [] rfl ?_;show Tri ..;refine zAa ?_;refine zYe [] [8] rfl ?_;intro n3 hn3;obtain rfl:(b2.length:Int)=n3:=(hn3.trans (congrArg (fun m:Nat=>(m:Int)) (rlen (fun _=>rfl) b2))).symm;show Tri ..;obtain⟨h6,hl,h⟩:=zAc h;refine zAv ⟨ofL [(0,.s (.int .u64 h6))],fun _=>none,0⟩ ?_ (fun σ' hle=>?_)
 ·refine zAl (zAF (X:=Nat×Int×Int) (fun y=>match y with | (k,h4,x5)=>⟨ofL [(0,.s (.int .u64 h4)),(7,.s (.sl 1 ((List.map brow) b2))),(8,.s (.int .i64 (b2.length:Int))),(9,.s (.int .i64 x5))],fun _=>none,0⟩) (fun y=>zCw b2 y.1 y.2.1 y.2.2=some h6) (fun y=>y.1) (n,h1,0) hl ?_ ?_)
  ·exact(Le.forget _ ⟨rfl,rfl,rfl,rfl,trivial⟩)
  ·rintro⟨k,h4,x5⟩ h;cases k with
   | zero=>cases h
   | succ k =>
    replace h:zCw b2 (k+1) h4 x5=some h6:=h;rw[zCw]at h;refine zYe [] [] rfl ?_;show Tri ..;refine zAa ?_;refine zAh rfl h (fun hb h=>?_) (fun hb h=>?_)
    ·refine zAf ?_;show Tri ..;refine zAa ?_;refine zAl ?_;refine zYe [] [11] rfl ?_;obtain⟨e7,he7,h⟩:=zAc h;refine And.intro (zAB (fun _=>rfl) he7).1 ?_;intro r8 hr8;obtain rfl:[.int .u8 (e7.toNat:Int)]=r8:=(hr8.trans (zAB (fun _=>rfl) he7).2.1).symm;show Tri ..;refine zAb [] [] rfl ?_;show Tri ..;refine zAb [] [] rfl ?_;refine⟨(k,IntKind.u64.wrap ((zKU .xor .u64 h4 (IntKind.u64.wrap (e7.toNat:Int))) * 1099511628211),IntKind.i64.wrap (x5+1)),h,(Le.forget _ ⟨rfl,rfl,rfl,rfl,trivial⟩),Nat.lt_succ_self k⟩
    ·refine zAI ?_;cases h;exact(Le.forget _ ⟨rfl,trivial⟩)
 ·show Tri ..;refine zAk hle ?_;refine zYe [] [] rfl ?_;show Tri ..;refine zAe ?_;have hy:=Option.some.inj h;subst hy;unfold zAw;exact⟨_,Le.refl _ _,rfl,rfl⟩
def zNJ (n:Nat) (xs:List AV) (r:Ret):Prop:=∃ (a0:List UInt8) (y0:Int),zGP n a0=some y0/\xs=[.s (.sl 1 ((List.map brow) a0))]/\r = .val (.s (.int .u64 y0))
def zJa:zAz:=zAy fun xs r=>∃ n,zNJ n xs r
theorem zM5:PSound Tryz.prog 28 zJa:=by
 have gok:∀ f s,look? f [(64,zH5)]=some s->PSound Tryz.prog f s:=zAt (by
  simp only[List.forall_mem_cons]
  exact⟨zLW,by simp⟩)
 refine zAA tokW Tryz.call28 Tryz.func28 rfl (fun xs r h=>by obtain⟨n,_,_,_,rfl,_⟩:=h; show 1<=5; decide) 5 rfl ?_;rintro xs r w0 G0 ⟨n,b1,y0,h,rfl,rfl⟩ _;rw[zGP]at h;refine zYe [] [] rfl ?_;show Tri ..;refine zYe [] [] rfl ?_;obtain⟨y2,hy2,h⟩:=zAc h;refine⟨_,⟨_,_,_,_,hy2,rfl,rfl⟩,?_⟩
 show Tri ..;refine zAe ?_;have hy:=Option.some.inj h;subst hy;unfold zAw;exact⟨_,Le.refl _ _,rfl,rfl⟩
def zPn (n:Nat) (xs:List AV) (r:Ret):Prop:=∃ (a0:List UInt8) (y0:Bool),zEB n a0=some y0/\xs=[.s (.str a0)]/\r = .val (.s (.bool y0))
def zKc:zAz:=zAy fun xs r=>∃ n,zPn n xs r
theorem zN7:PSound Tryz.prog 72 zKc:=by
 have gok:=@gok0 Tryz.prog;refine zAA tokW Tryz.call72 Tryz.func72 rfl (fun xs r h=>by obtain⟨n,_,_,_,rfl,_⟩:=h; show 1<=23; decide) 23 rfl ?_;rintro xs r w0 G0 ⟨n,s1,y0,h,rfl,rfl⟩ _;rw[zEB]at h;refine zYe [] [] rfl ?_;show Tri ..;refine zAa ?_;refine zYe [] [] rfl ?_;show Tri ..;obtain⟨fl,hl,ho1⟩:=zAc h;refine zBt (fl:=fl) (fun z=>match z with | _=>⟨ofL [(0,.s (.str s1))],fun _=>none,0⟩) ?_ (fun z σ' hz hle=>?_)
 ·refine zAl (zAF (X:=Nat×Int) (fun y=>match y with | (k,i2)=>⟨ofL [(0,.s (.str s1)),(3,.s (.int .i64 i2))],fun _=>none,0⟩) (fun y=>zBy s1 y.1 y.2=some fl) (fun y=>y.1) (n,0) hl ?_ ?_)
  ·exact(Le.forget _ ⟨rfl,rfl,trivial⟩)
  ·rintro⟨k,i2⟩ h;cases k with
   | zero=>cases h
   | succ k =>
    replace h:zBy s1 (k+1) i2=some fl:=h;rw[zBy]at h;refine zAa ?_;refine zYe [] [] rfl ?_;show Tri ..;refine zAh rfl h (fun hb h=>?_) (fun hb h=>?_)
    ·refine zAf ?_;show Tri ..;refine zAa ?_;refine zAl ?_;refine zAa ?_;obtain⟨x3,hj,h⟩:=zAc h;refine zAv ⟨ofL [(0,.s (.str s1)),(3,.s (.int .i64 i2)),(19,.s (.bool x3))],fun _=>none,0⟩ ?_ (fun σ' hle=>?_)
     ·replace h:=hj;refine zAb [] [12,14,17] rfl ?_;obtain⟨c4,hc4,h⟩:=zAc h;refine And.intro (zBJ hc4).1 ?_;intro v5 hv5;obtain rfl:(c4.toNat:Int)=v5:=(hv5.trans (zBJ hc4).2).symm;intro b hb;cases b with
      | true =>
       replace h:=zAE hb.symm h;cases h;exact(Le.forget _ ⟨rfl,rfl,rfl,trivial⟩)
      | false =>
       replace h:=zAD hb.symm h;obtain⟨c6,hc6,h⟩:=zAc h;refine And.intro (zBJ hc6).1 ?_;intro v7 hv7;obtain rfl:(c6.toNat:Int)=v7:=(hv7.trans (zBJ hc6).2).symm;cases h;exact(Le.forget _ ⟨rfl,rfl,rfl,trivial⟩)
     ·show Tri ..;refine zAk hle ?_;refine zAh rfl h (fun hb h=>?_) (fun hb h=>?_)
      ·refine zYe [] [] rfl ?_;show Tri ..;refine zAe ?_;cases h;replace h:some _=some _:=ho1;have hy:=Option.some.inj h;subst hy;unfold zAw;exact⟨_,Le.refl _ _,rfl,rfl⟩
      ·refine zAf ?_;show Tri ..;refine zAb [] [] rfl ?_;refine⟨(k,IntKind.i64.wrap (i2+1)),h,(Le.forget _ ⟨rfl,rfl,trivial⟩),Nat.lt_succ_self k⟩
    ·refine zAI ?_;cases h;exact⟨_,rfl,(Le.forget _ ⟨rfl,trivial⟩)⟩
 ·subst hz;obtain _:=z;replace h:=ho1;show Tri ..;refine zAk hle ?_;refine zYe [] [] rfl ?_;show Tri ..;refine zAe ?_;have hy:=Option.some.inj h;subst hy;unfold zAw;exact⟨_,Le.refl _ _,rfl,rfl⟩
def zPt (n:Nat) (xs:List AV) (r:Ret):Prop:=∃ (a0:Nd) (a1:List Int) (y0:Bool),zEF n a0 a1=some y0/\xs=[.agg ((Nd.enc a0).map .s),.s (.sl 1 ((List.map (irow .i64)) a1))]/\r = .val (.s (.bool y0))
def zKh:zAz:=zAy fun xs r=>∃ n,zPt n xs r
theorem zOc:PSound Tryz.prog 149 zKh:=by
 have gok:=@gok0 Tryz.prog;refine zAA tokW Tryz.call149 Tryz.func149 rfl (fun xs r h=>by obtain⟨n,_,_,_,_,rfl,_⟩:=h; show 2<=77; decide) 77 rfl ?_;rintro xs r w0 G0 ⟨n,⟨a1A,a1B,a1D,a1C⟩,a2,y0,h,rfl,rfl⟩ _;rw[zEF]at h;refine zYe [] [] rfl ?_;show Tri ..;refine zYe [] [] rfl ?_;show Tri ..;refine zAa ?_;obtain⟨fl,hl,ho1⟩:=zAc h
 refine zBt (fl:=fl) (fun z=>match z with | ⟨x5,⟨x6A,x6B,x6D,x6C⟩⟩=>⟨ofL [(1,.s (.sl 1 ((List.map (irow .i64)) x5))),(5,.s (.pt [.int .i64 x6A,.str x6B,.int .i64 x6D,.sl 4 (Nd.encs x6C)]))],fun _=>none,0⟩) ?_ (fun z σ' hz hle=>?_)
 ·refine zAl (zAF (X:=Nat×(List Int)×Nd) (fun y=>match y with | (k,x3,⟨x4A,x4B,x4D,x4C⟩)=>⟨ofL [(1,.s (.sl 1 ((List.map (irow .i64)) x3))),(5,.s (.pt [.int .i64 x4A,.str x4B,.int .i64 x4D,.sl 4 (Nd.encs x4C)]))],fun _=>none,0⟩) (fun y=>zBW  y.1 y.2.1 y.2.2=some fl) (fun y=>y.1) (n,a2,Nd.mk a1A a1B a1D a1C) hl ?_ ?_)
  ·exact(Le.forget _ ⟨rfl,rfl,trivial⟩)
  ·rintro⟨k,x3,⟨x4A,x4B,x4D,x4C⟩⟩ h;cases k with
   | zero=>cases h
   | succ k =>
    replace h:zBW  (k+1) x3 ⟨x4A,x4B,x4D,x4C⟩=some fl:=h;rw[zBW]at h;refine zAa ?_;refine zYe [] [9] rfl ?_;intro n7 hn7;obtain rfl:(x3.length:Int)=n7:=(hn7.trans (congrArg (fun m:Nat=>(m:Int)) (rlen (fun _=>rfl) x3))).symm;show Tri ..;refine zAh rfl h (fun hb h=>?_) (fun hb h=>?_)
    ·refine zAf ?_;show Tri ..;refine zAa ?_;refine zAl ?_;refine zAa ?_;refine zAQ [] [14,17] [] rfl (by decide +kernel) ?_;obtain⟨e8,he8,h⟩:=zAc h;refine And.intro (zAB (fun _=>rfl) he8).1 ?_;intro r9 hr9;obtain rfl:[.int .i64 e8]=r9:=(hr9.trans (zAB (fun _=>rfl) he8).2.1).symm;obtain⟨e10,he10,h⟩:=zAc h;refine And.intro (zAB (fun _=>rfl) he10).1 ?_;intro r11 hr11;obtain rfl:[.int .i64 e10]=r11:=(hr11.trans (zAB (fun _=>rfl) he10).2.1).symm;show Tri ..;refine zAa ?_;refine zAa ?_;obtain⟨x12,hj,h⟩:=zAc h
     refine zAv ⟨ofL [(1,.s (.sl 1 ((List.map (irow .i64)) x3))),(5,.s (.pt [.int .i64 x4A,.str x4B,.int .i64 x4D,.sl 4 (Nd.encs x4C)])),(6,.s (.int .i64 e8)),(7,.s (.int .i64 e10)),(46,.s (.bool x12))],fun _=>none,0⟩ ?_ (fun σ' hle=>?_)
     ·replace h:=hj;refine zAb [] [21,27,30,34,41,44] rfl ?_;intro b hb;cases b with
      | true =>
       replace h:=zAE hb.symm h;intro b hb;subst hb;intro b hb;subst hb;cases h;exact(Le.forget _ ⟨rfl,rfl,rfl,rfl,rfl,trivial⟩)
      | false =>
       replace h:=zAD hb.symm h;intro n13 hn13;obtain rfl:(x4C.length:Int)=n13:=(hn13.trans (congrArg (fun m:Nat=>(m:Int)) (rlen Nd.encs_eq x4C))).symm;intro b hb;cases b with
       | true =>
        replace h:=zAE hb.symm h;intro b hb;subst hb;cases h;exact(Le.forget _ ⟨rfl,rfl,rfl,rfl,rfl,trivial⟩)
       | false =>
        replace h:=zAD hb.symm h;intro b hb;cases b with
        | true =>
         replace h:=zAE hb.symm h;cases h;exact(Le.forget _ ⟨rfl,rfl,rfl,rfl,rfl,trivial⟩)
        | false =>
         replace h:=zAD hb.symm h;obtain⟨⟨e14A,e14B,e14D,e14C⟩,he14,h⟩:=zAc h;refine And.intro (zAB Nd.encs_eq he14).1 ?_;intro r15 hr15;obtain rfl:[.int .i64 e14A,.str e14B,.int .i64 e14D,.sl 4 (Nd.encs e14C)]=r15:=(hr15.trans (zAB Nd.encs_eq he14).2.1).symm;intro n16 hn16;obtain rfl:(e14C.length:Int)=n16:=(hn16.trans (congrArg (fun m:Nat=>(m:Int)) (rlen Nd.encs_eq e14C))).symm;cases h;exact(Le.forget _ ⟨rfl,rfl,rfl,rfl,rfl,trivial⟩)
     ·show Tri ..;refine zAk hle ?_;refine zAh rfl h (fun hb h=>?_) (fun hb h=>?_)
      ·refine zYe [] [] rfl ?_;show Tri ..;refine zAe ?_;cases h;replace h:some _=some _:=ho1;have hy:=Option.some.inj h;subst hy;unfold zAw;exact⟨_,Le.refl _ _,rfl,rfl⟩
      ·refine zAf ?_;show Tri ..;refine zAb [] [52,56] rfl ?_;obtain⟨⟨e17A,e17B,e17D,e17C⟩,he17,h⟩:=zAc h;refine And.intro (zAB Nd.encs_eq he17).1 ?_;intro r18 hr18;obtain rfl:[.int .i64 e17A,.str e17B,.int .i64 e17D,.sl 4 (Nd.encs e17C)]=r18:=(hr18.trans (zAB Nd.encs_eq he17).2.1).symm;obtain⟨⟨e19A,e19B,e19D,e19C⟩,he19,h⟩:=zAc h;refine And.intro (zAB Nd.encs_eq he19).1 ?_;intro r20 hr20;obtain rfl:[.int .i64 e19A,.str e19B,.int .i64 e19D,.sl 4 (Nd.encs e19C)]=r20:=(hr20.trans (zAB Nd.encs_eq he19).2.1).symm;show Tri ..;refine zAb [] [12] rfl ?_
       obtain⟨hq,h⟩:=zAK h;refine And.intro ⟨hq.1,Int.le_trans hq.2.1 (Int.ofNat_le.2 (Nat.le_of_eq (rlen (fun _=>rfl) _).symm)),Int.le_refl _⟩ ?_;intro r21 hr21;obtain rfl:(List.map (irow .i64)) ((x3.take (x3.length:Int).toNat).drop (2:Int).toNat)=r21:=(hr21.trans ((congrArg (fun m:Nat=>(((List.map (irow .i64)) x3).take m).drop (2:Int).toNat) (rlen (fun _=>rfl) _)).trans (rcut (fun _=>rfl) _ _ _))).symm;refine⟨(k,(x3.take (x3.length:Int).toNat).drop (2:Int).toNat,Nd.mk e19A e19B e19D e19C),h,(Le.forget _ ⟨rfl,rfl,trivial⟩),Nat.lt_succ_self k⟩
    ·refine zAI ?_;cases h;exact⟨_,rfl,(Le.forget _ ⟨rfl,rfl,trivial⟩)⟩
 ·subst hz;obtain⟨x5,⟨x6A,x6B,x6D,x6C⟩⟩:=z;replace h:=ho1;show Tri ..;refine zAk hle ?_;refine zAa ?_;obtain⟨x22,hj,h⟩:=zAc h;refine zAv ⟨ofL [(4,.s (.bool x22))],fun _=>none,0⟩ ?_ (fun σ' hle=>?_)
  ·replace h:=hj;refine zAQ [] [58,60,62,66,68,74] [] rfl (by decide +kernel) ?_;intro n23 hn23;obtain rfl:(x5.length:Int)=n23:=(hn23.trans (congrArg (fun m:Nat=>(m:Int)) (rlen (fun _=>rfl) x5))).symm;intro b hb;cases b with
   | true =>
    replace h:=zAE hb.symm h;obtain⟨e24,he24,h⟩:=zAc h;refine And.intro (zAB (fun _=>rfl) he24).1 ?_;intro r25 hr25;obtain rfl:[.int .i64 e24]=r25:=(hr25.trans (zAB (fun _=>rfl) he24).2.1).symm;intro b hb;cases b with
    | true =>
     replace h:=zAE hb.symm h;obtain⟨e26,he26,h⟩:=zAc h;refine And.intro (zAB (fun _=>rfl) he26).1 ?_;intro r27 hr27;obtain rfl:[.int .i64 e26]=r27:=(hr27.trans (zAB (fun _=>rfl) he26).2.1).symm;intro n28 hn28;obtain rfl:(x6C.length:Int)=n28:=(hn28.trans (congrArg (fun m:Nat=>(m:Int)) (rlen Nd.encs_eq x6C))).symm;cases h;exact(Le.forget _ ⟨rfl,trivial⟩)
    | false =>
     replace h:=zAD hb.symm h;cases h;exact(Le.forget _ ⟨rfl,trivial⟩)
   | false =>
    replace h:=zAD hb.symm h;intro b hb;subst hb;cases h;exact(Le.forget _ ⟨rfl,trivial⟩)
  ·show Tri ..;refine zAk hle ?_;refine zAe ?_;have hy:=Option.some.inj h;subst hy;unfold zAw;exact⟨_,Le.refl _ _,rfl,rfl⟩
def zLP (n:Nat) (xs:List AV) (r:Ret):Prop:=∃ (a0:Nd) (a1:List Int) (y0:Bool),zCp n a0 a1=some y0/\xs=[.agg ((Nd.enc a0).map .s),.s (.sl 1 ((List.map (irow .i64)) a1))]/\r = .val (.s (.bool y0))
def zHL:zAz:=zAy fun xs r=>∃ n,zLP n xs r
theorem zK3:PSound Tryz.prog 112 zHL:=by
 have gok:∀ f s,look? f [(73,zCs),(149,zKh)]=some s->PSound Tryz.prog f s:=zAt (by
  simp only[List.forall_mem_cons]
  exact⟨zCA,zOc,by simp⟩)
 refine zAA tokW Tryz.call112 Tryz.func112 rfl (fun xs r h=>by obtain⟨n,_,_,_,_,rfl,_⟩:=h; show 2<=12; decide) 12 rfl ?_;rintro xs r w0 G0 ⟨n,⟨n1A,n1B,n1D,n1C⟩,pos2,y0,h,rfl,rfl⟩ _;rw[zCp]at h;refine zYe [] [] rfl ?_;show Tri ..;refine zAa ?_;obtain⟨x3,hj,h⟩:=zAc h;refine zAv ⟨ofL [(4,.s (.bool x3))],fun _=>none,0⟩ ?_ (fun σ' hle=>?_)
 ·replace h:=hj;refine zAb [] [7] rfl ?_;obtain⟨y4,hy4,h⟩:=zAc h;refine⟨_,⟨_,_,_,hy4,rfl,rfl⟩,?_⟩
  intro b hb;cases b with
  | true =>
   replace h:=zAE hb.symm h;obtain⟨y5,hy5,h⟩:=zAc h;refine⟨_,⟨_,_,_,_,hy5,rfl,rfl⟩,?_⟩
   cases h;exact(Le.forget _ ⟨rfl,trivial⟩)
  | false =>
   replace h:=zAD hb.symm h;cases h;exact(Le.forget _ ⟨rfl,trivial⟩)
 ·show Tri ..;refine zAk hle ?_;refine zAe ?_;have hy:=Option.some.inj h;subst hy;unfold zAw;exact⟨_,Le.refl _ _,rfl,rfl⟩
def zAs (p:zCu):List S:=[.sl 1 ((List.map (irow .i64)) p.1),.sl 1 ((List.map (irow .i64)) p.2)]
def zNN (n:Nat) (xs:List AV) (r:Ret):Prop:=∃ (a0:Nd) (a1:zCu) (y0:Bool),zCD n a0 a1=some y0/\xs=[.agg ((Nd.enc a0).map .s),.agg ((zAs a1).map .s)]/\r = .val (.s (.bool y0))
def zJd:zAz:=zAy fun xs r=>∃ n,zNN n xs r
theorem zM8:PSound Tryz.prog 75 zJd:=by
 have gok:∀ f s,look? f [(112,zHL)]=some s->PSound Tryz.prog f s:=zAt (by
  simp only[List.forall_mem_cons]
  exact⟨zK3,by simp⟩)
 refine zAA tokW Tryz.call75 Tryz.func75 rfl (fun xs r h=>by obtain⟨n,_,_,_,_,rfl,_⟩:=h; show 2<=21; decide) 21 rfl ?_;rintro xs r w0 G0 ⟨n,⟨n1A,n1B,n1D,n1C⟩,⟨c2Ao,c2Ak⟩,y0,h,rfl,rfl⟩ _;rw[zCD]at h;refine zYe [] [] rfl ?_;show Tri ..;refine zAa ?_;obtain⟨x3,hj,h⟩:=zAc h;refine zAv ⟨ofL [(4,.s (.bool x3))],fun _=>none,0⟩ ?_ (fun σ' hle=>?_)
 ·replace h:=hj;refine zAb [] [9,12,14] rfl ?_;obtain⟨y4,hy4,h⟩:=zAc h;refine⟨_,⟨_,_,_,_,hy4,rfl,rfl⟩,?_⟩
  intro b hb;cases b with
  | true =>
   replace h:=zAE hb.symm h;intro n5 hn5;obtain rfl:(c2Ak.length:Int)=n5:=(hn5.trans (congrArg (fun m:Nat=>(m:Int)) (rlen (fun _=>rfl) c2Ak))).symm;intro b hb;cases b with
   | true =>
    replace h:=zAE hb.symm h;cases h;exact(Le.forget _ ⟨rfl,trivial⟩)
   | false =>
    replace h:=zAD hb.symm h;obtain⟨y6,hy6,h⟩:=zAc h;refine⟨_,⟨_,_,_,_,hy6,rfl,rfl⟩,?_⟩
    cases h;exact(Le.forget _ ⟨rfl,trivial⟩)
  | false =>
   replace h:=zAD hb.symm h;cases h;exact(Le.forget _ ⟨rfl,trivial⟩)
 ·show Tri ..;refine zAk hle ?_;refine zAe ?_;have hy:=Option.some.inj h;subst hy;unfold zAw;exact⟨_,Le.refl _ _,rfl,rfl⟩
def zAd (p:zRc):List S:=[.sl 8 ((List.map zAi) p.1),.sl 1 ((List.map (irow .i64)) p.2.1.1),.sl 1 ((List.map (irow .i64)) p.2.1.2),.sl 1 ((List.map (irow .i64)) p.2.2.1),.sl 1 ((List.map (irow .i64)) p.2.2.2)]
def zAo:(List UInt8×Nd×List zRc×Int)->List S
| ⟨p_title,⟨p_origin_kind,p_origin_text,p_origin_cols,p_origin_kids⟩,p_records,p_done⟩=>[.str p_title,.int .i64 p_origin_kind,.str p_origin_text,.int .i64 p_origin_cols,.sl 4 (Nd.encs p_origin_kids),.sl 5 ((List.map zAd) p_records),.int .i64 p_done]
def zNO (n:Nat) (xs:List AV) (r:Ret):Prop:=∃ (a0:(List UInt8×Nd×List zRc×Int)) (a1:Int) (y0:Nd) (y1:Bool),zBM n a0 a1=some (y0,y1)/\xs=[.agg ((zAo a0).map .s),.s (.int .i64 a1)]/\r = .val (.tup [.agg ((Nd.enc y0).map .s),.s (.bool y1)])
def zGI:zAz:=zAy fun xs r=>∃ n,zNO n xs r
theorem zIw:PSound Tryz.prog 33 zGI:=by
 have gok:∀ f s,look? f [(72,zKc),(73,zCs),(53,zCX),(74,zDr),(75,zJd)]=some s->PSound Tryz.prog f s:=zAt (by
  simp only[List.forall_mem_cons]
  exact⟨zN7,zCA,zCW,zEa,zM8,by simp⟩)
 refine zAA tokW Tryz.call33 Tryz.func33 rfl (fun xs r h=>by obtain⟨n,_,_,_,_,_,rfl,_⟩:=h; show 2<=88; decide) 88 rfl ?_;rintro xs r w0 G0 ⟨n,⟨a1Af,⟨a1G,a1H,a1I,a1J⟩,a1E,a1F⟩,a2,y0,y1,h,rfl,rfl⟩ _;rw[zBM]at h;refine zYe [4] [] rfl ?_;show Tri ..;refine zAa ?_;refine zAa ?_;obtain⟨x3,hj,h⟩:=zAc h
 refine zAv ⟨ofL [(1,.s (.int .i64 a2)),(2,.s (.pt [.str a1Af,.int .i64 a1G,.str a1H,.int .i64 a1I,.sl 4 (Nd.encs a1J),.sl 5 ((List.map zAd) a1E),.int .i64 a1F])),(4,.op 0 0),(41,.s (.bool x3))],ofH [(0,.box 24 [.s (.int .i64 0),.s (.str []),.s (.int .i64 0),.nl 4])],1⟩ ?_ (fun σ' hle=>?_)
 ·replace h:=hj;refine zAb [] [17,23,26,29,34,39] rfl ?_;obtain⟨y4,hy4,h⟩:=zAc h;refine⟨_,⟨_,_,_,hy4,rfl,rfl⟩,?_⟩
  intro b hb;cases b with
  | true =>
   replace h:=zAE hb.symm h;intro b hb;subst hb;intro b hb;subst hb;intro b hb;subst hb;cases h;exact(Le.rnm [(0,0)] _ _ _ ⟨rfl,rfl,rfl,rfl,trivial⟩ ⟨rfl,⟨_,rfl,rfl⟩,trivial⟩)
  | false =>
   replace h:=zAD hb.symm h;obtain⟨y5,hy5,h⟩:=zAc h;refine⟨_,⟨_,_,_,hy5,rfl,rfl⟩,?_⟩
   intro b hb;cases b with
   | true =>
    replace h:=zAE hb.symm h;intro b hb;subst hb;intro b hb;subst hb;cases h;exact(Le.rnm [(0,0)] _ _ _ ⟨rfl,rfl,rfl,rfl,trivial⟩ ⟨rfl,⟨_,rfl,rfl⟩,trivial⟩)
   | false =>
    replace h:=zAD hb.symm h;intro n6 hn6;obtain rfl:(a1E.length:Int)=n6:=(hn6.trans (congrArg (fun m:Nat=>(m:Int)) (rlen (fun _=>rfl) a1E))).symm;intro b hb;cases b with
    | true =>
     replace h:=zAE hb.symm h;intro b hb;subst hb;cases h;exact(Le.rnm [(0,0)] _ _ _ ⟨rfl,rfl,rfl,rfl,trivial⟩ ⟨rfl,⟨_,rfl,rfl⟩,trivial⟩)
    | false =>
     replace h:=zAD hb.symm h;intro b hb;cases b with
     | true =>
      replace h:=zAE hb.symm h;cases h;exact(Le.rnm [(0,0)] _ _ _ ⟨rfl,rfl,rfl,rfl,trivial⟩ ⟨rfl,⟨_,rfl,rfl⟩,trivial⟩)
     | false =>
      replace h:=zAD hb.symm h;intro n7 hn7;obtain rfl:(a1E.length:Int)=n7:=(hn7.trans (congrArg (fun m:Nat=>(m:Int)) (rlen (fun _=>rfl) a1E))).symm;cases h;exact(Le.rnm [(0,0)] _ _ _ ⟨rfl,rfl,rfl,rfl,trivial⟩ ⟨rfl,⟨_,rfl,rfl⟩,trivial⟩)
 ·show Tri ..;refine zAk hle ?_;refine zAh rfl h (fun hb h=>?_) (fun hb h=>?_)
  ·refine zYe [] [] rfl ?_;show Tri ..;refine zAe ?_;obtain⟨hj1,hk1⟩:=pij h;subst hj1 hk1;unfold zAw;exact⟨_,Le.refl _ _,rfl,rfl⟩
  ·refine zAf ?_;show Tri ..;refine zYe [6] [] rfl ?_;obtain⟨⟨y8A,y8B,y8D,y8C⟩,hy8,h⟩:=zAc h;refine⟨_,⟨_,_,hy8,rfl,rfl⟩,?_⟩
   show Tri ..;refine zYe [7] [] rfl ?_;show Tri ..;refine zAa ?_;refine zYe [] [49] rfl ?_;intro n9 hn9;obtain rfl:(a1E.length:Int)=n9:=(hn9.trans (congrArg (fun m:Nat=>(m:Int)) (rlen (fun _=>rfl) a1E))).symm;show Tri ..;obtain⟨fl,hl,ho1⟩:=zAc h;refine zBt (fl:=fl) (fun z=>match z with | ⟨x20,x21,x22,x23⟩=>⟨ofL [(4,.op 0 0),(7,.op 1 0)],ofH [(0,.box 24 [.s (.int .i64 0),.s (.str []),.s (.int .i64 0),.nl 4]),(1,.box 24 [.s (.int .i64 x20),.s (.str x21),.s (.int .i64 x22),.s (.sl 4 (Nd.encs x23))])],2⟩) ?_ (fun z σ' hz hle=>?_)
   ·refine zAl (zAF (X:=Nat×Int×(List UInt8)×Int×(List Nd)×Int×(List UInt8)×Int×(List Nd)×Int) (fun y=>match y with | (k,x11,x12,x13,x14,x15,x16,x17,x18,x19)=>⟨ofL [(1,.s (.int .i64 a2)),(4,.op 0 0),(6,.op 1 0),(7,.op 2 0),(48,.s (.sl 5 ((List.map zAd) a1E))),(49,.s (.int .i64 (a1E.length:Int))),(50,.s (.int .i64 x19))],ofH [(0,.box 24 [.s (.int .i64 0),.s (.str []),.s (.int .i64 0),.nl 4]),(1,.box 24 [.s (.int .i64 x11),.s (.str x12),.s (.int .i64 x13),.s (.sl 4 (Nd.encs x14))]),(2,.box 24 [.s (.int .i64 x15),.s (.str x16),.s (.int .i64 x17),.s (.sl 4 (Nd.encs x18))])],3⟩) (fun y=>zBF n a1E a2 y.1 y.2.1 y.2.2.1 y.2.2.2.1 y.2.2.2.2.1 y.2.2.2.2.2.1 y.2.2.2.2.2.2.1 y.2.2.2.2.2.2.2.1 y.2.2.2.2.2.2.2.2.1 y.2.2.2.2.2.2.2.2.2=some fl) (fun y=>y.1) (n,y8A,y8B,y8D,y8C,y8A,y8B,y8D,y8C,0) hl ?_ ?_)
    ·exact(Le.rnm [(0,0),(1,1),(2,2)] _ _ _ ⟨rfl,rfl,rfl,rfl,rfl,rfl,rfl,trivial⟩ ⟨rfl,⟨_,rfl,rfl⟩,rfl,⟨_,rfl,rfl⟩,rfl,⟨_,rfl,rfl⟩,trivial⟩)
    ·rintro⟨k,x11,x12,x13,x14,x15,x16,x17,x18,x19⟩ h;cases k with
     | zero=>cases h
     | succ k =>
      replace h:zBF n a1E a2 (k+1) x11 x12 x13 x14 x15 x16 x17 x18 x19=some fl:=h;rw[zBF]at h;refine zYe [] [] rfl ?_;show Tri ..;refine zAa ?_;refine zAh rfl h (fun hb h=>?_) (fun hb h=>?_)
      ·refine zAf ?_;show Tri ..;refine zAa ?_;obtain⟨fl,hj,ho2⟩:=zAc h
       refine zBt (fl:=fl) (fun z=>match z with | ⟨x24,x25,x26,x27,x28,x29,x30,x31⟩=>⟨ofL [(1,.s (.int .i64 a2)),(4,.op 0 0),(6,.op 1 0),(7,.op 2 0),(48,.s (.sl 5 ((List.map zAd) a1E))),(49,.s (.int .i64 (a1E.length:Int))),(50,.s (.int .i64 x19))],ofH [(0,.box 24 [.s (.int .i64 0),.s (.str []),.s (.int .i64 0),.nl 4]),(1,.box 24 [.s (.int .i64 x24),.s (.str x25),.s (.int .i64 x26),.s (.sl 4 (Nd.encs x27))]),(2,.box 24 [.s (.int .i64 x28),.s (.str x29),.s (.int .i64 x30),.s (.sl 4 (Nd.encs x31))])],3⟩) ?_ (fun z σ' hz hle=>?_)
       ·replace h:=hj;refine zAl ?_;refine zYe [9] [53] rfl ?_;obtain⟨⟨e32Aa,⟨e32Ab,e32Ac⟩,⟨e32Ad,e32Ae⟩⟩,he32,h⟩:=zAc h;refine And.intro (zAB (fun _=>rfl) he32).1 ?_;intro r33 hr33;obtain rfl:[.sl 8 ((List.map zAi) e32Aa),.sl 1 ((List.map (irow .i64)) e32Ab),.sl 1 ((List.map (irow .i64)) e32Ac),.sl 1 ((List.map (irow .i64)) e32Ad),.sl 1 ((List.map (irow .i64)) e32Ae)]=r33:=(hr33.trans (zAB (fun _=>rfl) he32).2.1).symm;show Tri ..
        refine zAk (Le.giveBox 3 [.sl 8 ((List.map zAi) e32Aa),.sl 1 ((List.map (irow .i64)) e32Ab),.sl 1 ((List.map (irow .i64)) e32Ac),.sl 1 ((List.map (irow .i64)) e32Ad),.sl 1 ((List.map (irow .i64)) e32Ae)] rfl rfl) ?_;refine zYe [10] [] rfl ?_;obtain⟨⟨⟨y34A,y34B,y34D,y34C⟩,y35,y36⟩,hy34,h⟩:=zAc h;refine⟨_,⟨_,_,_,_,_,_,hy34,rfl,rfl⟩,?_⟩
        show Tri ..;refine zAk (Le.giveBox 4 [.int .i64 y34A,.str y34B,.int .i64 y34D,.sl 4 (Nd.encs y34C)] rfl rfl) ?_;refine zAa ?_;refine zAa ?_;obtain⟨x37,hj,h⟩:=zAc h
        refine zAv ⟨ofL [(1,.s (.int .i64 a2)),(4,.op 0 0),(6,.op 1 0),(7,.op 2 0),(8,.s (.int .i64 x19)),(10,.s (.pt [.int .i64 y34A,.str y34B,.int .i64 y34D,.sl 4 (Nd.encs y34C)])),(48,.s (.sl 5 ((List.map zAd) a1E))),(49,.s (.int .i64 (a1E.length:Int))),(50,.s (.int .i64 x19)),(78,.s (.bool x37))],ofH [(0,.box 24 [.s (.int .i64 0),.s (.str []),.s (.int .i64 0),.nl 4]),(1,.box 24 [.s (.int .i64 x11),.s (.str x12),.s (.int .i64 x13),.s (.sl 4 (Nd.encs x14))]),(2,.box 24 [.s (.int .i64 x15),.s (.str x16),.s (.int .i64 x17),.s (.sl 4 (Nd.encs x18))])],3⟩ ?_ (fun σ' hle=>?_)
        ·replace h:=hj;refine zAb [] [65,72] rfl ?_;intro b hb;cases b with
         | true =>
          replace h:=zAE hb.symm h;intro b hb;subst hb;cases h;exact(Le.rnm [(0,0),(1,1),(2,2)] _ _ _ ⟨rfl,rfl,rfl,rfl,rfl,rfl,rfl,rfl,rfl,rfl,trivial⟩ ⟨rfl,⟨_,rfl,rfl⟩,rfl,⟨_,rfl,rfl⟩,rfl,⟨_,rfl,rfl⟩,trivial⟩)
         | false =>
          replace h:=zAD hb.symm h;obtain⟨y38,hy38,h⟩:=zAc h;refine⟨_,⟨_,_,_,_,hy38,rfl,rfl⟩,?_⟩
          intro b hb;cases b with
          | true =>
           replace h:=zAE hb.symm h;cases h;exact(Le.rnm [(0,0),(1,1),(2,2)] _ _ _ ⟨rfl,rfl,rfl,rfl,rfl,rfl,rfl,rfl,rfl,rfl,trivial⟩ ⟨rfl,⟨_,rfl,rfl⟩,rfl,⟨_,rfl,rfl⟩,rfl,⟨_,rfl,rfl⟩,trivial⟩)
          | false =>
           replace h:=zAD hb.symm h;obtain⟨y39,hy39,h⟩:=zAc h;refine⟨_,⟨_,_,_,_,hy39,rfl,rfl⟩,?_⟩
           cases h;exact(Le.rnm [(0,0),(1,1),(2,2)] _ _ _ ⟨rfl,rfl,rfl,rfl,rfl,rfl,rfl,rfl,rfl,rfl,trivial⟩ ⟨rfl,⟨_,rfl,rfl⟩,rfl,⟨_,rfl,rfl⟩,rfl,⟨_,rfl,rfl⟩,trivial⟩)
        ·show Tri ..;refine zAk hle ?_;refine zAh rfl h (fun hb h=>?_) (fun hb h=>?_)
         ·refine zYe [] [] rfl ?_;show Tri ..;refine zAe ?_;cases h;replace h:some _=some _:=ho2;cases h;replace h:some _=some _:=ho1;obtain⟨hj1,hk1⟩:=pij h;subst hj1 hk1;unfold zAw;exact⟨_,Le.refl _ _,rfl,rfl⟩
         ·refine zAf ?_;show Tri ..;refine zYe [] [] rfl ?_;show Tri ..;refine zYe [] [] rfl ?_;show Tri ..;refine zAh rfl h (fun hb h=>?_) (fun hb h=>?_)
          ·refine zAb [] [] rfl ?_;cases h;exact⟨_,rfl,(Le.rnm [(0,0),(1,1),(2,2)] _ _ _ ⟨rfl,rfl,rfl,rfl,rfl,rfl,rfl,trivial⟩ ⟨rfl,⟨_,rfl,rfl⟩,rfl,⟨_,rfl,rfl⟩,rfl,⟨_,rfl,rfl⟩,trivial⟩)⟩
          ·refine zAf ?_;cases h;exact⟨_,rfl,(Le.rnm [(0,0),(1,1),(2,2)] _ _ _ ⟨rfl,rfl,rfl,rfl,rfl,rfl,rfl,trivial⟩ ⟨rfl,⟨_,rfl,rfl⟩,rfl,⟨_,rfl,rfl⟩,rfl,⟨_,rfl,rfl⟩,trivial⟩)⟩
       ·subst hz;obtain⟨x24,x25,x26,x27,x28,x29,x30,x31⟩:=z;replace h:=ho2;show Tri ..;refine zAk hle ?_;refine zAb [] [] rfl ?_;refine⟨(k,x24,x25,x26,x27,x28,x29,x30,x31,IntKind.i64.wrap (x19+1)),h,(Le.rnm [(0,0),(1,1),(2,2)] _ _ _ ⟨rfl,rfl,rfl,rfl,rfl,rfl,rfl,trivial⟩ ⟨rfl,⟨_,rfl,rfl⟩,rfl,⟨_,rfl,rfl⟩,rfl,⟨_,rfl,rfl⟩,trivial⟩),Nat.lt_succ_self k⟩
      ·refine zAI ?_;cases h;exact⟨_,rfl,(Le.rnm [(0,0),(2,1)] _ _ _ ⟨rfl,rfl,trivial⟩ ⟨rfl,⟨_,rfl,rfl⟩,rfl,⟨_,rfl,rfl⟩,trivial⟩)⟩
   ·subst hz;obtain⟨x20,x21,x22,x23⟩:=z;replace h:=ho1;show Tri ..;refine zAk hle ?_;refine zYe [] [] rfl ?_;show Tri ..;refine zAe ?_;obtain⟨hj1,hk1⟩:=pij h;subst hj1 hk1;unfold zAw;exact⟨_,Le.refl _ _,rfl,rfl⟩
def zQz (n:Nat) (xs:List AV) (r:Ret):Prop:=∃ (a0:(List UInt8×Nd×List zRc×Int)) (y0:Bool),zBO n a0=some y0/\xs=[.agg ((zAo a0).map .s)]/\r = .val (.s (.bool y0))
def zGp:zAz:=zAy fun xs r=>∃ n,zQz n xs r
theorem zHz:PSound Tryz.prog 12 zGp:=by
 have gok:∀ f s,look? f [(33,zGI)]=some s->PSound Tryz.prog f s:=zAt (by
  simp only[List.forall_mem_cons]
  exact⟨zIw,by simp⟩)
 refine zAA tokW Tryz.call12 Tryz.func12 rfl (fun xs r h=>by obtain⟨n,_,_,_,rfl,_⟩:=h; show 1<=11; decide) 11 rfl ?_;rintro xs r w0 G0 ⟨n,⟨d1Af,⟨d1G,d1H,d1I,d1J⟩,d1E,d1F⟩,y0,h,rfl,rfl⟩ _;rw[zBO]at h;refine zYe [] [] rfl ?_;show Tri ..;refine zYe [3] [] rfl ?_;obtain⟨⟨⟨y2A,y2B,y2D,y2C⟩,y3⟩,hy2,h⟩:=zAc h;refine⟨_,⟨_,_,_,_,_,hy2,rfl,rfl⟩,?_⟩
 show Tri ..;refine zAk (Le.giveBox 0 [.int .i64 y2A,.str y2B,.int .i64 y2D,.sl 4 (Nd.encs y2C)] rfl rfl) ?_;refine zYe [] [] rfl ?_;show Tri ..;refine zAe ?_;have hy:=Option.some.inj h;subst hy;unfold zAw;exact⟨_,Le.refl _ _,rfl,rfl⟩
def zSm (xs:List AV) (r:Ret):Prop:=∃ (a0:List UInt8) (y0:CV),zEX a0=some y0/\xs=[.s (.str a0)]/\r = .val (.agg ((CV.enc y0).map .s))
def zHo:zAz:=zAy fun xs r=>zSm xs r
theorem zIv:PSound Tryz.prog 59 zHo:=by
 have gok:=@gok0 Tryz.prog;refine zAA tokW Tryz.call59 Tryz.func59 rfl (fun xs r h=>by obtain⟨_,_,_,rfl,_⟩:=h; show 1<=5; decide) 5 rfl ?_;rintro xs r w0 G0 ⟨s1,y0,h,rfl,rfl⟩ _;rw[zEX]at h;refine zYe [2] [] rfl ?_;show Tri ..;refine zYe [] [] rfl ?_;show Tri ..;refine zAe ?_;have hy:=Option.some.inj h;subst hy;unfold zAw;exact⟨_,Le.refl _ _,rfl,rfl⟩
def zSl (xs:List AV) (r:Ret):Prop:=∃ (a0:List CV) (y0:CV),zEe a0=some y0/\xs=[.s (.sl 4 (CV.encs a0))]/\r = .val (.agg ((CV.enc y0).map .s))
def zES:zAz:=zAy fun xs r=>zSl xs r
theorem zFm:PSound Tryz.prog 58 zES:=by
 have gok:=@gok0 Tryz.prog;refine zAA tokW Tryz.call58 Tryz.func58 rfl (fun xs r h=>by obtain⟨_,_,_,rfl,_⟩:=h; show 1<=5; decide) 5 rfl ?_;rintro xs r w0 G0 ⟨l1,y0,h,rfl,rfl⟩ _;rw[zEe]at h;refine zYe [2] [] rfl ?_;show Tri ..;refine zYe [] [] rfl ?_;show Tri ..;refine zAe ?_;have hy:=Option.some.inj h;subst hy;unfold zAw;exact⟨_,Le.refl _ _,rfl,rfl⟩
def zPm (xs:List AV) (r:Ret):Prop:=∃ (a0:Int) (y0:CV),zBL a0=some y0/\xs=[.s (.int .i64 a0)]/\r = .val (.agg ((CV.enc y0).map .s))
def zEy:zAz:=zAy fun xs r=>zPm xs r
theorem zE8:PSound Tryz.prog 61 zEy:=by
 have gok:=@gok0 Tryz.prog;refine zAA tokW Tryz.call61 Tryz.func61 rfl (fun xs r h=>by obtain⟨_,_,_,rfl,_⟩:=h; show 1<=5; decide) 5 rfl ?_;rintro xs r w0 G0 ⟨n1,y0,h,rfl,rfl⟩ _;rw[zBL]at h;refine zYe [2] [] rfl ?_;show Tri ..;refine zYe [] [] rfl ?_;show Tri ..;refine zAe ?_;have hy:=Option.some.inj h;subst hy;unfold zAw;exact⟨_,Le.refl _ _,rfl,rfl⟩
def zCk (n:Nat) (xs:List AV) (r:Ret):Prop:=∃ (a0:List Nd) (y0:CV),zDd n a0=some y0/\xs=[.s (.sl 4 (Nd.encs a0)),.s (.fn 60)]/\r = .val (.agg ((CV.enc y0).map .s))
def zCl (n:Nat) (xs:List AV) (r:Ret):Prop:=∃ (a0:Nd) (y0:CV),zBV n a0=some y0/\xs=[.agg ((Nd.enc a0).map .s)]/\r = .val (.agg ((CV.enc y0).map .s))
theorem zJT (n:Nat) (ih_file_each_Node:PSound Tryz.prog 101 (zAy (zCk n))) (ih_file_writeTree:PSound Tryz.prog 60 (zAy (zCl n))):PSound Tryz.prog 101 (zAy (zCk (n+1))):=by
 have gok:∀ f s,look? f [(58,zDs),(60,zAy (zCl n))]=some s->PSound Tryz.prog f s:=zAt (by
  simp only[List.forall_mem_cons]
  exact⟨zEb,ih_file_writeTree,by simp⟩)
 refine zAA tokW Tryz.call101 Tryz.func101 rfl (fun xs r h=>by obtain⟨_,_,_,rfl,_⟩:=h; show 2<=25; decide) 25 rfl ?_;rintro xs r w0 G0 ⟨l1,y0,h,rfl,rfl⟩ _;rw[zDd]at h;refine zYe [4] [] rfl ?_;show Tri ..;refine zYe [5] [] rfl ?_;obtain⟨⟨y2A,y2L,y2B,y2K⟩,hy2,h⟩:=zAc h;refine⟨_,_,⟨_,hy2,rfl,rfl,rfl,rfl⟩,?_⟩
 show Tri ..;refine zAa ?_;refine zYe [] [10] rfl ?_;intro n3 hn3;obtain rfl:(l1.length:Int)=n3:=(hn3.trans (congrArg (fun m:Nat=>(m:Int)) (rlen Nd.encs_eq l1))).symm;show Tri ..;obtain⟨l8,hl,h⟩:=zAc h;refine zAv ⟨ofL [(4,.op 0 0),(5,.op 1 0)],ofH [(0,.box 68 [.s (.int .i64 0),.s (.int .i64 0),.s (.str []),.nl 4]),(1,.box 68 [.s (.int .i64 y2A),.s (.int .i64 y2L),.s (.str y2B),.orow 2]),(2,.row 68 4 (CV.encs l8))],3⟩ ?_ (fun σ' hle=>?_)
 ·refine zAl (zAF (X:=Nat×Int×(List CV)) (fun y=>match y with | (k,x6,l7)=>⟨ofL [(1,.s (.fn 60)),(4,.op 0 0),(5,.op 1 0),(9,.s (.sl 4 (Nd.encs l1))),(10,.s (.int .i64 (l1.length:Int))),(11,.s (.int .i64 x6))],ofH [(0,.box 68 [.s (.int .i64 0),.s (.int .i64 0),.s (.str []),.nl 4]),(1,.box 68 [.s (.int .i64 y2A),.s (.int .i64 y2L),.s (.str y2B),.orow 2]),(2,.row 68 4 (CV.encs l7))],3⟩) (fun y=>zCf (zBV n) l1 y.1 y.2.1 y.2.2=some l8) (fun y=>y.1) (n,0,y2K) hl ?_ ?_)
  ·exact(Le.rnm [(0,0),(3,1),(2,2)] _ _ _ ⟨rfl,rfl,rfl,rfl,rfl,rfl,trivial⟩ ⟨rfl,⟨_,rfl,rfl⟩,rfl,⟨_,rfl,rfl⟩,rfl,⟨_,rfl,rfl⟩,trivial⟩)
  ·rintro⟨k,x6,l7⟩ h;cases k with
   | zero=>cases h
   | succ k =>
    replace h:zCf (zBV n) l1 (k+1) x6 l7=some l8:=h;rw[zCf]at h;refine zYe [] [] rfl ?_;show Tri ..;refine zAa ?_;refine zAh rfl h (fun hb h=>?_) (fun hb h=>?_)
    ·refine zAf ?_;show Tri ..;refine zAa ?_;refine zAl ?_;refine zYe [7] [13] rfl ?_;obtain⟨⟨e9A,e9B,e9D,e9C⟩,he9,h⟩:=zAc h;refine And.intro (zAB Nd.encs_eq he9).1 ?_;intro r10 hr10;obtain rfl:[.int .i64 e9A,.str e9B,.int .i64 e9D,.sl 4 (Nd.encs e9C)]=r10:=(hr10.trans (zAB Nd.encs_eq he9).2.1).symm;show Tri ..;refine zAk (Le.giveBox 3 [.int .i64 e9A,.str e9B,.int .i64 e9D,.sl 4 (Nd.encs e9C)] rfl rfl) ?_;refine zAQ [21] [20] [1,6,8] rfl (by decide +kernel) ?_;obtain⟨⟨y11A,y11L,y11B,y11K⟩,hy11,h⟩:=zAc h
     refine⟨_,⟨_,_,hy11,rfl,rfl⟩,?_⟩
     intro r12 hr12;obtain rfl:CV.encs [CV.mk y11A y11L y11B y11K]=r12:=(hr12.trans (by simp[List.map_append,List.map_take,List.map_drop,irow,brow,zAG,List.map_cons,List.map_nil,zAC,CV.encs_eq,CV.enc,Nd.encs_eq,Nd.enc,zAq,zAm,zAx,zAr,zAp,zAi,zAu,zAs,zAd,zAo])).symm;obtain⟨hq,h⟩:=zAK h
     refine And.intro (show((CV.encs l7).length+(CV.encs [CV.mk y11A y11L y11B y11K]).length) * 56<=140737488355328/\(CV.encs l7).length+(CV.encs [CV.mk y11A y11L y11B y11K]).length<=9223372036854775807 from by simp only[List.length_append,List.length_cons,List.length_nil,List.length_map,rlen CV.encs_eq]at hq ⊢; omega) ?_;show Tri ..
     refine zAk (Le.rnm [(0,0),(1,1),(4,2)] [(1,.s (.fn 60)),(4,.op 0 0),(5,.op 1 0),(9,.s (.sl 4 (Nd.encs l1))),(10,.s (.int .i64 (l1.length:Int))),(11,.s (.int .i64 x6))] [(0,.box 68 [.s (.int .i64 0),.s (.int .i64 0),.s (.str []),.nl 4]),(1,.box 68 [.s (.int .i64 y2A),.s (.int .i64 y2L),.s (.str y2B),.orow 2]),(2,.row 68 4 (CV.encs (l7++[CV.mk y11A y11L y11B y11K])))] 3 ⟨rfl,rfl,rfl,rfl,rfl,rfl,trivial⟩ ⟨rfl,⟨_,rfl,rfl⟩,rfl,⟨_,rfl,rfl⟩,rfl,⟨_,rfl,congrArg (Ob.row 68 4) (by simp[List.map_append,List.map_take,List.map_drop,irow,brow,zAG,List.map_cons,List.map_nil,zAC,CV.encs_eq,CV.enc,Nd.encs_eq,Nd.enc,zAq,zAm,zAx,zAr,zAp,zAi,zAu,zAs,zAd,zAo])⟩,trivial⟩) ?_
     refine zAb [] [] rfl ?_;refine⟨(k,IntKind.i64.wrap (x6+1),l7++[CV.mk y11A y11L y11B y11K]),h,(Le.rnm [(0,0),(1,1),(2,2)] _ _ _ ⟨rfl,rfl,rfl,rfl,rfl,rfl,trivial⟩ ⟨rfl,⟨_,rfl,rfl⟩,rfl,⟨_,rfl,rfl⟩,rfl,⟨_,rfl,rfl⟩,trivial⟩),Nat.lt_succ_self k⟩
    ·refine zAI ?_;cases h;exact(Le.rnm [(0,0),(1,1),(2,2)] _ _ _ ⟨rfl,rfl,trivial⟩ ⟨rfl,⟨_,rfl,rfl⟩,rfl,⟨_,rfl,rfl⟩,rfl,⟨_,rfl,rfl⟩,trivial⟩)
 ·show Tri ..;refine zAk hle ?_;refine zYe [] [] rfl ?_;show Tri ..;refine zAe ?_;have hy:=Option.some.inj h;subst hy;unfold zAw;exact⟨_,(Le.trans (Le.rnm [(0,0),(2,1)] [(4,.op 0 0)] [(0,.box 68 [.s (.int .i64 y2A),.s (.int .i64 y2L),.s (.str y2B),.orow 1]),(1,.row 68 4 (CV.encs l8))] 2 ⟨rfl,trivial⟩ ⟨rfl,⟨_,rfl,rfl⟩,rfl,⟨_,rfl,rfl⟩,trivial⟩) (Le.giveRow 1 rfl)),rfl,rfl⟩
theorem zJU (n:Nat) (ih_file_each_Node:PSound Tryz.prog 101 (zAy (zCk n))) (ih_file_writeTree:PSound Tryz.prog 60 (zAy (zCl n))):PSound Tryz.prog 60 (zAy (zCl (n+1))):=by
 have gok:∀ f s,look? f [(101,zAy (zCk n)),(61,zEy),(59,zHo),(58,zES)]=some s->PSound Tryz.prog f s:=zAt (by
  simp only[List.forall_mem_cons]
  exact⟨ih_file_each_Node,zE8,zIv,zFm,by simp⟩)
 refine zAA tokW Tryz.call60 Tryz.func60 rfl (fun xs r h=>by obtain⟨_,_,_,rfl,_⟩:=h; show 1<=21; decide) 21 rfl ?_;rintro xs r w0 G0 ⟨⟨n1A,n1B,n1D,n1C⟩,y0,h,rfl,rfl⟩ _;rw[zBV]at h;refine zYe [2] [] rfl ?_;show Tri ..;refine zYe [3] [] rfl ?_;obtain⟨⟨y2A,y2L,y2B,y2K⟩,hy2,h⟩:=zAc h;refine⟨_,⟨_,_,hy2,rfl,rfl⟩,?_⟩
 show Tri ..;refine zAk (Le.giveBox 1 [.int .i64 y2A,.int .i64 y2L,.str y2B,.sl 4 (CV.encs y2K)] rfl rfl) ?_;refine zAa ?_;refine zEK [16,19] [] [9,12,13,14] [] rfl (by decide +kernel) ?_;obtain⟨⟨y3A,y3L,y3B,y3K⟩,hy3,h⟩:=zAc h;refine⟨_,⟨_,_,hy3,rfl,rfl⟩,?_⟩
 obtain⟨⟨y4A,y4L,y4B,y4K⟩,hy4,h⟩:=zAc h;refine⟨_,⟨_,_,hy4,rfl,rfl⟩,?_⟩
 obtain⟨⟨y5A,y5L,y5B,y5K⟩,hy5,h⟩:=zAc h;refine⟨_,⟨_,_,hy5,rfl,rfl⟩,?_⟩
 obtain⟨hq,h⟩:=zAK h
 refine And.intro (show([[.int .i64 y3A,.int .i64 y3L,.str y3B,.sl 4 (CV.encs y3K)],[.int .i64 y4A,.int .i64 y4L,.str y4B,.sl 4 (CV.encs y4K)],[.int .i64 y5A,.int .i64 y5L,.str y5B,.sl 4 (CV.encs y5K)]].length+(CV.encs y2K).length) * 56<=140737488355328/\[[.int .i64 y3A,.int .i64 y3L,.str y3B,.sl 4 (CV.encs y3K)],[.int .i64 y4A,.int .i64 y4L,.str y4B,.sl 4 (CV.encs y4K)],[.int .i64 y5A,.int .i64 y5L,.str y5B,.sl 4 (CV.encs y5K)]].length+(CV.encs y2K).length<=9223372036854775807 from by simp only[List.length_append,List.length_cons,List.length_nil,List.length_map,rlen CV.encs_eq]at hq ⊢; omega) ?_
 obtain⟨⟨y6A,y6L,y6B,y6K⟩,hy6,h⟩:=zAc h
 refine⟨_,⟨_,_,hy6,(congrArg (fun r=>[AV.s (.sl 4 r)]) (show[[.int .i64 y3A,.int .i64 y3L,.str y3B,.sl 4 (CV.encs y3K)],[.int .i64 y4A,.int .i64 y4L,.str y4B,.sl 4 (CV.encs y4K)],[.int .i64 y5A,.int .i64 y5L,.str y5B,.sl 4 (CV.encs y5K)]]++(CV.encs y2K)=CV.encs ([CV.mk y3A y3L y3B y3K,CV.mk y4A y4L y4B y4K,CV.mk y5A y5L y5B y5K]++y2K) from(by simp[List.map_append,List.map_take,List.map_drop,irow,brow,zAG,List.map_cons,List.map_nil,zAC,CV.encs_eq,CV.enc,Nd.encs_eq,Nd.enc,zAq,zAm,zAx,zAr,zAp,zAi,zAu,zAs,zAd,zAo]))),rfl⟩,?_⟩
 show Tri ..;refine zAe ?_;have hy:=Option.some.inj h;subst hy;unfold zAw;exact⟨_,Le.refl _ _,rfl,rfl⟩
theorem zF2:∀ n,PSound Tryz.prog 101 (zAy (zCk n))/\PSound Tryz.prog 60 (zAy (zCl n)):=by
 intro n
 induction n with
 | zero =>
  refine⟨?_,?_⟩
  ·exact zBI Tryz.call101 (fun xs r h=>by obtain⟨_,_,h,_⟩:=h; rw[zDd]at h; cases h)
  ·exact zBI Tryz.call60 (fun xs r h=>by obtain⟨_,_,h,_⟩:=h; rw[zBV]at h; cases h)
 | succ n ih =>
  obtain⟨ih_file_each_Node,ih_file_writeTree⟩:=ih;exact⟨zJT n ih_file_each_Node ih_file_writeTree,zJU n ih_file_each_Node ih_file_writeTree⟩
def zHJ:zAz:=zAy fun xs r=>∃ n,zCk n xs r
theorem zK1:PSound Tryz.prog 101 zHJ:=zCb (fun n=>(zF2 n).1)
def zHK:zAz:=zAy fun xs r=>∃ n,zCl n xs r
theorem zK2:PSound Tryz.prog 60 zHK:=zCb (fun n=>(zF2 n).2)
def zMh (n:Nat) (xs:List AV) (r:Ret):Prop:=∃ (a0:List Int) (y0:CV),zGc n a0=some y0/\xs=[.s (.sl 1 ((List.map (irow .i64)) a0)),.s (.fn 61)]/\r = .val (.agg ((CV.enc y0).map .s))
def zH6:zAz:=zAy fun xs r=>∃ n,zMh n xs r
theorem zLX:PSound Tryz.prog 169 zH6:=by
 have gok:∀ f s,look? f [(58,zDs),(61,zEy)]=some s->PSound Tryz.prog f s:=zAt (by
  simp only[List.forall_mem_cons]
  exact⟨zEb,zE8,by simp⟩)
 refine zAA tokW Tryz.call169 Tryz.func169 rfl (fun xs r h=>by obtain⟨n,_,_,_,rfl,_⟩:=h; show 2<=25; decide) 25 rfl ?_;rintro xs r w0 G0 ⟨n,l1,y0,h,rfl,rfl⟩ _;rw[zGc]at h;refine zYe [4] [] rfl ?_;show Tri ..;refine zYe [5] [] rfl ?_;obtain⟨⟨y2A,y2L,y2B,y2K⟩,hy2,h⟩:=zAc h;refine⟨_,_,⟨_,hy2,rfl,rfl,rfl,rfl⟩,?_⟩
 show Tri ..;refine zAa ?_;refine zYe [] [10] rfl ?_;intro n3 hn3;obtain rfl:(l1.length:Int)=n3:=(hn3.trans (congrArg (fun m:Nat=>(m:Int)) (rlen (fun _=>rfl) l1))).symm;show Tri ..;obtain⟨l8,hl,h⟩:=zAc h;refine zAv ⟨ofL [(4,.op 0 0),(5,.op 1 0)],ofH [(0,.box 68 [.s (.int .i64 0),.s (.int .i64 0),.s (.str []),.nl 4]),(1,.box 68 [.s (.int .i64 y2A),.s (.int .i64 y2L),.s (.str y2B),.orow 2]),(2,.row 68 4 (CV.encs l8))],3⟩ ?_ (fun σ' hle=>?_)
 ·refine zAl (zAF (X:=Nat×Int×(List CV)) (fun y=>match y with | (k,x6,l7)=>⟨ofL [(1,.s (.fn 61)),(4,.op 0 0),(5,.op 1 0),(9,.s (.sl 1 ((List.map (irow .i64)) l1))),(10,.s (.int .i64 (l1.length:Int))),(11,.s (.int .i64 x6))],ofH [(0,.box 68 [.s (.int .i64 0),.s (.int .i64 0),.s (.str []),.nl 4]),(1,.box 68 [.s (.int .i64 y2A),.s (.int .i64 y2L),.s (.str y2B),.orow 2]),(2,.row 68 4 (CV.encs l7))],3⟩) (fun y=>zCx l1 y.1 y.2.1 y.2.2=some l8) (fun y=>y.1) (n,0,y2K) hl ?_ ?_)
  ·exact(Le.rnm [(0,0),(3,1),(2,2)] _ _ _ ⟨rfl,rfl,rfl,rfl,rfl,rfl,trivial⟩ ⟨rfl,⟨_,rfl,rfl⟩,rfl,⟨_,rfl,rfl⟩,rfl,⟨_,rfl,rfl⟩,trivial⟩)
  ·rintro⟨k,x6,l7⟩ h;cases k with
   | zero=>cases h
   | succ k =>
    replace h:zCx l1 (k+1) x6 l7=some l8:=h;rw[zCx]at h;refine zYe [] [] rfl ?_;show Tri ..;refine zAa ?_;refine zAh rfl h (fun hb h=>?_) (fun hb h=>?_)
    ·refine zAf ?_;show Tri ..;refine zAa ?_;refine zAl ?_;refine zYe [] [13] rfl ?_;obtain⟨e9,he9,h⟩:=zAc h;refine And.intro (zAB (fun _=>rfl) he9).1 ?_;intro r10 hr10;obtain rfl:[.int .i64 e9]=r10:=(hr10.trans (zAB (fun _=>rfl) he9).2.1).symm;show Tri ..;refine zAQ [21] [20] [1,6,8] rfl (by decide +kernel) ?_;obtain⟨⟨y11A,y11L,y11B,y11K⟩,hy11,h⟩:=zAc h;refine⟨_,⟨_,_,hy11,rfl,rfl⟩,?_⟩
     intro r12 hr12;obtain rfl:CV.encs [CV.mk y11A y11L y11B y11K]=r12:=(hr12.trans (by simp[List.map_append,List.map_take,List.map_drop,irow,brow,zAG,List.map_cons,List.map_nil,zAC,CV.encs_eq,CV.enc,Nd.encs_eq,Nd.enc,zAq,zAm,zAx,zAr,zAp,zAi,zAu,zAs,zAd,zAo])).symm;obtain⟨hq,h⟩:=zAK h
     refine And.intro (show((CV.encs l7).length+(CV.encs [CV.mk y11A y11L y11B y11K]).length) * 56<=140737488355328/\(CV.encs l7).length+(CV.encs [CV.mk y11A y11L y11B y11K]).length<=9223372036854775807 from by simp only[List.length_append,List.length_cons,List.length_nil,List.length_map,rlen CV.encs_eq]at hq ⊢; omega) ?_;show Tri ..
     refine zAk (Le.rnm [(0,0),(1,1),(3,2)] [(1,.s (.fn 61)),(4,.op 0 0),(5,.op 1 0),(9,.s (.sl 1 ((List.map (irow .i64)) l1))),(10,.s (.int .i64 (l1.length:Int))),(11,.s (.int .i64 x6))] [(0,.box 68 [.s (.int .i64 0),.s (.int .i64 0),.s (.str []),.nl 4]),(1,.box 68 [.s (.int .i64 y2A),.s (.int .i64 y2L),.s (.str y2B),.orow 2]),(2,.row 68 4 (CV.encs (l7++[CV.mk y11A y11L y11B y11K])))] 3 ⟨rfl,rfl,rfl,rfl,rfl,rfl,trivial⟩ ⟨rfl,⟨_,rfl,rfl⟩,rfl,⟨_,rfl,rfl⟩,rfl,⟨_,rfl,congrArg (Ob.row 68 4) (by simp[List.map_append,List.map_take,List.map_drop,irow,brow,zAG,List.map_cons,List.map_nil,zAC,CV.encs_eq,CV.enc,Nd.encs_eq,Nd.enc,zAq,zAm,zAx,zAr,zAp,zAi,zAu,zAs,zAd,zAo])⟩,trivial⟩) ?_
     refine zAb [] [] rfl ?_;refine⟨(k,IntKind.i64.wrap (x6+1),l7++[CV.mk y11A y11L y11B y11K]),h,(Le.rnm [(0,0),(1,1),(2,2)] _ _ _ ⟨rfl,rfl,rfl,rfl,rfl,rfl,trivial⟩ ⟨rfl,⟨_,rfl,rfl⟩,rfl,⟨_,rfl,rfl⟩,rfl,⟨_,rfl,rfl⟩,trivial⟩),Nat.lt_succ_self k⟩
    ·refine zAI ?_;cases h;exact(Le.rnm [(0,0),(1,1),(2,2)] _ _ _ ⟨rfl,rfl,trivial⟩ ⟨rfl,⟨_,rfl,rfl⟩,rfl,⟨_,rfl,rfl⟩,rfl,⟨_,rfl,rfl⟩,trivial⟩)
 ·show Tri ..;refine zAk hle ?_;refine zYe [] [] rfl ?_;show Tri ..;refine zAe ?_;have hy:=Option.some.inj h;subst hy;unfold zAw;exact⟨_,(Le.trans (Le.rnm [(0,0),(2,1)] [(4,.op 0 0)] [(0,.box 68 [.s (.int .i64 y2A),.s (.int .i64 y2L),.s (.str y2B),.orow 1]),(1,.row 68 4 (CV.encs l8))] 2 ⟨rfl,trivial⟩ ⟨rfl,⟨_,rfl,rfl⟩,rfl,⟨_,rfl,rfl⟩,trivial⟩) (Le.giveRow 1 rfl)),rfl,rfl⟩
def zNM (n:Nat) (xs:List AV) (r:Ret):Prop:=∃ (a0:List Int) (y0:CV),zD6 n a0=some y0/\xs=[.s (.sl 1 ((List.map (irow .i64)) a0))]/\r = .val (.agg ((CV.enc y0).map .s))
def zGH:zAz:=zAy fun xs r=>∃ n,zNM n xs r
theorem zIu:PSound Tryz.prog 137 zGH:=by
 have gok:∀ f s,look? f [(169,zH6)]=some s->PSound Tryz.prog f s:=zAt (by
  simp only[List.forall_mem_cons]
  exact⟨zLX,by simp⟩)
 refine zAA tokW Tryz.call137 Tryz.func137 rfl (fun xs r h=>by obtain⟨n,_,_,_,rfl,_⟩:=h; show 1<=5; decide) 5 rfl ?_;rintro xs r w0 G0 ⟨n,l1,y0,h,rfl,rfl⟩ _;rw[zD6]at h;refine zYe [2] [] rfl ?_;show Tri ..;refine zYe [] [] rfl ?_;obtain⟨⟨y2A,y2L,y2B,y2K⟩,hy2,h⟩:=zAc h;refine⟨_,⟨_,_,_,hy2,rfl,rfl⟩,?_⟩
 show Tri ..;refine zAe ?_;have hy:=Option.some.inj h;subst hy;unfold zAw;exact⟨_,Le.refl _ _,rfl,rfl⟩
def zNP (n:Nat) (xs:List AV) (r:Ret):Prop:=∃ (a0:zO8) (y0:CV),zGR n a0=some y0/\xs=[.agg ((zAi a0).map .s)]/\r = .val (.agg ((CV.enc y0).map .s))
def zJe:zAz:=zAy fun xs r=>∃ n,zNP n xs r
theorem zM9:PSound Tryz.prog 103 zJe:=by
 have gok:∀ f s,look? f [(101,zHJ),(61,zEy),(137,zGH),(59,zHo),(58,zES)]=some s->PSound Tryz.prog f s:=zAt (by
  simp only[List.forall_mem_cons]
  exact⟨zK1,zE8,zIu,zIv,zFm,by simp⟩)
 refine zAA tokW Tryz.call103 Tryz.func103 rfl (fun xs r h=>by obtain⟨n,_,_,_,rfl,_⟩:=h; show 1<=31; decide) 31 rfl ?_;rintro xs r w0 G0 ⟨n,⟨op1A,op1U,op1T,op1Z,op1S,op1X,op1Y,op1B⟩,y0,h,rfl,rfl⟩ _;rw[zGR]at h;refine zYe [2] [] rfl ?_;show Tri ..;refine zYe [3] [] rfl ?_;obtain⟨⟨y2A,y2L,y2B,y2K⟩,hy2,h⟩:=zAc h;refine⟨_,⟨_,_,_,hy2,rfl,rfl⟩,?_⟩
 show Tri ..;refine zAk (Le.giveBox 1 [.int .i64 y2A,.int .i64 y2L,.str y2B,.sl 4 (CV.encs y2K)] rfl rfl) ?_;refine zAa ?_;refine zAQ [] [29] [24] rfl (by decide +kernel) ?_;obtain⟨⟨y3A,y3L,y3B,y3K⟩,hy3,h⟩:=zAc h;refine⟨_,⟨_,_,hy3,rfl,rfl⟩,?_⟩
 obtain⟨⟨y4A,y4L,y4B,y4K⟩,hy4,h⟩:=zAc h;refine⟨_,⟨_,_,_,hy4,rfl,rfl⟩,?_⟩
 obtain⟨⟨y5A,y5L,y5B,y5K⟩,hy5,h⟩:=zAc h;refine⟨_,⟨_,_,hy5,rfl,rfl⟩,?_⟩
 obtain⟨⟨y6A,y6L,y6B,y6K⟩,hy6,h⟩:=zAc h;refine⟨_,⟨_,_,hy6,rfl,rfl⟩,?_⟩
 obtain⟨⟨y7A,y7L,y7B,y7K⟩,hy7,h⟩:=zAc h;refine⟨_,⟨_,_,hy7,rfl,rfl⟩,?_⟩
 obtain⟨⟨y8A,y8L,y8B,y8K⟩,hy8,h⟩:=zAc h;refine⟨_,⟨_,_,hy8,rfl,rfl⟩,?_⟩
 obtain⟨⟨y9A,y9L,y9B,y9K⟩,hy9,h⟩:=zAc h;refine⟨_,⟨_,_,hy9,rfl,rfl⟩,?_⟩
 intro r10 hr10;obtain rfl:CV.encs [CV.mk y3A y3L y3B y3K,CV.mk y4A y4L y4B y4K,CV.mk y5A y5L y5B y5K,CV.mk y6A y6L y6B y6K,CV.mk y2A y2L y2B y2K,CV.mk y7A y7L y7B y7K,CV.mk y8A y8L y8B y8K,CV.mk y9A y9L y9B y9K]=r10:=(hr10.trans (by simp[List.map_append,List.map_take,List.map_drop,irow,brow,zAG,List.map_cons,List.map_nil,zAC,CV.encs_eq,CV.enc,Nd.encs_eq,Nd.enc,zAq,zAm,zAx,zAr,zAp,zAi,zAu,zAs,zAd,zAo])).symm
 obtain⟨⟨y11A,y11L,y11B,y11K⟩,hy11,h⟩:=zAc h;refine⟨_,⟨_,_,hy11,rfl,rfl⟩,?_⟩
 show Tri ..;refine zAe ?_;have hy:=Option.some.inj h;subst hy;unfold zAw;exact⟨_,Le.refl _ _,rfl,rfl⟩
def zNL (n:Nat) (xs:List AV) (r:Ret):Prop:=∃ (a0:List zO8) (y0:CV),zGQ n a0=some y0/\xs=[.s (.sl 8 ((List.map zAi) a0)),.s (.fn 103)]/\r = .val (.agg ((CV.enc y0).map .s))
def zJc:zAz:=zAy fun xs r=>∃ n,zNL n xs r
theorem zM7:PSound Tryz.prog 102 zJc:=by
 have gok:∀ f s,look? f [(58,zDs),(103,zJe)]=some s->PSound Tryz.prog f s:=zAt (by
  simp only[List.forall_mem_cons]
  exact⟨zEb,zM9,by simp⟩)
 refine zAA tokW Tryz.call102 Tryz.func102 rfl (fun xs r h=>by obtain⟨n,_,_,_,rfl,_⟩:=h; show 2<=25; decide) 25 rfl ?_;rintro xs r w0 G0 ⟨n,l1,y0,h,rfl,rfl⟩ _;rw[zGQ]at h;refine zYe [4] [] rfl ?_;show Tri ..;refine zYe [5] [] rfl ?_;obtain⟨⟨y2A,y2L,y2B,y2K⟩,hy2,h⟩:=zAc h;refine⟨_,_,⟨_,hy2,rfl,rfl,rfl,rfl⟩,?_⟩
 show Tri ..;refine zAa ?_;refine zYe [] [10] rfl ?_;intro n3 hn3;obtain rfl:(l1.length:Int)=n3:=(hn3.trans (congrArg (fun m:Nat=>(m:Int)) (rlen (fun _=>rfl) l1))).symm;show Tri ..;obtain⟨l8,hl,h⟩:=zAc h;refine zAv ⟨ofL [(4,.op 0 0),(5,.op 1 0)],ofH [(0,.box 68 [.s (.int .i64 0),.s (.int .i64 0),.s (.str []),.nl 4]),(1,.box 68 [.s (.int .i64 y2A),.s (.int .i64 y2L),.s (.str y2B),.orow 2]),(2,.row 68 4 (CV.encs l8))],3⟩ ?_ (fun σ' hle=>?_)
 ·refine zAl (zAF (X:=Nat×Int×(List CV)) (fun y=>match y with | (k,x6,l7)=>⟨ofL [(1,.s (.fn 103)),(4,.op 0 0),(5,.op 1 0),(9,.s (.sl 8 ((List.map zAi) l1))),(10,.s (.int .i64 (l1.length:Int))),(11,.s (.int .i64 x6))],ofH [(0,.box 68 [.s (.int .i64 0),.s (.int .i64 0),.s (.str []),.nl 4]),(1,.box 68 [.s (.int .i64 y2A),.s (.int .i64 y2L),.s (.str y2B),.orow 2]),(2,.row 68 4 (CV.encs l7))],3⟩) (fun y=>zCP n l1 y.1 y.2.1 y.2.2=some l8) (fun y=>y.1) (n,0,y2K) hl ?_ ?_)
  ·exact(Le.rnm [(0,0),(3,1),(2,2)] _ _ _ ⟨rfl,rfl,rfl,rfl,rfl,rfl,trivial⟩ ⟨rfl,⟨_,rfl,rfl⟩,rfl,⟨_,rfl,rfl⟩,rfl,⟨_,rfl,rfl⟩,trivial⟩)
  ·rintro⟨k,x6,l7⟩ h;cases k with
   | zero=>cases h
   | succ k =>
    replace h:zCP n l1 (k+1) x6 l7=some l8:=h;rw[zCP]at h;refine zYe [] [] rfl ?_;show Tri ..;refine zAa ?_;refine zAh rfl h (fun hb h=>?_) (fun hb h=>?_)
    ·refine zAf ?_;show Tri ..;refine zAa ?_;refine zAl ?_;refine zYe [7] [13] rfl ?_;obtain⟨⟨e9A,e9U,e9T,e9Z,e9S,e9X,e9Y,e9B⟩,he9,h⟩:=zAc h;refine And.intro (zAB (fun _=>rfl) he9).1 ?_;intro r10 hr10;obtain rfl:[.int .i64 e9A,.sl 1 ((List.map (irow .i64)) e9U),.int .i64 e9T,.int .i64 e9Z,.sl 4 (Nd.encs e9S),.int .i64 e9X,.str e9Y,.str e9B]=r10:=(hr10.trans (zAB (fun _=>rfl) he9).2.1).symm;show Tri ..
     refine zAk (Le.giveBox 3 [.int .i64 e9A,.sl 1 ((List.map (irow .i64)) e9U),.int .i64 e9T,.int .i64 e9Z,.sl 4 (Nd.encs e9S),.int .i64 e9X,.str e9Y,.str e9B] rfl rfl) ?_;refine zAQ [21] [20] [1,6,8] rfl (by decide +kernel) ?_;obtain⟨⟨y11A,y11L,y11B,y11K⟩,hy11,h⟩:=zAc h;refine⟨_,⟨_,_,_,hy11,rfl,rfl⟩,?_⟩
     intro r12 hr12;obtain rfl:CV.encs [CV.mk y11A y11L y11B y11K]=r12:=(hr12.trans (by simp[List.map_append,List.map_take,List.map_drop,irow,brow,zAG,List.map_cons,List.map_nil,zAC,CV.encs_eq,CV.enc,Nd.encs_eq,Nd.enc,zAq,zAm,zAx,zAr,zAp,zAi,zAu,zAs,zAd,zAo])).symm;obtain⟨hq,h⟩:=zAK h
     refine And.intro (show((CV.encs l7).length+(CV.encs [CV.mk y11A y11L y11B y11K]).length) * 56<=140737488355328/\(CV.encs l7).length+(CV.encs [CV.mk y11A y11L y11B y11K]).length<=9223372036854775807 from by simp only[List.length_append,List.length_cons,List.length_nil,List.length_map,rlen CV.encs_eq]at hq ⊢; omega) ?_;show Tri ..
     refine zAk (Le.rnm [(0,0),(1,1),(4,2)] [(1,.s (.fn 103)),(4,.op 0 0),(5,.op 1 0),(9,.s (.sl 8 ((List.map zAi) l1))),(10,.s (.int .i64 (l1.length:Int))),(11,.s (.int .i64 x6))] [(0,.box 68 [.s (.int .i64 0),.s (.int .i64 0),.s (.str []),.nl 4]),(1,.box 68 [.s (.int .i64 y2A),.s (.int .i64 y2L),.s (.str y2B),.orow 2]),(2,.row 68 4 (CV.encs (l7++[CV.mk y11A y11L y11B y11K])))] 3 ⟨rfl,rfl,rfl,rfl,rfl,rfl,trivial⟩ ⟨rfl,⟨_,rfl,rfl⟩,rfl,⟨_,rfl,rfl⟩,rfl,⟨_,rfl,congrArg (Ob.row 68 4) (by simp[List.map_append,List.map_take,List.map_drop,irow,brow,zAG,List.map_cons,List.map_nil,zAC,CV.encs_eq,CV.enc,Nd.encs_eq,Nd.enc,zAq,zAm,zAx,zAr,zAp,zAi,zAu,zAs,zAd,zAo])⟩,trivial⟩) ?_
     refine zAb [] [] rfl ?_;refine⟨(k,IntKind.i64.wrap (x6+1),l7++[CV.mk y11A y11L y11B y11K]),h,(Le.rnm [(0,0),(1,1),(2,2)] _ _ _ ⟨rfl,rfl,rfl,rfl,rfl,rfl,trivial⟩ ⟨rfl,⟨_,rfl,rfl⟩,rfl,⟨_,rfl,rfl⟩,rfl,⟨_,rfl,rfl⟩,trivial⟩),Nat.lt_succ_self k⟩
    ·refine zAI ?_;cases h;exact(Le.rnm [(0,0),(1,1),(2,2)] _ _ _ ⟨rfl,rfl,trivial⟩ ⟨rfl,⟨_,rfl,rfl⟩,rfl,⟨_,rfl,rfl⟩,rfl,⟨_,rfl,rfl⟩,trivial⟩)
 ·show Tri ..;refine zAk hle ?_;refine zYe [] [] rfl ?_;show Tri ..;refine zAe ?_;have hy:=Option.some.inj h;subst hy;unfold zAw;exact⟨_,(Le.trans (Le.rnm [(0,0),(2,1)] [(4,.op 0 0)] [(0,.box 68 [.s (.int .i64 y2A),.s (.int .i64 y2L),.s (.str y2B),.orow 1]),(1,.row 68 4 (CV.encs l8))] 2 ⟨rfl,trivial⟩ ⟨rfl,⟨_,rfl,rfl⟩,rfl,⟨_,rfl,rfl⟩,trivial⟩) (Le.giveRow 1 rfl)),rfl,rfl⟩
def zJ4 (n:Nat) (xs:List AV) (r:Ret):Prop:=∃ (a0:zCu) (y0:CV),zDp n a0=some y0/\xs=[.agg ((zAs a0).map .s)]/\r = .val (.agg ((CV.enc y0).map .s))
def zGr:zAz:=zAy fun xs r=>∃ n,zJ4 n xs r
theorem zJN:PSound Tryz.prog 104 zGr:=by
 have gok:∀ f s,look? f [(137,zGH),(58,zES)]=some s->PSound Tryz.prog f s:=zAt (by
  simp only[List.forall_mem_cons]
  exact⟨zIu,zFm,by simp⟩)
 refine zAA tokW Tryz.call104 Tryz.func104 rfl (fun xs r h=>by obtain⟨n,_,_,_,rfl,_⟩:=h; show 1<=11; decide) 11 rfl ?_;rintro xs r w0 G0 ⟨n,⟨c1Ao,c1Ak⟩,y0,h,rfl,rfl⟩ _;rw[zDp]at h;refine zYe [2] [] rfl ?_;show Tri ..;refine zAa ?_;refine zAQ [] [9] [8] rfl (by decide +kernel) ?_;obtain⟨⟨y2A,y2L,y2B,y2K⟩,hy2,h⟩:=zAc h;refine⟨_,⟨_,_,_,hy2,rfl,rfl⟩,?_⟩
 obtain⟨⟨y3A,y3L,y3B,y3K⟩,hy3,h⟩:=zAc h;refine⟨_,⟨_,_,_,hy3,rfl,rfl⟩,?_⟩
 intro r4 hr4;obtain rfl:CV.encs [CV.mk y2A y2L y2B y2K,CV.mk y3A y3L y3B y3K]=r4:=(hr4.trans (by simp[List.map_append,List.map_take,List.map_drop,irow,brow,zAG,List.map_cons,List.map_nil,zAC,CV.encs_eq,CV.enc,Nd.encs_eq,Nd.enc,zAq,zAm,zAx,zAr,zAp,zAi,zAu,zAs,zAd,zAo])).symm;obtain⟨⟨y5A,y5L,y5B,y5K⟩,hy5,h⟩:=zAc h;refine⟨_,⟨_,_,hy5,rfl,rfl⟩,?_⟩
 show Tri ..;refine zAe ?_;have hy:=Option.some.inj h;subst hy;unfold zAw;exact⟨_,Le.refl _ _,rfl,rfl⟩
def zJ5 (n:Nat) (xs:List AV) (r:Ret):Prop:=∃ (a0:zRc) (y0:CV),zEC n a0=some y0/\xs=[.agg ((zAd a0).map .s)]/\r = .val (.agg ((CV.enc y0).map .s))
def zGs:zAz:=zAy fun xs r=>∃ n,zJ5 n xs r
theorem zJO:PSound Tryz.prog 63 zGs:=by
 have gok:∀ f s,look? f [(102,zJc),(104,zGr),(58,zES)]=some s->PSound Tryz.prog f s:=zAt (by
  simp only[List.forall_mem_cons]
  exact⟨zM7,zJN,zFm,by simp⟩)
 refine zAA tokW Tryz.call63 Tryz.func63 rfl (fun xs r h=>by obtain⟨n,_,_,_,rfl,_⟩:=h; show 1<=14; decide) 14 rfl ?_;rintro xs r w0 G0 ⟨n,⟨r1Aa,⟨r1Ab,r1Ac⟩,⟨r1Ad,r1Ae⟩⟩,y0,h,rfl,rfl⟩ _;rw[zEC]at h;refine zYe [2] [] rfl ?_;show Tri ..;refine zAa ?_;refine zAQ [] [12] [11] rfl (by decide +kernel) ?_;obtain⟨⟨y2A,y2L,y2B,y2K⟩,hy2,h⟩:=zAc h;refine⟨_,⟨_,_,_,hy2,rfl,rfl⟩,?_⟩
 obtain⟨⟨y3A,y3L,y3B,y3K⟩,hy3,h⟩:=zAc h;refine⟨_,⟨_,_,_,hy3,rfl,rfl⟩,?_⟩
 obtain⟨⟨y4A,y4L,y4B,y4K⟩,hy4,h⟩:=zAc h;refine⟨_,⟨_,_,_,hy4,rfl,rfl⟩,?_⟩
 intro r5 hr5;obtain rfl:CV.encs [CV.mk y2A y2L y2B y2K,CV.mk y3A y3L y3B y3K,CV.mk y4A y4L y4B y4K]=r5:=(hr5.trans (by simp[List.map_append,List.map_take,List.map_drop,irow,brow,zAG,List.map_cons,List.map_nil,zAC,CV.encs_eq,CV.enc,Nd.encs_eq,Nd.enc,zAq,zAm,zAx,zAr,zAp,zAi,zAu,zAs,zAd,zAo])).symm;obtain⟨⟨y6A,y6L,y6B,y6K⟩,hy6,h⟩:=zAc h;refine⟨_,⟨_,_,hy6,rfl,rfl⟩,?_⟩
 show Tri ..;refine zAe ?_;have hy:=Option.some.inj h;subst hy;unfold zAw;exact⟨_,Le.refl _ _,rfl,rfl⟩
def zJ3 (n:Nat) (xs:List AV) (r:Ret):Prop:=∃ (a0:List zRc) (y0:CV),zEA n a0=some y0/\xs=[.s (.sl 5 ((List.map zAd) a0)),.s (.fn 63)]/\r = .val (.agg ((CV.enc y0).map .s))
def zGq:zAz:=zAy fun xs r=>∃ n,zJ3 n xs r
theorem zJM:PSound Tryz.prog 62 zGq:=by
 have gok:∀ f s,look? f [(58,zDs),(63,zGs)]=some s->PSound Tryz.prog f s:=zAt (by
  simp only[List.forall_mem_cons]
  exact⟨zEb,zJO,by simp⟩)
 refine zAA tokW Tryz.call62 Tryz.func62 rfl (fun xs r h=>by obtain⟨n,_,_,_,rfl,_⟩:=h; show 2<=25; decide) 25 rfl ?_;rintro xs r w0 G0 ⟨n,l1,y0,h,rfl,rfl⟩ _;rw[zEA]at h;refine zYe [4] [] rfl ?_;show Tri ..;refine zYe [5] [] rfl ?_;obtain⟨⟨y2A,y2L,y2B,y2K⟩,hy2,h⟩:=zAc h;refine⟨_,_,⟨_,hy2,rfl,rfl,rfl,rfl⟩,?_⟩
 show Tri ..;refine zAa ?_;refine zYe [] [10] rfl ?_;intro n3 hn3;obtain rfl:(l1.length:Int)=n3:=(hn3.trans (congrArg (fun m:Nat=>(m:Int)) (rlen (fun _=>rfl) l1))).symm;show Tri ..;obtain⟨l8,hl,h⟩:=zAc h;refine zAv ⟨ofL [(4,.op 0 0),(5,.op 1 0)],ofH [(0,.box 68 [.s (.int .i64 0),.s (.int .i64 0),.s (.str []),.nl 4]),(1,.box 68 [.s (.int .i64 y2A),.s (.int .i64 y2L),.s (.str y2B),.orow 2]),(2,.row 68 4 (CV.encs l8))],3⟩ ?_ (fun σ' hle=>?_)
 ·refine zAl (zAF (X:=Nat×Int×(List CV)) (fun y=>match y with | (k,x6,l7)=>⟨ofL [(1,.s (.fn 63)),(4,.op 0 0),(5,.op 1 0),(9,.s (.sl 5 ((List.map zAd) l1))),(10,.s (.int .i64 (l1.length:Int))),(11,.s (.int .i64 x6))],ofH [(0,.box 68 [.s (.int .i64 0),.s (.int .i64 0),.s (.str []),.nl 4]),(1,.box 68 [.s (.int .i64 y2A),.s (.int .i64 y2L),.s (.str y2B),.orow 2]),(2,.row 68 4 (CV.encs l7))],3⟩) (fun y=>zBP n l1 y.1 y.2.1 y.2.2=some l8) (fun y=>y.1) (n,0,y2K) hl ?_ ?_)
  ·exact(Le.rnm [(0,0),(3,1),(2,2)] _ _ _ ⟨rfl,rfl,rfl,rfl,rfl,rfl,trivial⟩ ⟨rfl,⟨_,rfl,rfl⟩,rfl,⟨_,rfl,rfl⟩,rfl,⟨_,rfl,rfl⟩,trivial⟩)
  ·rintro⟨k,x6,l7⟩ h;cases k with
   | zero=>cases h
   | succ k =>
    replace h:zBP n l1 (k+1) x6 l7=some l8:=h;rw[zBP]at h;refine zYe [] [] rfl ?_;show Tri ..;refine zAa ?_;refine zAh rfl h (fun hb h=>?_) (fun hb h=>?_)
    ·refine zAf ?_;show Tri ..;refine zAa ?_;refine zAl ?_;refine zYe [7] [13] rfl ?_;obtain⟨⟨e9Aa,⟨e9Ab,e9Ac⟩,⟨e9Ad,e9Ae⟩⟩,he9,h⟩:=zAc h;refine And.intro (zAB (fun _=>rfl) he9).1 ?_;intro r10 hr10;obtain rfl:[.sl 8 ((List.map zAi) e9Aa),.sl 1 ((List.map (irow .i64)) e9Ab),.sl 1 ((List.map (irow .i64)) e9Ac),.sl 1 ((List.map (irow .i64)) e9Ad),.sl 1 ((List.map (irow .i64)) e9Ae)]=r10:=(hr10.trans (zAB (fun _=>rfl) he9).2.1).symm;show Tri ..
     refine zAk (Le.giveBox 3 [.sl 8 ((List.map zAi) e9Aa),.sl 1 ((List.map (irow .i64)) e9Ab),.sl 1 ((List.map (irow .i64)) e9Ac),.sl 1 ((List.map (irow .i64)) e9Ad),.sl 1 ((List.map (irow .i64)) e9Ae)] rfl rfl) ?_;refine zAQ [21] [20] [1,6,8] rfl (by decide +kernel) ?_;obtain⟨⟨y11A,y11L,y11B,y11K⟩,hy11,h⟩:=zAc h;refine⟨_,⟨_,_,_,hy11,rfl,rfl⟩,?_⟩
     intro r12 hr12;obtain rfl:CV.encs [CV.mk y11A y11L y11B y11K]=r12:=(hr12.trans (by simp[List.map_append,List.map_take,List.map_drop,irow,brow,zAG,List.map_cons,List.map_nil,zAC,CV.encs_eq,CV.enc,Nd.encs_eq,Nd.enc,zAq,zAm,zAx,zAr,zAp,zAi,zAu,zAs,zAd,zAo])).symm;obtain⟨hq,h⟩:=zAK h
     refine And.intro (show((CV.encs l7).length+(CV.encs [CV.mk y11A y11L y11B y11K]).length) * 56<=140737488355328/\(CV.encs l7).length+(CV.encs [CV.mk y11A y11L y11B y11K]).length<=9223372036854775807 from by simp only[List.length_append,List.length_cons,List.length_nil,List.length_map,rlen CV.encs_eq]at hq ⊢; omega) ?_;show Tri ..
     refine zAk (Le.rnm [(0,0),(1,1),(4,2)] [(1,.s (.fn 63)),(4,.op 0 0),(5,.op 1 0),(9,.s (.sl 5 ((List.map zAd) l1))),(10,.s (.int .i64 (l1.length:Int))),(11,.s (.int .i64 x6))] [(0,.box 68 [.s (.int .i64 0),.s (.int .i64 0),.s (.str []),.nl 4]),(1,.box 68 [.s (.int .i64 y2A),.s (.int .i64 y2L),.s (.str y2B),.orow 2]),(2,.row 68 4 (CV.encs (l7++[CV.mk y11A y11L y11B y11K])))] 3 ⟨rfl,rfl,rfl,rfl,rfl,rfl,trivial⟩ ⟨rfl,⟨_,rfl,rfl⟩,rfl,⟨_,rfl,rfl⟩,rfl,⟨_,rfl,congrArg (Ob.row 68 4) (by simp[List.map_append,List.map_take,List.map_drop,irow,brow,zAG,List.map_cons,List.map_nil,zAC,CV.encs_eq,CV.enc,Nd.encs_eq,Nd.enc,zAq,zAm,zAx,zAr,zAp,zAi,zAu,zAs,zAd,zAo])⟩,trivial⟩) ?_
     refine zAb [] [] rfl ?_;refine⟨(k,IntKind.i64.wrap (x6+1),l7++[CV.mk y11A y11L y11B y11K]),h,(Le.rnm [(0,0),(1,1),(2,2)] _ _ _ ⟨rfl,rfl,rfl,rfl,rfl,rfl,trivial⟩ ⟨rfl,⟨_,rfl,rfl⟩,rfl,⟨_,rfl,rfl⟩,rfl,⟨_,rfl,rfl⟩,trivial⟩),Nat.lt_succ_self k⟩
    ·refine zAI ?_;cases h;exact(Le.rnm [(0,0),(1,1),(2,2)] _ _ _ ⟨rfl,rfl,trivial⟩ ⟨rfl,⟨_,rfl,rfl⟩,rfl,⟨_,rfl,rfl⟩,rfl,⟨_,rfl,rfl⟩,trivial⟩)
 ·show Tri ..;refine zAk hle ?_;refine zYe [] [] rfl ?_;show Tri ..;refine zAe ?_;have hy:=Option.some.inj h;subst hy;unfold zAw;exact⟨_,(Le.trans (Le.rnm [(0,0),(2,1)] [(4,.op 0 0)] [(0,.box 68 [.s (.int .i64 y2A),.s (.int .i64 y2L),.s (.str y2B),.orow 1]),(1,.row 68 4 (CV.encs l8))] 2 ⟨rfl,trivial⟩ ⟨rfl,⟨_,rfl,rfl⟩,rfl,⟨_,rfl,rfl⟩,trivial⟩) (Le.giveRow 1 rfl)),rfl,rfl⟩
def zIU (n:Nat) (xs:List AV) (r:Ret):Prop:=∃ (a0:(List UInt8×Nd×List zRc×Int)) (y0:CV),zD0 n a0=some y0/\xs=[.agg ((zAo a0).map .s)]/\r = .val (.agg ((CV.enc y0).map .s))
def zFx:zAz:=zAy fun xs r=>∃ n,zIU n xs r
theorem zIx:PSound Tryz.prog 27 zFx:=by
 have gok:∀ f s,look? f [(59,zHo),(60,zHK),(61,zEy),(62,zGq),(58,zES)]=some s->PSound Tryz.prog f s:=zAt (by
  simp only[List.forall_mem_cons]
  exact⟨zIv,zK2,zE8,zJM,zFm,by simp⟩)
 refine zAA tokW Tryz.call27 Tryz.func27 rfl (fun xs r h=>by obtain⟨n,_,_,_,rfl,_⟩:=h; show 1<=17; decide) 17 rfl ?_;rintro xs r w0 G0 ⟨n,⟨d1Af,⟨d1G,d1H,d1I,d1J⟩,d1E,d1F⟩,y0,h,rfl,rfl⟩ _;rw[zD0]at h;refine zYe [2] [] rfl ?_;show Tri ..;refine zAa ?_;refine zAQ [] [15] [14] rfl (by decide +kernel) ?_;obtain⟨⟨y2A,y2L,y2B,y2K⟩,hy2,h⟩:=zAc h;refine⟨_,⟨_,_,hy2,rfl,rfl⟩,?_⟩
 obtain⟨⟨y3A,y3L,y3B,y3K⟩,hy3,h⟩:=zAc h;refine⟨_,⟨_,_,_,hy3,rfl,rfl⟩,?_⟩
 obtain⟨⟨y4A,y4L,y4B,y4K⟩,hy4,h⟩:=zAc h;refine⟨_,⟨_,_,hy4,rfl,rfl⟩,?_⟩
 obtain⟨⟨y5A,y5L,y5B,y5K⟩,hy5,h⟩:=zAc h;refine⟨_,⟨_,_,_,hy5,rfl,rfl⟩,?_⟩
 intro r6 hr6;obtain rfl:CV.encs [CV.mk y2A y2L y2B y2K,CV.mk y3A y3L y3B y3K,CV.mk y4A y4L y4B y4K,CV.mk y5A y5L y5B y5K]=r6:=(hr6.trans (by simp[List.map_append,List.map_take,List.map_drop,irow,brow,zAG,List.map_cons,List.map_nil,zAC,CV.encs_eq,CV.enc,Nd.encs_eq,Nd.enc,zAq,zAm,zAx,zAr,zAp,zAi,zAu,zAs,zAd,zAo])).symm;obtain⟨⟨y7A,y7L,y7B,y7K⟩,hy7,h⟩:=zAc h;refine⟨_,⟨_,_,hy7,rfl,rfl⟩,?_⟩
 show Tri ..;refine zAe ?_;have hy:=Option.some.inj h;subst hy;unfold zAw;exact⟨_,Le.refl _ _,rfl,rfl⟩
def zSk (n:Nat) (xs:List AV) (r:Ret):Prop:=∃ (a0:(List UInt8×Nd×List zRc×Int)) (y0:List UInt8) (y1:Int),zJJ n a0=some (y0,y1)/\xs=[.agg ((zAo a0).map .s)]/\r = .val (.tup [.s (.sl 1 ((List.map brow) y0)),.s (.int .i64 y1)])
def zMn:zAz:=zAy fun xs r=>∃ n,zSk n xs r
theorem zRE:PSound Tryz.prog 10 zMn:=by
 have gok:∀ f s,look? f [(12,zGp),(27,zFx),(26,zI7),(28,zJa)]=some s->PSound Tryz.prog f s:=zAt (by
  simp only[List.forall_mem_cons]
  exact⟨zHz,zIx,zM1,zM5,by simp⟩)
 refine zAA tokW Tryz.call10 Tryz.func10 rfl (fun xs r h=>by obtain⟨n,_,_,_,_,rfl,_⟩:=h; show 1<=42; decide) 42 rfl ?_;rintro xs r w0 G0 ⟨n,⟨d1Af,⟨d1G,d1H,d1I,d1J⟩,d1E,d1F⟩,y0,y1,h,rfl,rfl⟩ _;rw[zJJ]at h;refine zYe [2] [] rfl ?_;show Tri ..;refine zAk (Le.rnm [] [(1,.s (.pt [.str d1Af,.int .i64 d1G,.str d1H,.int .i64 d1I,.sl 4 (Nd.encs d1J),.sl 5 ((List.map zAd) d1E),.int .i64 d1F]))] [] 0 ⟨rfl,trivial⟩ trivial) ?_;refine zAa ?_;refine zYe [] [] rfl ?_
 obtain⟨y2,hy2,h⟩:=zAc h;refine⟨_,⟨_,_,_,hy2,rfl,rfl⟩,?_⟩
 show Tri ..;refine zAh rfl h (fun hb h=>?_) (fun hb h=>?_)
 ·refine zYe [2] [] rfl ?_;show Tri ..;refine zAk (Le.rnm [(0,0)] [(2,.orow 0),(3,.s (.int .i64 1))] [(0,.row 5 1 ((List.map brow) []))] 1 ⟨rfl,rfl,trivial⟩ ⟨rfl,⟨_,rfl,congrArg (Ob.row 5 1) (by simp[List.map_append,List.map_take,List.map_drop,irow,brow,zAG,List.map_cons,List.map_nil,zAC,Nd.encs_eq,Nd.enc,CV.encs_eq,CV.enc,zAq,zAm,zAx,zAr,zAp,zAi,zAu,zAs,zAd,zAo])⟩,trivial⟩) ?_;refine zAe ?_;obtain⟨hj1,hk1⟩:=pij h;subst hj1 hk1;unfold zAw
  exact⟨_,(Le.trans (Le.rnm [(0,0)] [(2,.orow 0),(3,.s (.int .i64 1))] [(0,.row 5 1 ((List.map brow) []))] 1 ⟨rfl,rfl,trivial⟩ ⟨rfl,⟨_,rfl,rfl⟩,trivial⟩) (Le.giveRow 0 rfl)),rfl,rfl⟩
 ·refine zAf ?_;show Tri ..;refine zYe [] [] rfl ?_;obtain⟨⟨y3A,y3L,y3B,y3K⟩,hy3,h⟩:=zAc h;refine⟨_,⟨_,_,_,hy3,rfl,rfl⟩,?_⟩
  obtain⟨⟨y4,y5⟩,hy4,h⟩:=zAc h;refine⟨_,⟨_,_,_,_,hy4,rfl,rfl⟩,?_⟩
  show Tri ..;refine zAa ?_;refine zYe [] [] rfl ?_;show Tri ..;refine zAh rfl h (fun hb h=>?_) (fun hb h=>?_)
  ·refine zYe [2] [] rfl ?_;show Tri ..;refine zAk (Le.rnm [(0,0)] [(2,.orow 0),(3,.s (.int .i64 6))] [(0,.row 5 1 ((List.map brow) []))] 1 ⟨rfl,rfl,trivial⟩ ⟨rfl,⟨_,rfl,congrArg (Ob.row 5 1) (by simp[List.map_append,List.map_take,List.map_drop,irow,brow,zAG,List.map_cons,List.map_nil,zAC,Nd.encs_eq,Nd.enc,CV.encs_eq,CV.enc,zAq,zAm,zAx,zAr,zAp,zAi,zAu,zAs,zAd,zAo])⟩,trivial⟩) ?_;refine zAe ?_;obtain⟨hj1,hk1⟩:=pij h;subst hj1 hk1;unfold zAw
   exact⟨_,(Le.trans (Le.rnm [(0,0)] [(2,.orow 0),(3,.s (.int .i64 6))] [(0,.row 5 1 ((List.map brow) []))] 1 ⟨rfl,rfl,trivial⟩ ⟨rfl,⟨_,rfl,rfl⟩,trivial⟩) (Le.giveRow 0 rfl)),rfl,rfl⟩
  ·refine zAf ?_;show Tri ..;refine zYe [23] [21] rfl ?_;intro n6 hn6;obtain rfl:(y4.length:Int)=n6:=(hn6.trans (congrArg (fun m:Nat=>(m:Int)) (rlen (fun _=>rfl) y4))).symm;obtain⟨hq,h⟩:=zAK h;refine And.intro (show 0<=(0:Int)/\(0:Int)<=(IntKind.i64.wrap (12+(y4.length:Int)))/\(IntKind.i64.wrap (12+(y4.length:Int))) * ((1:Nat):Int)<=281474976710656/\(IntKind.i64.wrap (12+(y4.length:Int)))<=281474976710656 from⟨hq.1,hq.2.1,by have h1:=hq.1; have h2:=hq.2.1; have h3:=hq.2.2; omega,by have h3:=hq.2.2; omega⟩) ?_;show Tri ..
   refine zAk (Le.rnm [(0,0)] [(4,.s (.sl 1 ((List.map brow) y4))),(6,.orow 0)] [(0,.row 5 1 ((List.map brow) (List.replicate (0:Int).toNat (b8of 0))))] 1 ⟨rfl,rfl,trivial⟩ ⟨rfl,⟨_,rfl,congrArg (Ob.row 5 1) (by simp[List.map_append,List.map_take,List.map_drop,irow,brow,zAG,List.map_cons,List.map_nil,zAC,Nd.encs_eq,Nd.enc,CV.encs_eq,CV.enc,zAq,zAm,zAx,zAr,zAp,zAi,zAu,zAs,zAd,zAo])⟩,trivial⟩) ?_;refine zYe [25] [] rfl ?_;obtain⟨hq,h⟩:=zAK h
   refine And.intro (show(((List.map brow) (List.replicate (0:Int).toNat (b8of 0))).length+(List.map brow [86,67,76,49]).length) * 1<=140737488355328/\((List.map brow) (List.replicate (0:Int).toNat (b8of 0))).length+(List.map brow [86,67,76,49]).length<=9223372036854775807 from by simp only[List.length_append,List.length_cons,List.length_nil,List.length_map,rlen (fun _=>rfl)]at hq ⊢; omega) ?_;show Tri ..
   refine zAk (Le.rnm [(1,0)] [(4,.s (.sl 1 ((List.map brow) y4))),(6,.orow 0)] [(0,.row 5 1 ((List.map brow) ((List.replicate (0:Int).toNat (b8of 0))++[86,67,76,49])))] 1 ⟨rfl,rfl,trivial⟩ ⟨rfl,⟨_,rfl,congrArg (Ob.row 5 1) (by simp[List.map_append,List.map_take,List.map_drop,irow,brow,zAG,List.map_cons,List.map_nil,zAC,Nd.encs_eq,Nd.enc,CV.encs_eq,CV.enc,zAq,zAm,zAx,zAr,zAp,zAi,zAu,zAs,zAd,zAo])⟩,trivial⟩) ?_;refine zYe [] [] rfl ?_;obtain⟨y7,hy7,h⟩:=zAc h
   refine⟨_,⟨_,_,_,hy7,rfl,rfl⟩,?_⟩
   show Tri ..;refine zAa ?_;refine zYe [] [] rfl ?_;show Tri ..;obtain⟨l11,hl,h⟩:=zAc h;refine zAv ⟨ofL [(4,.s (.sl 1 ((List.map brow) y4))),(6,.orow 0)],ofH [(0,.row 5 1 ((List.map brow) l11))],1⟩ ?_ (fun σ' hle=>?_)
   ·refine zAl (zAF (X:=Nat×Int×(List UInt8)) (fun y=>match y with | (k,shift9,l10)=>⟨ofL [(4,.s (.sl 1 ((List.map brow) y4))),(6,.orow 0),(7,.s (.int .u64 y7)),(8,.s (.int .i64 shift9))],ofH [(0,.row 5 1 ((List.map brow) l10))],1⟩) (fun y=>zD5 y7 y.1 y.2.1 y.2.2=some l11) (fun y=>y.1) (n,56,(List.replicate (0:Int).toNat (b8of 0))++[86,67,76,49]) hl ?_ ?_)
    ·exact(Le.rnm [(0,0)] _ _ _ ⟨rfl,rfl,rfl,rfl,trivial⟩ ⟨rfl,⟨_,rfl,rfl⟩,trivial⟩)
    ·rintro⟨k,shift9,l10⟩ h;cases k with
     | zero=>cases h
     | succ k =>
      replace h:zD5 y7 (k+1) shift9 l10=some l11:=h;rw[zD5]at h;refine zAa ?_;refine zYe [] [] rfl ?_;show Tri ..;refine zAh rfl h (fun hb h=>?_) (fun hb h=>?_)
      ·refine zAf ?_;show Tri ..;refine zAa ?_;refine zAl ?_;refine zAb [38] [37] rfl ?_;obtain⟨hq,h⟩:=zAK h;refine And.intro hq ?_;intro r12 hr12;obtain rfl:(List.map brow) [b8of (IntKind.u8.wrap (y7.fdiv (2 ^ (min shift9.toNat IntKind.u64.bits))))]=r12:=(hr12.trans (by simp[List.map_append,List.map_take,List.map_drop,irow,brow,zAG,List.map_cons,List.map_nil,zAC,Nd.encs_eq,Nd.enc,CV.encs_eq,CV.enc,zAq,zAm,zAx,zAr,zAp,zAi,zAu,zAs,zAd,zAo])).symm;obtain⟨hq,h⟩:=zAK h
       refine And.intro (show(((List.map brow) l10).length+((List.map brow) [b8of (IntKind.u8.wrap (y7.fdiv (2 ^ (min shift9.toNat IntKind.u64.bits))))]).length) * 1<=140737488355328/\((List.map brow) l10).length+((List.map brow) [b8of (IntKind.u8.wrap (y7.fdiv (2 ^ (min shift9.toNat IntKind.u64.bits))))]).length<=9223372036854775807 from by simp only[List.length_append,List.length_cons,List.length_nil,List.length_map,rlen (fun _=>rfl)]at hq ⊢; omega) ?_;show Tri ..
       refine zAk (Le.rnm [(1,0)] [(4,.s (.sl 1 ((List.map brow) y4))),(6,.orow 0),(7,.s (.int .u64 y7)),(8,.s (.int .i64 shift9))] [(0,.row 5 1 ((List.map brow) (l10++[b8of (IntKind.u8.wrap (y7.fdiv (2 ^ (min shift9.toNat IntKind.u64.bits))))])))] 1 ⟨rfl,rfl,rfl,rfl,trivial⟩ ⟨rfl,⟨_,rfl,congrArg (Ob.row 5 1) (by simp[List.map_append,List.map_take,List.map_drop,irow,brow,zAG,List.map_cons,List.map_nil,zAC,Nd.encs_eq,Nd.enc,CV.encs_eq,CV.enc,zAq,zAm,zAx,zAr,zAp,zAi,zAu,zAs,zAd,zAo])⟩,trivial⟩) ?_
       refine zAb [] [] rfl ?_;refine⟨(k,IntKind.i64.wrap (shift9 - 8),l10++[b8of (IntKind.u8.wrap (y7.fdiv (2 ^ (min shift9.toNat IntKind.u64.bits))))]),h,(Le.rnm [(0,0)] _ _ _ ⟨rfl,rfl,rfl,rfl,trivial⟩ ⟨rfl,⟨_,rfl,rfl⟩,trivial⟩),Nat.lt_succ_self k⟩
      ·refine zAI ?_;cases h;exact(Le.rnm [(0,0)] _ _ _ ⟨rfl,rfl,trivial⟩ ⟨rfl,⟨_,rfl,rfl⟩,trivial⟩)
   ·show Tri ..;refine zAk hle ?_;refine zYe [41] [] rfl ?_;obtain⟨hq,h⟩:=zAK h;refine And.intro (show(((List.map brow) l11).length+((List.map brow) y4).length) * 1<=140737488355328/\((List.map brow) l11).length+((List.map brow) y4).length<=9223372036854775807 from by simp only[List.length_append,List.length_cons,List.length_nil,List.length_map,rlen (fun _=>rfl)]at hq ⊢; omega) ?_;show Tri ..
    refine zAk (Le.rnm [(1,0)] [(2,.orow 0),(3,.s (.int .i64 0))] [(0,.row 5 1 ((List.map brow) (l11++y4)))] 1 ⟨rfl,rfl,trivial⟩ ⟨rfl,⟨_,rfl,congrArg (Ob.row 5 1) (by simp[List.map_append,List.map_take,List.map_drop,irow,brow,zAG,List.map_cons,List.map_nil,zAC,Nd.encs_eq,Nd.enc,CV.encs_eq,CV.enc,zAq,zAm,zAx,zAr,zAp,zAi,zAu,zAs,zAd,zAo])⟩,trivial⟩) ?_;refine zAe ?_;obtain⟨hj1,hk1⟩:=pij h;subst hj1 hk1;unfold zAw
    exact⟨_,(Le.trans (Le.rnm [(0,0)] [(2,.orow 0),(3,.s (.int .i64 0))] [(0,.row 5 1 ((List.map brow) (l11++y4)))] 1 ⟨rfl,rfl,trivial⟩ ⟨rfl,⟨_,rfl,rfl⟩,trivial⟩) (Le.giveRow 0 rfl)),rfl,rfl⟩
def zSn (n:Nat) (xs:List AV) (r:Ret):Prop:=∃ (y0:Bool),zEY n=some y0/\xs=[]/\r = .val (.s (.bool y0))
def zMo:zAz:=zAy fun xs r=>∃ n,zSn n xs r
theorem zRF:PSound Tryz.prog 8 zMo:=by
 have gok:∀ f s,look? f [(10,zMn)]=some s->PSound Tryz.prog f s:=zAt (by
  simp only[List.forall_mem_cons]
  exact⟨zRE,by simp⟩)
 refine zAA tokW Tryz.call8 Tryz.func8 rfl (fun xs r h=>by obtain⟨n,_,_,rfl,_⟩:=h; show 0<=22; decide) 22 rfl ?_;rintro xs r w0 G0 ⟨n,y0,h,rfl,rfl⟩ _;rw[zEY]at h;refine zYe [] [] rfl ?_;show Tri ..;refine zYe [] [] rfl ?_;obtain⟨⟨y1,y2⟩,hy1,h⟩:=zAc h;refine⟨_,⟨_,_,_,_,hy1,rfl,rfl⟩,?_⟩
 show Tri ..;refine zAa ?_;obtain⟨x3,hj,h⟩:=zAc h;refine zAv ⟨ofL [(0,.s (.bool x3))],fun _=>none,0⟩ ?_ (fun σ' hle=>?_)
 ·replace h:=hj;refine zAb [] [11,13,16,18,19] rfl ?_;intro b hb;cases b with
  | true =>
   replace h:=zAE hb.symm h;intro n4 hn4;obtain rfl:(y1.length:Int)=n4:=(hn4.trans (congrArg (fun m:Nat=>(m:Int)) (rlen (fun _=>rfl) y1))).symm;intro b hb;cases b with
   | true =>
    replace h:=zAE hb.symm h;obtain⟨hq,h⟩:=zAK h;refine And.intro ⟨hq.1,Int.le_trans hq.2.1 (Int.ofNat_le.2 (Nat.le_of_eq (rlen (fun _=>rfl) _).symm)),Int.le_refl _⟩ ?_;intro r5 hr5;obtain rfl:(List.map brow) ((y1.take (y1.length:Int).toNat).drop (12:Int).toNat)=r5:=(hr5.trans ((congrArg (fun m:Nat=>(((List.map brow) y1).take m).drop (12:Int).toNat) (rlen (fun _=>rfl) _)).trans (rcut (fun _=>rfl) _ _ _))).symm;refine And.intro (show List.map brow ((y1.take (y1.length:Int).toNat).drop (12:Int).toNat)=((List.map brow ((y1.take (y1.length:Int).toNat).drop (12:Int).toNat)).map zJl).map brow from by rw[zQ5]) ?_;intro s6 hs6
    obtain rfl:(y1.take (y1.length:Int).toNat).drop (12:Int).toNat=s6:=(hs6.trans (zQ5 _)).symm;cases h;exact(Le.forget _ ⟨rfl,trivial⟩)
   | false =>
    replace h:=zAD hb.symm h;cases h;exact(Le.forget _ ⟨rfl,trivial⟩)
  | false =>
   replace h:=zAD hb.symm h;intro b hb;subst hb;cases h;exact(Le.forget _ ⟨rfl,trivial⟩)
 ·show Tri ..;refine zAk hle ?_;refine zAe ?_;have hy:=Option.some.inj h;subst hy;unfold zAw;exact⟨_,Le.refl _ _,rfl,rfl⟩
def zSr (xs:List AV) (r:Ret):Prop:=∃ (a0:List Nd) (y0:Nd),zC4 a0=some y0/\xs=[.s (.sl 4 (Nd.encs a0))]/\r = .val (.agg ((Nd.enc y0).map .s))
def zFX:zAz:=zAy fun xs r=>zSr xs r
theorem zGz:PSound Tryz.prog 54 zFX:=by
 have gok:=@gok0 Tryz.prog;refine zAA tokW Tryz.call54 Tryz.func54 rfl (fun xs r h=>by obtain⟨_,_,_,rfl,_⟩:=h; show 1<=5; decide) 5 rfl ?_;rintro xs r w0 G0 ⟨l1,y0,h,rfl,rfl⟩ _;rw[zC4]at h;refine zYe [2] [] rfl ?_;show Tri ..;refine zYe [] [] rfl ?_;show Tri ..;refine zAe ?_;have hy:=Option.some.inj h;subst hy;unfold zAw;exact⟨_,Le.refl _ _,rfl,rfl⟩
def zG0 (n:Nat) (xs:List AV) (r:Ret):Prop:=∃ (a0:Nd) (a1:Int) (y0:Int),zDR n a0 a1=some y0/\xs=[.agg ((Nd.enc a0).map .s),.s (.int .i64 a1)]/\r = .val (.s (.int .i64 y0))
theorem zQn (n:Nat) (ih:PSound Tryz.prog 55 (zAy (zG0 n))):PSound Tryz.prog 55 (zAy (zG0 (n+1))):=by
 have gok:∀ f s,look? f [(55,zAy (zG0 n))]=some s->PSound Tryz.prog f s:=zAt (by
  simp only[List.forall_mem_cons]
  exact⟨ih,by simp⟩)
 refine zAA tokW Tryz.call55 Tryz.func55 rfl (fun xs r h=>by obtain⟨_,_,_,_,rfl,_⟩:=h; show 2<=27; decide) 27 rfl ?_;rintro xs r w0 G0 ⟨⟨n1A,n1B,n1D,n1C⟩,most2,y0,h,rfl,rfl⟩ _;rw[zDR]at h;refine zYe [] [] rfl ?_;show Tri ..;refine zYe [] [] rfl ?_;show Tri ..;refine zAa ?_;refine zYe [] [] rfl ?_;show Tri ..;obtain⟨most5,hl,h⟩:=zAc h;refine zAv ⟨ofL [(1,.s (.int .i64 most5))],fun _=>none,0⟩ ?_ (fun σ' hle=>?_)
 ·refine zAl (zAF (X:=Nat×Int×Int) (fun y=>match y with | (k,most3,i4)=>⟨ofL [(1,.s (.int .i64 most3)),(2,.s (.pt [.int .i64 n1A,.str n1B,.int .i64 n1D,.sl 4 (Nd.encs n1C)])),(5,.s (.int .i64 i4))],fun _=>none,0⟩) (fun y=>zCz (zDR n) n1C y.1 y.2.1 y.2.2=some most5) (fun y=>y.1) (n,IntKind.i64.wrap (most2 - 1),0) hl ?_ ?_)
  ·exact(Le.forget _ ⟨rfl,rfl,rfl,trivial⟩)
  ·rintro⟨k,most3,i4⟩ h;cases k with
   | zero=>cases h
   | succ k =>
    replace h:zCz (zDR n) n1C (k+1) most3 i4=some most5:=h;rw[zCz]at h;refine zAa ?_;refine zAa ?_;obtain⟨x6,hj,h⟩:=zAc h;refine zAv ⟨ofL [(1,.s (.int .i64 most3)),(2,.s (.pt [.int .i64 n1A,.str n1B,.int .i64 n1D,.sl 4 (Nd.encs n1C)])),(5,.s (.int .i64 i4)),(16,.s (.bool x6))],fun _=>none,0⟩ ?_ (fun σ' hle=>?_)
    ·replace h:=hj;refine zAb [] [11,13] rfl ?_;intro n7 hn7;obtain rfl:(n1C.length:Int)=n7:=(hn7.trans (congrArg (fun m:Nat=>(m:Int)) (rlen Nd.encs_eq n1C))).symm;intro b hb;cases b with
     | true =>
      replace h:=zAE hb.symm h;cases h;exact(Le.forget _ ⟨rfl,rfl,rfl,rfl,trivial⟩)
     | false =>
      replace h:=zAD hb.symm h;cases h;exact(Le.forget _ ⟨rfl,rfl,rfl,rfl,trivial⟩)
    ·show Tri ..;refine zAk hle ?_;refine zAh rfl h (fun hb h=>?_) (fun hb h=>?_)
     ·refine zAf ?_;show Tri ..;refine zAa ?_;refine zAl ?_;refine zAb [] [22] rfl ?_;obtain⟨⟨e8A,e8B,e8D,e8C⟩,he8,h⟩:=zAc h;refine And.intro (zAB Nd.encs_eq he8).1 ?_;intro r9 hr9;obtain rfl:[.int .i64 e8A,.str e8B,.int .i64 e8D,.sl 4 (Nd.encs e8C)]=r9:=(hr9.trans (zAB Nd.encs_eq he8).2.1).symm;obtain⟨y10,hy10,h⟩:=zAc h;refine⟨_,⟨_,_,_,hy10,rfl,rfl⟩,?_⟩
      show Tri ..;refine zAb [] [] rfl ?_;refine⟨(k,y10,IntKind.i64.wrap (i4+1)),h,(Le.forget _ ⟨rfl,rfl,rfl,trivial⟩),Nat.lt_succ_self k⟩
     ·refine zAI ?_;cases h;exact(Le.forget _ ⟨rfl,trivial⟩)
 ·show Tri ..;refine zAk hle ?_;refine zYe [] [] rfl ?_;show Tri ..;refine zAe ?_;have hy:=Option.some.inj h;subst hy;unfold zAw;exact⟨_,Le.refl _ _,rfl,rfl⟩
theorem zQ1:∀ n,PSound Tryz.prog 55 (zAy (zG0 n)):=by
 intro n
 induction n with
 | zero=>exact zBI Tryz.call55 (fun xs r h=>by obtain⟨_,_,_,h,_⟩:=h; cases h)
 | succ n ih=>exact zQn n ih
def zOt:zAz:=zAy fun xs r=>∃ n,zG0 n xs r
theorem zSS:PSound Tryz.prog 55 zOt:=zCb zQ1
def zUK (n:Nat) (xs:List AV) (r:Ret):Prop:=∃ (a0:Nd) (a1:Int) (y0:Bool),zHc n a0 a1=some y0/\xs=[.agg ((Nd.enc a0).map .s),.s (.int .i64 a1)]/\r = .val (.s (.bool y0))
def zMu:zAz:=zAy fun xs r=>∃ n,zUK n xs r
theorem zOR:PSound Tryz.prog 25 zMu:=by
 have gok:∀ f s,look? f [(55,zOt)]=some s->PSound Tryz.prog f s:=zAt (by
  simp only[List.forall_mem_cons]
  exact⟨zSS,by simp⟩)
 refine zAA tokW Tryz.call25 Tryz.func25 rfl (fun xs r h=>by obtain⟨n,_,_,_,_,rfl,_⟩:=h; show 2<=9; decide) 9 rfl ?_;rintro xs r w0 G0 ⟨n,⟨n1A,n1B,n1D,n1C⟩,most2,y0,h,rfl,rfl⟩ _;rw[zHc]at h;refine zYe [] [] rfl ?_;show Tri ..;refine zYe [] [] rfl ?_;obtain⟨y3,hy3,h⟩:=zAc h;refine⟨_,⟨_,_,_,_,hy3,rfl,rfl⟩,?_⟩
 show Tri ..;refine zAe ?_;have hy:=Option.some.inj h;subst hy;unfold zAw;exact⟨_,Le.refl _ _,rfl,rfl⟩
def zUO (n:Nat) (xs:List AV) (r:Ret):Prop:=∃ (a0:zO8) (y0:Bool),zIn n a0=some y0/\xs=[.agg ((zAi a0).map .s)]/\r = .val (.s (.bool y0))
def zQT:zAz:=zAy fun xs r=>∃ n,zUO n xs r
theorem zUq:PSound Tryz.prog 24 zQT:=by
 have gok:∀ f s,look? f [(54,zFX),(25,zMu)]=some s->PSound Tryz.prog f s:=zAt (by
  simp only[List.forall_mem_cons]
  exact⟨zGz,zOR,by simp⟩)
 refine zAA tokW Tryz.call24 Tryz.func24 rfl (fun xs r h=>by obtain⟨n,_,_,_,rfl,_⟩:=h; show 1<=13; decide) 13 rfl ?_;rintro xs r w0 G0 ⟨n,⟨op1A,op1U,op1T,op1Z,op1S,op1X,op1Y,op1B⟩,y0,h,rfl,rfl⟩ _;rw[zIn]at h;refine zYe [] [] rfl ?_;show Tri ..;refine zAa ?_;obtain⟨x2,hj,h⟩:=zAc h;refine zAv ⟨ofL [(2,.s (.bool x2))],fun _=>none,0⟩ ?_ (fun σ' hle=>?_)
 ·replace h:=hj;refine zAb [] [7,10] rfl ?_;obtain⟨⟨y3A,y3B,y3D,y3C⟩,hy3,h⟩:=zAc h;refine⟨_,⟨_,_,hy3,rfl,rfl⟩,?_⟩
  obtain⟨y4,hy4,h⟩:=zAc h;refine⟨_,⟨_,_,_,_,hy4,rfl,rfl⟩,?_⟩
  intro b hb;cases b with
  | true =>
   replace h:=zAE hb.symm h;intro n5 hn5;obtain rfl:(op1U.length:Int)=n5:=(hn5.trans (congrArg (fun m:Nat=>(m:Int)) (rlen (fun _=>rfl) op1U))).symm;cases h;exact(Le.forget _ ⟨rfl,trivial⟩)
  | false =>
   replace h:=zAD hb.symm h;cases h;exact(Le.forget _ ⟨rfl,trivial⟩)
 ·show Tri ..;refine zAk hle ?_;refine zAe ?_;have hy:=Option.some.inj h;subst hy;unfold zAw;exact⟨_,Le.refl _ _,rfl,rfl⟩
def zAn:(List UInt8×Nd×List zRc×Int)->List S
| ⟨p_title,⟨p_origin_kind,p_origin_text,p_origin_cols,p_origin_kids⟩,p_records,p_done⟩=>[.str p_title,.int .i64 p_origin_kind,.str p_origin_text,.int .i64 p_origin_cols,.sl 4 (Nd.encs p_origin_kids),.sl 5 ((List.map zAd) p_records),.int .i64 p_done]
def zUP (n:Nat) (xs:List AV) (r:Ret):Prop:=∃ (a0:(List UInt8×Nd×List zRc×Int)) (y0:Bool),zIo n a0=some y0/\xs=[.agg ((zAn a0).map .s)]/\r = .val (.s (.bool y0))
def zQV:zAz:=zAy fun xs r=>∃ n,zUP n xs r
theorem zUs:PSound Tryz.prog 9 zQV:=by
 have gok:∀ f s,look? f [(24,zQT),(25,zMu)]=some s->PSound Tryz.prog f s:=zAt (by
  simp only[List.forall_mem_cons]
  exact⟨zUq,zOR,by simp⟩)
 refine zAA tokW Tryz.call9 Tryz.func9 rfl (fun xs r h=>by obtain⟨n,_,_,_,rfl,_⟩:=h; show 1<=73; decide) 73 rfl ?_;rintro xs r w0 G0 ⟨n,⟨a1Af,⟨a1G,a1H,a1I,a1J⟩,a1E,a1F⟩,y0,h,rfl,rfl⟩ _;rw[zIo]at h;refine zYe [] [] rfl ?_;show Tri ..;refine zAa ?_;refine zYe [] [] rfl ?_;show Tri ..;obtain⟨fl,hl,ho1⟩:=zAc h
 refine zBt (fl:=fl) (fun z=>match z with | _=>⟨ofL [(1,.s (.pt [.str a1Af,.int .i64 a1G,.str a1H,.int .i64 a1I,.sl 4 (Nd.encs a1J),.sl 5 ((List.map zAd) a1E),.int .i64 a1F]))],fun _=>none,0⟩) ?_ (fun z σ' hz hle=>?_)
 ·refine zAl (zAF (X:=Nat×Int) (fun y=>match y with | (k,x2)=>⟨ofL [(1,.s (.pt [.str a1Af,.int .i64 a1G,.str a1H,.int .i64 a1I,.sl 4 (Nd.encs a1J),.sl 5 ((List.map zAd) a1E),.int .i64 a1F])),(3,.s (.int .i64 x2))],fun _=>none,0⟩) (fun y=>zCV n a1E y.1 y.2=some fl) (fun y=>y.1) (n,0) hl ?_ ?_)
  ·exact(Le.forget _ ⟨rfl,rfl,trivial⟩)
  ·rintro⟨k,x2⟩ h;cases k with
   | zero=>cases h
   | succ k =>
    replace h:zCV n a1E (k+1) x2=some fl:=h;rw[zCV]at h;refine zAa ?_;refine zYe [] [9] rfl ?_;intro n3 hn3;obtain rfl:(a1E.length:Int)=n3:=(hn3.trans (congrArg (fun m:Nat=>(m:Int)) (rlen (fun _=>rfl) a1E))).symm;show Tri ..;refine zAh rfl h (fun hb h=>?_) (fun hb h=>?_)
    ·refine zAf ?_;show Tri ..;refine zAa ?_;refine zAl ?_;refine zYe [4] [16] rfl ?_;obtain⟨⟨e4Aa,⟨e4Ab,e4Ac⟩,⟨e4Ad,e4Ae⟩⟩,he4,h⟩:=zAc h;refine And.intro (zAB (fun _=>rfl) he4).1 ?_;intro r5 hr5;obtain rfl:[.sl 8 ((List.map zAi) e4Aa),.sl 1 ((List.map (irow .i64)) e4Ab),.sl 1 ((List.map (irow .i64)) e4Ac),.sl 1 ((List.map (irow .i64)) e4Ad),.sl 1 ((List.map (irow .i64)) e4Ae)]=r5:=(hr5.trans (zAB (fun _=>rfl) he4).2.1).symm;show Tri ..
     refine zAk (Le.giveBox 0 [.sl 8 ((List.map zAi) e4Aa),.sl 1 ((List.map (irow .i64)) e4Ab),.sl 1 ((List.map (irow .i64)) e4Ac),.sl 1 ((List.map (irow .i64)) e4Ad),.sl 1 ((List.map (irow .i64)) e4Ae)] rfl rfl) ?_;refine zAa ?_;refine zAa ?_;obtain⟨x6,hj,h⟩:=zAc h
     refine zAv ⟨ofL [(1,.s (.pt [.str a1Af,.int .i64 a1G,.str a1H,.int .i64 a1I,.sl 4 (Nd.encs a1J),.sl 5 ((List.map zAd) a1E),.int .i64 a1F])),(3,.s (.int .i64 x2)),(4,.s (.pt [.sl 8 ((List.map zAi) e4Aa),.sl 1 ((List.map (irow .i64)) e4Ab),.sl 1 ((List.map (irow .i64)) e4Ac),.sl 1 ((List.map (irow .i64)) e4Ad),.sl 1 ((List.map (irow .i64)) e4Ae)])),(43,.s (.bool x6))],fun _=>none,0⟩ ?_ (fun σ' hle=>?_)
     ·replace h:=hj;refine zAb [] [20,22,26,30,35,40] rfl ?_;intro n7 hn7;obtain rfl:(e4Aa.length:Int)=n7:=(hn7.trans (congrArg (fun m:Nat=>(m:Int)) (rlen (fun _=>rfl) e4Aa))).symm;intro b hb;cases b with
      | true =>
       replace h:=zAE hb.symm h;cases h;exact(Le.rnm [] _ [] 0 ⟨rfl,rfl,rfl,rfl,trivial⟩ trivial)
      | false =>
       replace h:=zAD hb.symm h;intro n8 hn8;obtain rfl:(e4Ab.length:Int)=n8:=(hn8.trans (congrArg (fun m:Nat=>(m:Int)) (rlen (fun _=>rfl) e4Ab))).symm;intro n9 hn9;obtain rfl:(e4Ac.length:Int)=n9:=(hn9.trans (congrArg (fun m:Nat=>(m:Int)) (rlen (fun _=>rfl) e4Ac))).symm;intro n10 hn10;obtain rfl:(e4Ad.length:Int)=n10:=(hn10.trans (congrArg (fun m:Nat=>(m:Int)) (rlen (fun _=>rfl) e4Ad))).symm;intro n11 hn11;obtain rfl:(e4Ae.length:Int)=n11:=(hn11.trans (congrArg (fun m:Nat=>(m:Int)) (rlen (fun _=>rfl) e4Ae))).symm;cases h
       exact(Le.rnm [] _ [] 0 ⟨rfl,rfl,rfl,rfl,trivial⟩ trivial)
     ·show Tri ..;refine zAk hle ?_;refine zAh rfl h (fun hb h=>?_) (fun hb h=>?_)
      ·refine zYe [] [] rfl ?_;show Tri ..;refine zAe ?_;cases h;replace h:some _=some _:=ho1;have hy:=Option.some.inj h;subst hy;unfold zAw;exact⟨_,Le.refl _ _,rfl,rfl⟩
      ·refine zAf ?_;show Tri ..;refine zYe [] [] rfl ?_;show Tri ..;obtain⟨fl,hl,ho2⟩:=zAc h;refine zBt (fl:=fl) (fun z=>match z with | _=>⟨ofL [(1,.s (.pt [.str a1Af,.int .i64 a1G,.str a1H,.int .i64 a1I,.sl 4 (Nd.encs a1J),.sl 5 ((List.map zAd) a1E),.int .i64 a1F])),(3,.s (.int .i64 x2))],fun _=>none,0⟩) ?_ (fun z σ' hz hle=>?_)
       ·refine zAl (zAF (X:=Nat×Int) (fun y=>match y with | (k,x12)=>⟨ofL [(1,.s (.pt [.str a1Af,.int .i64 a1G,.str a1H,.int .i64 a1I,.sl 4 (Nd.encs a1J),.sl 5 ((List.map zAd) a1E),.int .i64 a1F])),(3,.s (.int .i64 x2)),(4,.s (.pt [.sl 8 ((List.map zAi) e4Aa),.sl 1 ((List.map (irow .i64)) e4Ab),.sl 1 ((List.map (irow .i64)) e4Ac),.sl 1 ((List.map (irow .i64)) e4Ad),.sl 1 ((List.map (irow .i64)) e4Ae)])),(5,.s (.int .i64 x12))],fun _=>none,0⟩) (fun y=>zDG n e4Aa y.1 y.2=some fl) (fun y=>y.1) (n,0) hl ?_ ?_)
        ·exact(Le.forget _ ⟨rfl,rfl,rfl,rfl,trivial⟩)
        ·rintro⟨k,x12⟩ h;cases k with
         | zero=>cases h
         | succ k =>
          replace h:zDG n e4Aa (k+1) x12=some fl:=h;rw[zDG]at h;refine zAa ?_;refine zYe [] [47] rfl ?_;intro n13 hn13;obtain rfl:(e4Aa.length:Int)=n13:=(hn13.trans (congrArg (fun m:Nat=>(m:Int)) (rlen (fun _=>rfl) e4Aa))).symm;show Tri ..;refine zAh rfl h (fun hb h=>?_) (fun hb h=>?_)
          ·refine zAf ?_;show Tri ..;refine zAa ?_;refine zAl ?_;refine zYe [] [54] rfl ?_;obtain⟨⟨e14A,e14U,e14T,e14Z,e14S,e14X,e14Y,e14B⟩,he14,h⟩:=zAc h;refine And.intro (zAB (fun _=>rfl) he14).1 ?_;intro r15 hr15;obtain rfl:[.int .i64 e14A,.sl 1 ((List.map (irow .i64)) e14U),.int .i64 e14T,.int .i64 e14Z,.sl 4 (Nd.encs e14S),.int .i64 e14X,.str e14Y,.str e14B]=r15:=(hr15.trans (zAB (fun _=>rfl) he14).2.1).symm;obtain⟨y16,hy16,h⟩:=zAc h;refine⟨_,⟨_,_,_,hy16,rfl,rfl⟩,?_⟩
           show Tri ..;refine zAh rfl h (fun hb h=>?_) (fun hb h=>?_)
           ·refine zYe [] [] rfl ?_;show Tri ..;refine zAe ?_;cases h;replace h:some _=some _:=ho2;cases h;replace h:some _=some _:=ho1;have hy:=Option.some.inj h;subst hy;unfold zAw;exact⟨_,Le.refl _ _,rfl,rfl⟩
           ·refine zAf ?_;show Tri ..;refine zAb [] [] rfl ?_;refine⟨(k,IntKind.i64.wrap (x12+1)),h,(Le.forget _ ⟨rfl,rfl,rfl,rfl,trivial⟩),Nat.lt_succ_self k⟩
          ·refine zAI ?_;cases h;exact⟨_,rfl,(Le.forget _ ⟨rfl,rfl,trivial⟩)⟩
       ·subst hz;obtain _:=z;replace h:=ho2;show Tri ..;refine zAk hle ?_;refine zAb [] [] rfl ?_;refine⟨(k,IntKind.i64.wrap (x2+1)),h,(Le.forget _ ⟨rfl,rfl,trivial⟩),Nat.lt_succ_self k⟩
    ·refine zAI ?_;cases h;exact⟨_,rfl,(Le.forget _ ⟨rfl,trivial⟩)⟩
 ·subst hz;obtain _:=z;replace h:=ho1;show Tri ..;refine zAk hle ?_;refine zAa ?_;obtain⟨x17,hj,h⟩:=zAc h;refine zAv ⟨ofL [(2,.s (.bool x17))],fun _=>none,0⟩ ?_ (fun σ' hle=>?_)
  ·replace h:=hj;refine zAb [] [61,64,67] rfl ?_;obtain⟨y18,hy18,h⟩:=zAc h;refine⟨_,⟨_,_,_,_,hy18,rfl,rfl⟩,?_⟩
   intro b hb;cases b with
   | true =>
    replace h:=zAE hb.symm h;intro n19 hn19;obtain rfl:(a1E.length:Int)=n19:=(hn19.trans (congrArg (fun m:Nat=>(m:Int)) (rlen (fun _=>rfl) a1E))).symm;intro b hb;cases b with
    | true =>
     replace h:=zAE hb.symm h;cases h;exact(Le.forget _ ⟨rfl,trivial⟩)
    | false =>
     replace h:=zAD hb.symm h;cases h;exact(Le.forget _ ⟨rfl,trivial⟩)
   | false =>
    replace h:=zAD hb.symm h;intro b hb;subst hb;cases h;exact(Le.forget _ ⟨rfl,trivial⟩)
  ·show Tri ..;refine zAk hle ?_;refine zAe ?_;have hy:=Option.some.inj h;subst hy;unfold zAw;exact⟨_,Le.refl _ _,rfl,rfl⟩
def zNK (n:Nat) (xs:List AV) (r:Ret):Prop:=∃ (a0:(List UInt8×Nd×List zRc×Int)) (a1:Int) (y0:Nd) (y1:Int),zCC n a0 a1=some (y0,y1)/\xs=[.agg ((zAo a0).map .s),.s (.int .i64 a1)]/\r = .val (.tup [.agg ((Nd.enc y0).map .s),.s (.int .i64 y1)])
def zJb:zAz:=zAy fun xs r=>∃ n,zNK n xs r
theorem zM6:PSound Tryz.prog 14 zJb:=by
 have gok:∀ f s,look? f [(33,zGI)]=some s->PSound Tryz.prog f s:=zAt (by
  simp only[List.forall_mem_cons]
  exact⟨zIw,by simp⟩)
 refine zAA tokW Tryz.call14 Tryz.func14 rfl (fun xs r h=>by obtain⟨n,_,_,_,_,_,rfl,_⟩:=h; show 2<=28; decide) 28 rfl ?_;rintro xs r w0 G0 ⟨n,⟨d1Af,⟨d1G,d1H,d1I,d1J⟩,d1E,d1F⟩,done2,y0,y1,h,rfl,rfl⟩ _;rw[zCC]at h;refine zYe [4] [] rfl ?_;show Tri ..;refine zYe [6] [] rfl ?_;obtain⟨⟨⟨y3A,y3B,y3D,y3C⟩,y4⟩,hy3,h⟩:=zAc h;refine⟨_,⟨_,_,_,_,_,hy3,rfl,rfl⟩,?_⟩
 show Tri ..;refine zAk (Le.giveBox 1 [.int .i64 y3A,.str y3B,.int .i64 y3D,.sl 4 (Nd.encs y3C)] rfl rfl) ?_;refine zAa ?_;refine zYe [] [] rfl ?_;show Tri ..;refine zAh rfl h (fun hb h=>?_) (fun hb h=>?_)
 ·refine zYe [] [] rfl ?_;show Tri ..;refine zAe ?_;obtain⟨hj1,hk1⟩:=pij h;subst hj1 hk1;unfold zAw;exact⟨_,Le.refl _ _,rfl,rfl⟩
 ·refine zAf ?_;show Tri ..;refine zAa ?_;refine zAa ?_;obtain⟨x5,hj,h⟩:=zAc h;refine zAv ⟨ofL [(4,.op 0 0),(6,.s (.pt [.int .i64 y3A,.str y3B,.int .i64 y3D,.sl 4 (Nd.encs y3C)])),(25,.s (.bool x5))],ofH [(0,.box 24 [.s (.int .i64 0),.s (.str []),.s (.int .i64 0),.nl 4])],1⟩ ?_ (fun σ' hle=>?_)
  ·replace h:=hj;refine zAb [] [19,23] rfl ?_;intro b hb;cases b with
   | true =>
    replace h:=zAE hb.symm h;cases h;exact(Le.rnm [(0,0)] _ _ _ ⟨rfl,rfl,rfl,trivial⟩ ⟨rfl,⟨_,rfl,rfl⟩,trivial⟩)
   | false =>
    replace h:=zAD hb.symm h;intro n6 hn6;obtain rfl:(d1E.length:Int)=n6:=(hn6.trans (congrArg (fun m:Nat=>(m:Int)) (rlen (fun _=>rfl) d1E))).symm;cases h;exact(Le.rnm [(0,0)] _ _ _ ⟨rfl,rfl,rfl,trivial⟩ ⟨rfl,⟨_,rfl,rfl⟩,trivial⟩)
  ·show Tri ..;refine zAk hle ?_;refine zAh rfl h (fun hb h=>?_) (fun hb h=>?_)
   ·refine zYe [] [] rfl ?_;show Tri ..;refine zAe ?_;obtain⟨hj1,hk1⟩:=pij h;subst hj1 hk1;unfold zAw;exact⟨_,Le.refl _ _,rfl,rfl⟩
   ·refine zAf ?_;show Tri ..;refine zYe [] [] rfl ?_;show Tri ..;refine zAe ?_;obtain⟨hj1,hk1⟩:=pij h;subst hj1 hk1;unfold zAw;exact⟨_,Le.refl _ _,rfl,rfl⟩
def zLQ (n:Nat) (xs:List AV) (r:Ret):Prop:=∃ (a0:List Nd) (y0:Bool),zCq n a0=some y0/\xs=[.s (.sl 4 (Nd.encs a0))]/\r = .val (.s (.bool y0))
def zFr:zAz:=zAy fun xs r=>∃ n,zLQ n xs r
theorem zHi:PSound Tryz.prog 155 zFr:=by
 have gok:∀ f s,look? f [(54,zFX),(35,zEc)]=some s->PSound Tryz.prog f s:=zAt (by
  simp only[List.forall_mem_cons]
  exact⟨zGz,zEu,by simp⟩)
 refine zAA tokW Tryz.call155 Tryz.func155 rfl (fun xs r h=>by obtain⟨n,_,_,_,rfl,_⟩:=h; show 1<=6; decide) 6 rfl ?_;rintro xs r w0 G0 ⟨n,l1,y0,h,rfl,rfl⟩ _;rw[zCq]at h;refine zYe [] [] rfl ?_;show Tri ..;refine zYe [] [] rfl ?_;obtain⟨⟨y2A,y2B,y2D,y2C⟩,hy2,h⟩:=zAc h;refine⟨_,⟨_,_,hy2,rfl,rfl⟩,?_⟩
 obtain⟨y3,hy3,h⟩:=zAc h;refine⟨_,⟨_,_,_,hy3,rfl,rfl⟩,?_⟩
 show Tri ..;refine zAe ?_;have hy:=Option.some.inj h;subst hy;unfold zAw;exact⟨_,Le.refl _ _,rfl,rfl⟩
def zNV (n:Nat) (xs:List AV) (r:Ret):Prop:=∃ (a0:List Nd) (a1:Int) (y0:Bool),zD8 n a0 a1=some y0/\xs=[.s (.sl 4 (Nd.encs a0)),.s (.int .i64 a1)]/\r = .val (.s (.bool y0))
def zJj:zAz:=zAy fun xs r=>∃ n,zNV n xs r
theorem zNe:PSound Tryz.prog 156 zJj:=by
 have gok:∀ f s,look? f [(155,zFr)]=some s->PSound Tryz.prog f s:=zAt (by
  simp only[List.forall_mem_cons]
  exact⟨zHi,by simp⟩)
 refine zAA tokW Tryz.call156 Tryz.func156 rfl (fun xs r h=>by obtain⟨n,_,_,_,_,rfl,_⟩:=h; show 2<=37; decide) 37 rfl ?_;rintro xs r w0 G0 ⟨n,l1,slot2,y0,h,rfl,rfl⟩ _;rw[zD8]at h;refine zYe [] [] rfl ?_;show Tri ..;refine zAa ?_;obtain⟨x3,hj,h⟩:=zAc h;refine zAv ⟨ofL [(4,.s (.bool x3))],fun _=>none,0⟩ ?_ (fun σ' hle=>?_)
 ·replace h:=hj;refine zAb [] [6,8,12,16,19,22,25,27,31,34] rfl ?_;intro n4 hn4;obtain rfl:(l1.length:Int)=n4:=(hn4.trans (congrArg (fun m:Nat=>(m:Int)) (rlen Nd.encs_eq l1))).symm;intro b hb;cases b with
  | true =>
   replace h:=zAE hb.symm h;obtain⟨y5,hy5,h⟩:=zAc h;refine⟨_,⟨_,_,_,hy5,rfl,rfl⟩,?_⟩
   intro b hb;cases b with
   | true =>
    replace h:=zAE hb.symm h;intro b hb;cases b with
    | true =>
     replace h:=zAE hb.symm h;obtain⟨⟨e6A,e6B,e6D,e6C⟩,he6,h⟩:=zAc h;refine And.intro (zAB Nd.encs_eq he6).1 ?_;intro r7 hr7;obtain rfl:[.int .i64 e6A,.str e6B,.int .i64 e6D,.sl 4 (Nd.encs e6C)]=r7:=(hr7.trans (zAB Nd.encs_eq he6).2.1).symm;intro n8 hn8;obtain rfl:(e6C.length:Int)=n8:=(hn8.trans (congrArg (fun m:Nat=>(m:Int)) (rlen Nd.encs_eq e6C))).symm;intro b hb;cases b with
     | true =>
      replace h:=zAE hb.symm h;obtain⟨⟨e9A,e9B,e9D,e9C⟩,he9,h⟩:=zAc h;refine And.intro (zAB Nd.encs_eq he9).1 ?_;intro r10 hr10;obtain rfl:[.int .i64 e9A,.str e9B,.int .i64 e9D,.sl 4 (Nd.encs e9C)]=r10:=(hr10.trans (zAB Nd.encs_eq he9).2.1).symm;obtain⟨⟨e11A,e11B,e11D,e11C⟩,he11,h⟩:=zAc h;refine And.intro (zAB Nd.encs_eq he11).1 ?_;intro r12 hr12;obtain rfl:[.int .i64 e11A,.str e11B,.int .i64 e11D,.sl 4 (Nd.encs e11C)]=r12:=(hr12.trans (zAB Nd.encs_eq he11).2.1).symm;intro n13 hn13
      obtain rfl:(e11C.length:Int)=n13:=(hn13.trans (congrArg (fun m:Nat=>(m:Int)) (rlen Nd.encs_eq e11C))).symm;cases h;exact(Le.forget _ ⟨rfl,trivial⟩)
     | false =>
      replace h:=zAD hb.symm h;cases h;exact(Le.forget _ ⟨rfl,trivial⟩)
    | false =>
     replace h:=zAD hb.symm h;intro b hb;subst hb;cases h;exact(Le.forget _ ⟨rfl,trivial⟩)
   | false =>
    replace h:=zAD hb.symm h;intro b hb;subst hb;intro b hb;subst hb;cases h;exact(Le.forget _ ⟨rfl,trivial⟩)
  | false =>
   replace h:=zAD hb.symm h;intro b hb;subst hb;intro b hb;subst hb;intro b hb;subst hb;cases h;exact(Le.forget _ ⟨rfl,trivial⟩)
 ·show Tri ..;refine zAk hle ?_;refine zAe ?_;have hy:=Option.some.inj h;subst hy;unfold zAw;exact⟨_,Le.refl _ _,rfl,rfl⟩
def zQJ (n:Nat) (xs:List AV) (r:Ret):Prop:=∃ (a0:zO8) (y0:Bool),zFj n a0=some y0/\xs=[.agg ((zAi a0).map .s)]/\r = .val (.s (.bool y0))
def zLp:zAz:=zAy fun xs r=>∃ n,zQJ n xs r
theorem zP3:PSound Tryz.prog 115 zLp:=by
 have gok:∀ f s,look? f [(155,zFr),(156,zJj)]=some s->PSound Tryz.prog f s:=zAt (by
  simp only[List.forall_mem_cons]
  exact⟨zHi,zNe,by simp⟩)
 refine zAA tokW Tryz.call115 Tryz.func115 rfl (fun xs r h=>by obtain⟨n,_,_,_,rfl,_⟩:=h; show 1<=83; decide) 83 rfl ?_;rintro xs r w0 G0 ⟨n,⟨a1A,a1U,a1T,a1Z,a1S,a1X,a1Y,a1B⟩,y0,h,rfl,rfl⟩ _;rw[zFj]at h;refine zYe [] [] rfl ?_;show Tri ..;refine zAa ?_;refine zYe [] [] rfl ?_;show Tri ..;obtain⟨fl,hj,ho1⟩:=zAc h;refine zBt (fl:=fl) (fun z=>match z with | _=>⟨ofL [],fun _=>none,0⟩) ?_ (fun z σ' hz hle=>?_)
 ·replace h:=hj;refine zAl ?_;refine zAa ?_;refine zYe [] [] rfl ?_;show Tri ..;obtain⟨x2,hj,h⟩:=zAc h;refine zAv ⟨ofL [(1,.s (.pt [.int .i64 a1A,.sl 1 ((List.map (irow .i64)) a1U),.int .i64 a1T,.int .i64 a1Z,.sl 4 (Nd.encs a1S),.int .i64 a1X,.str a1Y,.str a1B])),(4,.s (.int .i64 a1A)),(5,.s (.bool x2))],fun _=>none,0⟩ ?_ (fun σ' hle=>?_)
  ·replace h:=hj;refine zAh rfl h (fun hb h=>?_) (fun hb h=>?_)
   ·refine zAf ?_;cases h;exact(Le.forget _ ⟨rfl,rfl,rfl,trivial⟩)
   ·refine zAb [] [] rfl ?_;cases h;exact(Le.forget _ ⟨rfl,rfl,rfl,trivial⟩)
  ·show Tri ..;refine zAk hle ?_;refine zAh rfl h (fun hb h=>?_) (fun hb h=>?_)
   ·refine zAa ?_;obtain⟨x3,hj,h⟩:=zAc h;refine zAv ⟨ofL [(2,.s (.bool x3))],fun _=>none,0⟩ ?_ (fun σ' hle=>?_)
    ·replace h:=hj;refine zAb [] [10,12,17,22,27,32] rfl ?_;intro n4 hn4;obtain rfl:(a1S.length:Int)=n4:=(hn4.trans (congrArg (fun m:Nat=>(m:Int)) (rlen Nd.encs_eq a1S))).symm;intro b hb;cases b with
     | true =>
      replace h:=zAE hb.symm h;obtain⟨y5,hy5,h⟩:=zAc h;refine⟨_,⟨_,_,_,hy5,rfl,rfl⟩,?_⟩
      intro b hb;cases b with
      | true =>
       replace h:=zAE hb.symm h;intro b hb;cases b with
       | true =>
        replace h:=zAE hb.symm h;intro b hb;cases b with
        | true =>
         replace h:=zAE hb.symm h;intro b hb;cases b with
         | true =>
          replace h:=zAE hb.symm h;cases h;exact(Le.forget _ ⟨rfl,trivial⟩)
         | false =>
          replace h:=zAD hb.symm h;cases h;exact(Le.forget _ ⟨rfl,trivial⟩)
        | false =>
         replace h:=zAD hb.symm h;intro b hb;subst hb;cases h;exact(Le.forget _ ⟨rfl,trivial⟩)
       | false =>
        replace h:=zAD hb.symm h;intro b hb;subst hb;intro b hb;subst hb;cases h;exact(Le.forget _ ⟨rfl,trivial⟩)
      | false =>
       replace h:=zAD hb.symm h;intro b hb;subst hb;intro b hb;subst hb;intro b hb;subst hb;cases h;exact(Le.forget _ ⟨rfl,trivial⟩)
     | false =>
      replace h:=zAD hb.symm h;intro b hb;subst hb;intro b hb;subst hb;intro b hb;subst hb;intro b hb;subst hb;cases h;exact(Le.forget _ ⟨rfl,trivial⟩)
    ·show Tri ..;refine zAk hle ?_;refine zAe ?_;cases h;replace h:some _=some _:=ho1;have hy:=Option.some.inj h;subst hy;unfold zAw;exact⟨_,Le.refl _ _,rfl,rfl⟩
   ·refine zAa ?_;refine zYe [] [] rfl ?_;show Tri ..;obtain⟨x6,hj,h⟩:=zAc h;refine zAv ⟨ofL [(1,.s (.pt [.int .i64 a1A,.sl 1 ((List.map (irow .i64)) a1U),.int .i64 a1T,.int .i64 a1Z,.sl 4 (Nd.encs a1S),.int .i64 a1X,.str a1Y,.str a1B])),(4,.s (.int .i64 a1A)),(37,.s (.bool x6))],fun _=>none,0⟩ ?_ (fun σ' hle=>?_)
    ·replace h:=hj;refine zAh rfl h (fun hb h=>?_) (fun hb h=>?_)
     ·refine zAf ?_;cases h;exact(Le.forget _ ⟨rfl,rfl,rfl,trivial⟩)
     ·refine zAb [] [] rfl ?_;cases h;exact(Le.forget _ ⟨rfl,rfl,rfl,trivial⟩)
    ·show Tri ..;refine zAk hle ?_;refine zAh rfl h (fun hb h=>?_) (fun hb h=>?_)
     ·refine zAa ?_;obtain⟨x7,hj,h⟩:=zAc h;refine zAv ⟨ofL [(2,.s (.bool x7))],fun _=>none,0⟩ ?_ (fun σ' hle=>?_)
      ·replace h:=hj;refine zAb [] [43,50,55] rfl ?_;intro b hb;cases b with
       | true =>
        replace h:=zAE hb.symm h;obtain⟨y8,hy8,h⟩:=zAc h;refine⟨_,⟨_,_,_,_,hy8,rfl,rfl⟩,?_⟩
        intro b hb;cases b with
        | true =>
         replace h:=zAE hb.symm h;intro b hb;cases b with
         | true =>
          replace h:=zAE hb.symm h;cases h;exact(Le.forget _ ⟨rfl,trivial⟩)
         | false =>
          replace h:=zAD hb.symm h;cases h;exact(Le.forget _ ⟨rfl,trivial⟩)
        | false =>
         replace h:=zAD hb.symm h;intro b hb;subst hb;cases h;exact(Le.forget _ ⟨rfl,trivial⟩)
       | false =>
        replace h:=zAD hb.symm h;intro b hb;subst hb;intro b hb;subst hb;cases h;exact(Le.forget _ ⟨rfl,trivial⟩)
      ·show Tri ..;refine zAk hle ?_;refine zAe ?_;cases h;replace h:some _=some _:=ho1;have hy:=Option.some.inj h;subst hy;unfold zAw;exact⟨_,Le.refl _ _,rfl,rfl⟩
     ·refine zYe [] [] rfl ?_;show Tri ..;refine zAh rfl h (fun hb h=>?_) (fun hb h=>?_)
      ·refine zAa ?_;obtain⟨x9,hj,h⟩:=zAc h;refine zAv ⟨ofL [(2,.s (.bool x9))],fun _=>none,0⟩ ?_ (fun σ' hle=>?_)
       ·replace h:=hj;refine zAb [] [67,70,73,78] rfl ?_;intro b hb;cases b with
        | true =>
         replace h:=zAE hb.symm h;intro n10 hn10;obtain rfl:(a1S.length:Int)=n10:=(hn10.trans (congrArg (fun m:Nat=>(m:Int)) (rlen Nd.encs_eq a1S))).symm;intro b hb;cases b with
         | true =>
          replace h:=zAE hb.symm h;intro b hb;cases b with
          | true =>
           replace h:=zAE hb.symm h;cases h;exact(Le.forget _ ⟨rfl,trivial⟩)
          | false =>
           replace h:=zAD hb.symm h;cases h;exact(Le.forget _ ⟨rfl,trivial⟩)
         | false =>
          replace h:=zAD hb.symm h;intro b hb;subst hb;cases h;exact(Le.forget _ ⟨rfl,trivial⟩)
        | false =>
         replace h:=zAD hb.symm h;intro b hb;subst hb;intro b hb;subst hb;cases h;exact(Le.forget _ ⟨rfl,trivial⟩)
       ·show Tri ..;refine zAk hle ?_;refine zAe ?_;cases h;replace h:some _=some _:=ho1;have hy:=Option.some.inj h;subst hy;unfold zAw;exact⟨_,Le.refl _ _,rfl,rfl⟩
      ·refine zAf ?_;cases h;exact⟨_,rfl,(Le.forget _ trivial)⟩
 ·subst hz;obtain _:=z;replace h:=ho1;show Tri ..;refine zAk hle ?_;refine zYe [] [] rfl ?_;show Tri ..;refine zAe ?_;have hy:=Option.some.inj h;subst hy;unfold zAw;exact⟨_,Le.refl _ _,rfl,rfl⟩
def zTR (n:Nat) (xs:List AV) (r:Ret):Prop:=∃ (a0:Nd) (a1:List Int) (y0:Nd) (y1:Bool),zHd n a0 a1=some (y0,y1)/\xs=[.agg ((Nd.enc a0).map .s),.s (.sl 1 ((List.map (irow .i64)) a1))]/\r = .val (.tup [.agg ((Nd.enc y0).map .s),.s (.bool y1)])
def zOq:zAz:=zAy fun xs r=>∃ n,zTR n xs r
theorem zSP:PSound Tryz.prog 157 zOq:=by
 have gok:=@gok0 Tryz.prog;refine zAA tokW Tryz.call157 Tryz.func157 rfl (fun xs r h=>by obtain⟨n,_,_,_,_,_,rfl,_⟩:=h; show 2<=57; decide) 57 rfl ?_;rintro xs r w0 G0 ⟨n,⟨n1A,n1B,n1D,n1C⟩,path2,y0,y1,h,rfl,rfl⟩ _;rw[zHd]at h;refine zYe [2,4] [] rfl ?_;show Tri ..;refine zAa ?_;obtain⟨fl,hl,ho1⟩:=zAc h
 refine zBt (fl:=fl) (fun z=>match z with | ⟨path9,x10,x11,x12,x13⟩=>⟨ofL [(1,.s (.sl 1 ((List.map (irow .i64)) path9))),(2,.op 0 0),(4,.op 1 0)],ofH [(0,.box 24 [.s (.int .i64 x10),.s (.str x11),.s (.int .i64 x12),.s (.sl 4 (Nd.encs x13))]),(1,.box 24 [.s (.int .i64 0),.s (.str []),.s (.int .i64 0),.nl 4])],2⟩) ?_ (fun z σ' hz hle=>?_)
 ·refine zAl (zAF (X:=Nat×Int×(List UInt8)×Int×(List Nd)×(List Int)) (fun y=>match y with | (k,x3,x4,x5,x6,path8)=>⟨ofL [(1,.s (.sl 1 ((List.map (irow .i64)) path8))),(2,.op 0 0),(4,.op 1 0)],ofH [(0,.box 24 [.s (.int .i64 x3),.s (.str x4),.s (.int .i64 x5),.s (.sl 4 (Nd.encs x6))]),(1,.box 24 [.s (.int .i64 0),.s (.str []),.s (.int .i64 0),.nl 4])],2⟩) (fun y=>zB2  y.1 y.2.1 y.2.2.1 y.2.2.2.1 y.2.2.2.2.1 y.2.2.2.2.2=some fl) (fun y=>y.1) (n,n1A,n1B,n1D,n1C,path2) hl ?_ ?_)
  ·exact(Le.rnm [(0,0),(1,1)] _ _ _ ⟨rfl,rfl,rfl,trivial⟩ ⟨rfl,⟨_,rfl,rfl⟩,rfl,⟨_,rfl,rfl⟩,trivial⟩)
  ·rintro⟨k,x3,x4,x5,x6,path8⟩ h;cases k with
   | zero=>cases h
   | succ k =>
    replace h:zB2  (k+1) x3 x4 x5 x6 path8=some fl:=h;rw[zB2]at h;refine zAa ?_;refine zYe [] [7] rfl ?_;intro n14 hn14;obtain rfl:(path8.length:Int)=n14:=(hn14.trans (congrArg (fun m:Nat=>(m:Int)) (rlen (fun _=>rfl) path8))).symm;show Tri ..;refine zAh rfl h (fun hb h=>?_) (fun hb h=>?_)
    ·refine zAf ?_;show Tri ..;refine zAl ?_;refine zAa ?_;refine zAa ?_;obtain⟨x15,hj,h⟩:=zAc h;refine zAv ⟨ofL [(1,.s (.sl 1 ((List.map (irow .i64)) path8))),(2,.op 0 0),(4,.op 1 0),(21,.s (.bool x15))],ofH [(0,.box 24 [.s (.int .i64 x3),.s (.str x4),.s (.int .i64 x5),.s (.sl 4 (Nd.encs x6))]),(1,.box 24 [.s (.int .i64 0),.s (.str []),.s (.int .i64 0),.nl 4])],2⟩ ?_ (fun σ' hle=>?_)
     ·replace h:=hj;refine zAQ [] [10,13,15,19] [9] rfl (by decide +kernel) ?_;obtain⟨e16,he16,h⟩:=zAc h;refine And.intro (zAB (fun _=>rfl) he16).1 ?_;intro r17 hr17;obtain rfl:[.int .i64 e16]=r17:=(hr17.trans (zAB (fun _=>rfl) he16).2.1).symm;intro b hb;cases b with
      | true =>
       replace h:=zAE hb.symm h;cases h;exact(Le.rnm [(0,0),(1,1)] _ _ _ ⟨rfl,rfl,rfl,rfl,trivial⟩ ⟨rfl,⟨_,rfl,rfl⟩,rfl,⟨_,rfl,rfl⟩,trivial⟩)
      | false =>
       replace h:=zAD hb.symm h;obtain⟨e18,he18,h⟩:=zAc h;refine And.intro (zAB (fun _=>rfl) he18).1 ?_;intro r19 hr19;obtain rfl:[.int .i64 e18]=r19:=(hr19.trans (zAB (fun _=>rfl) he18).2.1).symm;intro n20 hn20;obtain rfl:(x6.length:Int)=n20:=(hn20.trans (congrArg (fun m:Nat=>(m:Int)) (rlen Nd.encs_eq x6))).symm;cases h;exact(Le.rnm [(0,0),(1,1)] _ _ _ ⟨rfl,rfl,rfl,rfl,trivial⟩ ⟨rfl,⟨_,rfl,rfl⟩,rfl,⟨_,rfl,rfl⟩,trivial⟩)
     ·show Tri ..;refine zAk hle ?_;refine zAh rfl h (fun hb h=>?_) (fun hb h=>?_)
      ·refine zYe [] [] rfl ?_;show Tri ..;refine zAe ?_;cases h;replace h:some _=some _:=ho1;obtain⟨hj1,hk1⟩:=pij h;subst hj1 hk1;unfold zAw;exact⟨_,Le.refl _ _,rfl,rfl⟩
      ·refine zAf ?_;show Tri ..;refine zAa ?_;refine zAQ [] [26,28] [1,7] rfl (by decide +kernel) ?_;obtain⟨e21,he21,h⟩:=zAc h;refine And.intro (zAB (fun _=>rfl) he21).1 ?_;intro r22 hr22;obtain rfl:[.int .i64 e21]=r22:=(hr22.trans (zAB (fun _=>rfl) he21).2.1).symm;obtain⟨⟨e23A,e23B,e23D,e23C⟩,he23,h⟩:=zAc h;refine And.intro (zAB Nd.encs_eq he23).1 ?_;intro r24 hr24;obtain rfl:[.int .i64 e23A,.str e23B,.int .i64 e23D,.sl 4 (Nd.encs e23C)]=r24:=(hr24.trans (zAB Nd.encs_eq he23).2.1).symm;show Tri ..;refine zAa ?_;refine zAa ?_;obtain⟨x25,hj,h⟩:=zAc h
       refine zAv ⟨ofL [(1,.s (.sl 1 ((List.map (irow .i64)) path8))),(2,.op 0 0),(4,.op 1 0),(42,.s (.bool x25))],ofH [(0,.box 24 [.s (.int .i64 e23A),.s (.str e23B),.s (.int .i64 e23D),.s (.sl 4 (Nd.encs e23C))]),(1,.box 24 [.s (.int .i64 0),.s (.str []),.s (.int .i64 0),.nl 4])],2⟩ ?_ (fun σ' hle=>?_)
       ·replace h:=hj;refine zAQ [] [31,34,36,40] [9] rfl (by decide +kernel) ?_;obtain⟨e26,he26,h⟩:=zAc h;refine And.intro (zAB (fun _=>rfl) he26).1 ?_;intro r27 hr27;obtain rfl:[.int .i64 e26]=r27:=(hr27.trans (zAB (fun _=>rfl) he26).2.1).symm;intro b hb;cases b with
        | true =>
         replace h:=zAE hb.symm h;cases h;exact(Le.rnm [(0,0),(1,1)] _ _ _ ⟨rfl,rfl,rfl,rfl,trivial⟩ ⟨rfl,⟨_,rfl,rfl⟩,rfl,⟨_,rfl,rfl⟩,trivial⟩)
        | false =>
         replace h:=zAD hb.symm h;obtain⟨e28,he28,h⟩:=zAc h;refine And.intro (zAB (fun _=>rfl) he28).1 ?_;intro r29 hr29;obtain rfl:[.int .i64 e28]=r29:=(hr29.trans (zAB (fun _=>rfl) he28).2.1).symm;intro n30 hn30;obtain rfl:(e23C.length:Int)=n30:=(hn30.trans (congrArg (fun m:Nat=>(m:Int)) (rlen Nd.encs_eq e23C))).symm;cases h;exact(Le.rnm [(0,0),(1,1)] _ _ _ ⟨rfl,rfl,rfl,rfl,trivial⟩ ⟨rfl,⟨_,rfl,rfl⟩,rfl,⟨_,rfl,rfl⟩,trivial⟩)
       ·show Tri ..;refine zAk hle ?_;refine zAh rfl h (fun hb h=>?_) (fun hb h=>?_)
        ·refine zYe [] [] rfl ?_;show Tri ..;refine zAe ?_;cases h;replace h:some _=some _:=ho1;obtain⟨hj1,hk1⟩:=pij h;subst hj1 hk1;unfold zAw;exact⟨_,Le.refl _ _,rfl,rfl⟩
        ·refine zAf ?_;show Tri ..;refine zAa ?_;refine zAQ [] [47,49] [1,7] rfl (by decide +kernel) ?_;obtain⟨e31,he31,h⟩:=zAc h;refine And.intro (zAB (fun _=>rfl) he31).1 ?_;intro r32 hr32;obtain rfl:[.int .i64 e31]=r32:=(hr32.trans (zAB (fun _=>rfl) he31).2.1).symm;obtain⟨⟨e33A,e33B,e33D,e33C⟩,he33,h⟩:=zAc h;refine And.intro (zAB Nd.encs_eq he33).1 ?_;intro r34 hr34;obtain rfl:[.int .i64 e33A,.str e33B,.int .i64 e33D,.sl 4 (Nd.encs e33C)]=r34:=(hr34.trans (zAB Nd.encs_eq he33).2.1).symm;show Tri ..;refine zAb [] [52] rfl ?_;obtain⟨hq,h⟩:=zAK h
         refine And.intro ⟨hq.1,Int.le_trans hq.2.1 (Int.ofNat_le.2 (Nat.le_of_eq (rlen (fun _=>rfl) _).symm)),Int.le_refl _⟩ ?_;intro r35 hr35;obtain rfl:(List.map (irow .i64)) ((path8.take (path8.length:Int).toNat).drop (2:Int).toNat)=r35:=(hr35.trans ((congrArg (fun m:Nat=>(((List.map (irow .i64)) path8).take m).drop (2:Int).toNat) (rlen (fun _=>rfl) _)).trans (rcut (fun _=>rfl) _ _ _))).symm;refine⟨(k,e33A,e33B,e33D,e33C,(path8.take (path8.length:Int).toNat).drop (2:Int).toNat),h,(Le.rnm [(0,0),(1,1)] _ _ _ ⟨rfl,rfl,rfl,trivial⟩ ⟨rfl,⟨_,rfl,rfl⟩,rfl,⟨_,rfl,rfl⟩,trivial⟩),Nat.lt_succ_self k⟩
    ·refine zAI ?_;cases h;exact⟨_,rfl,(Le.rnm [(0,0),(1,1)] _ _ _ ⟨rfl,rfl,rfl,trivial⟩ ⟨rfl,⟨_,rfl,rfl⟩,rfl,⟨_,rfl,rfl⟩,trivial⟩)⟩
 ·subst hz;obtain⟨path9,x10,x11,x12,x13⟩:=z;replace h:=ho1;show Tri ..;refine zAk hle ?_;refine zYe [] [55] rfl ?_;intro n36 hn36;obtain rfl:(path9.length:Int)=n36:=(hn36.trans (congrArg (fun m:Nat=>(m:Int)) (rlen (fun _=>rfl) path9))).symm;show Tri ..;refine zAe ?_;obtain⟨hj1,hk1⟩:=pij h;subst hj1 hk1;unfold zAw;exact⟨_,Le.refl _ _,rfl,rfl⟩
def zUL (n:Nat) (xs:List AV) (r:Ret):Prop:=∃ (a0:Nd) (a1:List Int) (y0:Nd) (y1:Int),zIl n a0 a1=some (y0,y1)/\xs=[.agg ((Nd.enc a0).map .s),.s (.sl 1 ((List.map (irow .i64)) a1))]/\r = .val (.tup [.agg ((Nd.enc y0).map .s),.s (.int .i64 y1)])
def zQQ:zAz:=zAy fun xs r=>∃ n,zUL n xs r
theorem zUn:PSound Tryz.prog 116 zQQ:=by
 have gok:∀ f s,look? f [(35,zEc),(157,zOq)]=some s->PSound Tryz.prog f s:=zAt (by
  simp only[List.forall_mem_cons]
  exact⟨zEu,zSP,by simp⟩)
 refine zAA tokW Tryz.call116 Tryz.func116 rfl (fun xs r h=>by obtain⟨n,_,_,_,_,_,rfl,_⟩:=h; show 2<=22; decide) 22 rfl ?_;rintro xs r w0 G0 ⟨n,⟨n1A,n1B,n1D,n1C⟩,path2,y0,y1,h,rfl,rfl⟩ _;rw[zIl]at h;refine zYe [4] [] rfl ?_;show Tri ..;refine zAa ?_;refine zYe [] [] rfl ?_;obtain⟨y3,hy3,h⟩:=zAc h;refine⟨_,⟨_,_,_,hy3,rfl,rfl⟩,?_⟩
 show Tri ..;refine zAh rfl h (fun hb h=>?_) (fun hb h=>?_)
 ·refine zYe [] [] rfl ?_;show Tri ..;refine zAe ?_;obtain⟨hj1,hk1⟩:=pij h;subst hj1 hk1;unfold zAw;exact⟨_,Le.refl _ _,rfl,rfl⟩
 ·refine zAf ?_;show Tri ..;refine zYe [6] [] rfl ?_;obtain⟨⟨⟨y4A,y4B,y4D,y4C⟩,y5⟩,hy4,h⟩:=zAc h;refine⟨_,⟨_,_,_,_,_,hy4,rfl,rfl⟩,?_⟩
  show Tri ..;refine zAk (Le.giveBox 1 [.int .i64 y4A,.str y4B,.int .i64 y4D,.sl 4 (Nd.encs y4C)] rfl rfl) ?_;refine zAa ?_;refine zYe [] [] rfl ?_;show Tri ..;refine zAh rfl h (fun hb h=>?_) (fun hb h=>?_)
  ·refine zYe [] [] rfl ?_;show Tri ..;refine zAe ?_;obtain⟨hj1,hk1⟩:=pij h;subst hj1 hk1;unfold zAw;exact⟨_,Le.refl _ _,rfl,rfl⟩
  ·refine zAf ?_;show Tri ..;refine zYe [] [] rfl ?_;show Tri ..;refine zAe ?_;obtain⟨hj1,hk1⟩:=pij h;subst hj1 hk1;unfold zAw;exact⟨_,Le.refl _ _,rfl,rfl⟩
def zQM (xs:List AV) (r:Ret):Prop:=∃ (a0:List Nd) (a1:Int) (a2:Int) (a3:List Nd) (y0:List Nd),zB6 a0 a1 a2 a3=some y0/\xs=[.s (.sl 4 (Nd.encs a0)),.s (.int .i64 a1),.s (.int .i64 a2),.s (.sl 4 (Nd.encs a3))]/\r = .row 24 4 (Nd.encs y0)
def zLs:zAz:=zAy fun xs r=>zQM xs r
theorem zP6:PSound Tryz.prog 158 zLs:=by
 have gok:=@gok0 Tryz.prog;refine zAA tokW Tryz.call158 Tryz.func158 rfl (fun xs r h=>by obtain⟨_,_,_,_,_,_,rfl,_⟩:=h; show 4<=23; decide) 23 rfl ?_;rintro xs r w0 G0 ⟨l1,at2,to3,by4,y0,h,rfl,rfl⟩ _;rw[zB6]at h;refine zYe [8] [] rfl ?_;show Tri ..;refine zAk (Le.rnm [] [(0,.s (.sl 4 (Nd.encs l1))),(1,.s (.int .i64 at2)),(2,.s (.int .i64 to3)),(3,.s (.sl 4 (Nd.encs by4)))] [] 0 ⟨rfl,rfl,rfl,rfl,trivial⟩ trivial) ?_;refine zYe [10,14] [13] rfl ?_;obtain⟨hq,h⟩:=zAK h;refine And.intro ⟨hq.1,hq.2.1,Int.le_trans hq.2.2 (Int.ofNat_le.2 (Nat.le_of_eq (rlen Nd.encs_eq _).symm))⟩ ?_
 intro r5 hr5;obtain rfl:Nd.encs ((l1.take at2.toNat).drop (0:Int).toNat)=r5:=(hr5.trans (rcut Nd.encs_eq _ _ _)).symm;obtain⟨hq,h⟩:=zAK h;refine And.intro (show(([]:List (List S)).length+(Nd.encs ((l1.take at2.toNat).drop (0:Int).toNat)).length) * 56<=140737488355328/\([]:List (List S)).length+(Nd.encs ((l1.take at2.toNat).drop (0:Int).toNat)).length<=9223372036854775807 from by simp only[List.length_append,List.length_cons,List.length_nil,List.length_map,rlen Nd.encs_eq]at hq ⊢; omega) ?_;show Tri ..
 refine zAk (Le.rnm [(1,0)] [(0,.s (.sl 4 (Nd.encs l1))),(2,.s (.int .i64 to3)),(3,.s (.sl 4 (Nd.encs by4))),(9,.orow 0)] [(0,.row 24 4 (Nd.encs ((l1.take at2.toNat).drop (0:Int).toNat)))] 1 ⟨rfl,rfl,rfl,rfl,trivial⟩ ⟨rfl,⟨_,rfl,congrArg (Ob.row 24 4) (by simp[List.map_append,List.map_take,List.map_drop,irow,brow,zAG,List.map_cons,List.map_nil,zAC,Nd.encs_eq,Nd.enc,CV.encs_eq,CV.enc,zAq,zAm,zAx,zAr,zAp,zAi,zAu,zAs,zAd,zAo,zAn])⟩,trivial⟩) ?_;refine zYe [17] [] rfl ?_
 obtain⟨hq,h⟩:=zAK h;refine And.intro (show((Nd.encs ((l1.take at2.toNat).drop (0:Int).toNat)).length+(Nd.encs by4).length) * 56<=140737488355328/\(Nd.encs ((l1.take at2.toNat).drop (0:Int).toNat)).length+(Nd.encs by4).length<=9223372036854775807 from by simp only[List.length_append,List.length_cons,List.length_nil,List.length_map,List.length_take,rlen Nd.encs_eq]at hq ⊢; omega) ?_;show Tri ..
 refine zAk (Le.rnm [(1,0)] [(0,.s (.sl 4 (Nd.encs l1))),(2,.s (.int .i64 to3)),(9,.orow 0)] [(0,.row 24 4 (Nd.encs (((l1.take at2.toNat).drop (0:Int).toNat)++by4)))] 1 ⟨rfl,rfl,rfl,trivial⟩ ⟨rfl,⟨_,rfl,congrArg (Ob.row 24 4) (by simp[List.map_append,List.map_take,List.map_drop,irow,brow,zAG,List.map_cons,List.map_nil,zAC,Nd.encs_eq,Nd.enc,CV.encs_eq,CV.enc,zAq,zAm,zAx,zAr,zAp,zAi,zAu,zAs,zAd,zAo,zAn])⟩,trivial⟩) ?_;refine zYe [22] [21] rfl ?_;obtain⟨hq,h⟩:=zAK h
 refine And.intro ⟨hq.1,Int.le_trans hq.2.1 (Int.ofNat_le.2 (Nat.le_of_eq (rlen Nd.encs_eq _).symm)),Int.le_refl _⟩ ?_;intro r6 hr6;obtain rfl:Nd.encs ((l1.take (l1.length:Int).toNat).drop to3.toNat)=r6:=(hr6.trans ((congrArg (fun m:Nat=>((Nd.encs l1).take m).drop to3.toNat) (rlen Nd.encs_eq _)).trans (rcut Nd.encs_eq _ _ _))).symm;obtain⟨hq,h⟩:=zAK h
 refine And.intro (show((Nd.encs (((l1.take at2.toNat).drop (0:Int).toNat)++by4)).length+(Nd.encs ((l1.take (l1.length:Int).toNat).drop to3.toNat)).length) * 56<=140737488355328/\(Nd.encs (((l1.take at2.toNat).drop (0:Int).toNat)++by4)).length+(Nd.encs ((l1.take (l1.length:Int).toNat).drop to3.toNat)).length<=9223372036854775807 from by simp only[List.length_append,List.length_cons,List.length_nil,List.length_map,List.length_take,rlen Nd.encs_eq]at hq ⊢; omega) ?_;show Tri ..
 refine zAk (Le.rnm [(1,0)] [(8,.orow 0)] [(0,.row 24 4 (Nd.encs ((((l1.take at2.toNat).drop (0:Int).toNat)++by4)++((l1.take (l1.length:Int).toNat).drop to3.toNat))))] 1 ⟨rfl,trivial⟩ ⟨rfl,⟨_,rfl,congrArg (Ob.row 24 4) (by simp[List.map_append,List.map_take,List.map_drop,irow,brow,zAG,List.map_cons,List.map_nil,zAC,Nd.encs_eq,Nd.enc,CV.encs_eq,CV.enc,zAq,zAm,zAx,zAr,zAp,zAi,zAu,zAs,zAd,zAo,zAn])⟩,trivial⟩) ?_;refine zAe ?_;have hy:=Option.some.inj h;subst hy;unfold zAw
 exact⟨_,Le.refl _ _,0,rfl,rfl⟩
def zNT (xs:List AV) (r:Ret):Prop:=∃ (a0:Nd) (a1:Int) (a2:Nd) (y0:Nd),zBN a0 a1 a2=some y0/\xs=[.agg ((Nd.enc a0).map .s),.s (.int .i64 a1),.agg ((Nd.enc a2).map .s)]/\r = .val (.agg ((Nd.enc y0).map .s))
def zGJ:zAz:=zAy fun xs r=>zNT xs r
theorem zIA:PSound Tryz.prog 160 zGJ:=by
 have gok:=@gok0 Tryz.prog;refine zAA tokW Tryz.call160 Tryz.func160 rfl (fun xs r h=>by obtain⟨_,_,_,_,_,rfl,_⟩:=h; show 3<=18; decide) 18 rfl ?_;rintro xs r w0 G0 ⟨⟨n1A,n1B,n1D,n1C⟩,i2,⟨kid3A,kid3B,kid3D,kid3C⟩,y0,h,rfl,rfl⟩ _;rw[zBN]at h;refine zYe [3,6] [] rfl ?_;show Tri ..;refine zYe [7,10] [] rfl ?_;obtain⟨hq,h⟩:=zAK h
 refine And.intro (show(([]:List (List S)).length+(Nd.encs n1C).length) * 56<=140737488355328/\([]:List (List S)).length+(Nd.encs n1C).length<=9223372036854775807 from by simp only[List.length_append,List.length_cons,List.length_nil,List.length_map,rlen Nd.encs_eq]at hq ⊢; omega) ?_;show Tri ..
 refine zAk (Le.rnm [(0,0),(3,1),(1,2)] [(1,.s (.int .i64 i2)),(3,.op 0 0),(5,.s (.pt [.int .i64 kid3A,.str kid3B,.int .i64 kid3D,.sl 4 (Nd.encs kid3C)])),(6,.op 2 0)] [(0,.box 24 [.s (.int .i64 n1A),.s (.str n1B),.s (.int .i64 n1D),.orow 1]),(1,.row 24 4 (Nd.encs n1C)),(2,.box 24 [.s (.int .i64 0),.s (.str []),.s (.int .i64 0),.nl 4])] 3 ⟨rfl,rfl,rfl,rfl,trivial⟩ ⟨rfl,⟨_,rfl,rfl⟩,rfl,⟨_,rfl,congrArg (Ob.row 24 4) (by simp[List.map_append,List.map_take,List.map_drop,irow,brow,zAG,List.map_cons,List.map_nil,zAC,Nd.encs_eq,Nd.enc,CV.encs_eq,CV.enc,zAq,zAm,zAx,zAr,zAp,zAi,zAu,zAs,zAd,zAo,zAn])⟩,rfl,⟨_,rfl,rfl⟩,trivial⟩) ?_
 refine zYe [] [] rfl ?_;obtain⟨⟨e4A,e4B,e4D,e4C⟩,he4,h⟩:=zAc h;refine And.intro (zAB Nd.encs_eq he4).1 ?_;have hset5:=(rset (R:=Nd.encs) (f:=Nd.enc) Nd.encs_eq he4 (Nd.mk kid3A kid3B kid3D kid3C) 0 4 [.int .i64 kid3A,.str kid3B,.int .i64 kid3D,.sl 4 (Nd.encs kid3C)] rfl)
 have hat5:=at_set he4 (Nd.mk kid3A kid3B kid3D kid3C)
 refine And.intro (zAB Nd.encs_eq he4).2.2 ?_;show Tri ..;refine zAk (Le.rnm [(0,0),(1,1),(2,2)] [(3,.op 0 0),(6,.op 2 0)] [(0,.box 24 [.s (.int .i64 n1A),.s (.str n1B),.s (.int .i64 n1D),.orow 1]),(1,.row 24 4 (Nd.encs (n1C.set i2.toNat (Nd.mk kid3A kid3B kid3D kid3C)))),(2,.box 24 [.s (.int .i64 0),.s (.str []),.s (.int .i64 0),.nl 4])] 3 ⟨rfl,rfl,trivial⟩ ⟨rfl,⟨_,rfl,rfl⟩,rfl,⟨_,rfl,congrArg (Ob.row 24 4) hset5⟩,rfl,⟨_,rfl,rfl⟩,trivial⟩) ?_;refine zYe [] [] rfl ?_;show Tri ..;refine zAe ?_;have hy:=Option.some.inj h;subst hy;unfold zAw
 exact⟨_,(Le.trans (Le.rnm [(2,0),(1,1)] [(6,.op 0 0)] [(0,.box 24 [.s (.int .i64 n1A),.s (.str n1B),.s (.int .i64 n1D),.orow 1]),(1,.row 24 4 (Nd.encs (n1C.set i2.toNat (Nd.mk kid3A kid3B kid3D kid3C))))] 2 ⟨rfl,trivial⟩ ⟨rfl,⟨_,rfl,rfl⟩,rfl,⟨_,rfl,rfl⟩,trivial⟩) (Le.giveRow 1 rfl)),rfl,rfl⟩
def zQL (xs:List AV) (r:Ret):Prop:=∃ (a0:Nd) (a1:Int) (a2:List Nd) (y0:Nd),zDF a0 a1 a2=some y0/\xs=[.agg ((Nd.enc a0).map .s),.s (.int .i64 a1),.s (.sl 4 (Nd.encs a2))]/\r = .val (.agg ((Nd.enc y0).map .s))
def zLr:zAz:=zAy fun xs r=>zQL xs r
theorem zP5:PSound Tryz.prog 159 zLr:=by
 have gok:∀ f s,look? f [(54,zFX),(160,zGJ)]=some s->PSound Tryz.prog f s:=zAt (by
  simp only[List.forall_mem_cons]
  exact⟨zGz,zIA,by simp⟩)
 refine zAA tokW Tryz.call159 Tryz.func159 rfl (fun xs r h=>by obtain⟨_,_,_,_,_,rfl,_⟩:=h; show 3<=14; decide) 14 rfl ?_;rintro xs r w0 G0 ⟨⟨n1A,n1B,n1D,n1C⟩,slot2,l3,y0,h,rfl,rfl⟩ _;rw[zDF]at h;refine zYe [6] [] rfl ?_;show Tri ..;refine zAa ?_;refine zEK [9,11] [] [2,4,5,7] [] rfl (by decide +kernel) ?_;obtain⟨hq,h⟩:=zAK h
 refine And.intro (show(([]:List (List S)).length+(Nd.encs l3).length) * 56<=140737488355328/\([]:List (List S)).length+(Nd.encs l3).length<=9223372036854775807 from by simp only[List.length_append,List.length_cons,List.length_nil,List.length_map,rlen Nd.encs_eq]at hq ⊢; omega) ?_;obtain⟨⟨y4A,y4B,y4D,y4C⟩,hy4,h⟩:=zAc h
 refine⟨_,⟨_,_,hy4,(congrArg (fun r=>[AV.s (.sl 4 r)]) (show[]++(Nd.encs l3)=Nd.encs l3 from(by simp[List.map_append,List.map_take,List.map_drop,irow,brow,zAG,List.map_cons,List.map_nil,zAC,Nd.encs_eq,Nd.enc,CV.encs_eq,CV.enc,zAq,zAm,zAx,zAr,zAp,zAi,zAu,zAs,zAd,zAo,zAn]))),rfl⟩,?_⟩
 obtain⟨⟨y5A,y5B,y5D,y5C⟩,hy5,h⟩:=zAc h;refine⟨_,⟨_,_,_,_,hy5,rfl,rfl⟩,?_⟩
 show Tri ..;refine zAe ?_;have hy:=Option.some.inj h;subst hy;unfold zAw;exact⟨_,Le.refl _ _,rfl,rfl⟩
def zQK (n:Nat) (xs:List AV) (r:Ret):Prop:=∃ (a0:List Nd) (a1:zO8) (y0:List Nd) (y1:Int),zFk n a0 a1=some (y0,y1)/\xs=[.s (.sl 4 (Nd.encs a0)),.agg ((zAi a1).map .s)]/\r = .val (.tup [.s (.sl 4 (Nd.encs y0)),.s (.int .i64 y1)])
def zLq:zAz:=zAy fun xs r=>∃ n,zQK n xs r
theorem zP4:PSound Tryz.prog 117 zLq:=by
 have gok:∀ f s,look? f [(158,zLs),(38,zFW),(159,zLr),(16,zHr)]=some s->PSound Tryz.prog f s:=zAt (by
  simp only[List.forall_mem_cons]
  exact⟨zP6,zHP,zP5,zIz,by simp⟩)
 refine zAA tokW Tryz.call117 Tryz.func117 rfl (fun xs r h=>by obtain⟨n,_,_,_,_,_,rfl,_⟩:=h; show 2<=173; decide) 173 rfl ?_;rintro xs r w0 G0 ⟨n,a1,⟨a2A,a2U,a2T,a2Z,a2S,a2X,a2Y,a2B⟩,y0,y1,h,rfl,rfl⟩ _;rw[zFk]at h;refine zYe [] [] rfl ?_;show Tri ..;refine zYe [] [] rfl ?_;show Tri ..;refine zAa ?_;refine zYe [] [] rfl ?_;show Tri ..;obtain⟨x3,hj,h⟩:=zAc h
 refine zAv ⟨ofL [(0,.s (.sl 4 (Nd.encs a1))),(3,.s (.pt [.int .i64 a2A,.sl 1 ((List.map (irow .i64)) a2U),.int .i64 a2T,.int .i64 a2Z,.sl 4 (Nd.encs a2S),.int .i64 a2X,.str a2Y,.str a2B])),(6,.s (.int .i64 x3))],fun _=>none,0⟩ ?_ (fun σ' hle=>?_)
 ·replace h:=hj;refine zAl ?_;refine zYe [] [] rfl ?_;show Tri ..;refine zAh rfl h (fun hb h=>?_) (fun hb h=>?_)
  ·refine zAb [] [] rfl ?_;cases h;exact(Le.forget _ ⟨rfl,rfl,rfl,trivial⟩)
  ·refine zYe [] [] rfl ?_;show Tri ..;refine zAh rfl h (fun hb h=>?_) (fun hb h=>?_)
   ·refine zAb [] [17] rfl ?_;intro n4 hn4;obtain rfl:(a2S.length:Int)=n4:=(hn4.trans (congrArg (fun m:Nat=>(m:Int)) (rlen Nd.encs_eq a2S))).symm;cases h;exact(Le.forget _ ⟨rfl,rfl,rfl,trivial⟩)
   ·refine zYe [] [] rfl ?_;show Tri ..;refine zAh rfl h (fun hb h=>?_) (fun hb h=>?_)
    ·refine zAb [] [] rfl ?_;cases h;exact(Le.forget _ ⟨rfl,rfl,rfl,trivial⟩)
    ·refine zAf ?_;cases h;exact(Le.forget _ ⟨rfl,rfl,rfl,trivial⟩)
 ·show Tri ..;refine zAk hle ?_;refine zAa ?_;refine zAa ?_;obtain⟨x5,hj,h⟩:=zAc h;refine zAv ⟨ofL [(0,.s (.sl 4 (Nd.encs a1))),(3,.s (.pt [.int .i64 a2A,.sl 1 ((List.map (irow .i64)) a2U),.int .i64 a2T,.int .i64 a2Z,.sl 4 (Nd.encs a2S),.int .i64 a2X,.str a2Y,.str a2B])),(6,.s (.int .i64 x3)),(40,.s (.bool x5))],fun _=>none,0⟩ ?_ (fun σ' hle=>?_)
  ·replace h:=hj;refine zAb [] [25,29,32,35] rfl ?_;intro b hb;cases b with
   | true =>
    replace h:=zAE hb.symm h;intro b hb;subst hb;cases h;exact(Le.forget _ ⟨rfl,rfl,rfl,rfl,trivial⟩)
   | false =>
    replace h:=zAD hb.symm h;intro n6 hn6;obtain rfl:(a1.length:Int)=n6:=(hn6.trans (congrArg (fun m:Nat=>(m:Int)) (rlen Nd.encs_eq a1))).symm;intro b hb;cases b with
    | true =>
     replace h:=zAE hb.symm h;cases h;exact(Le.forget _ ⟨rfl,rfl,rfl,rfl,trivial⟩)
    | false =>
     replace h:=zAD hb.symm h;intro n7 hn7;obtain rfl:(a1.length:Int)=n7:=(hn7.trans (congrArg (fun m:Nat=>(m:Int)) (rlen Nd.encs_eq a1))).symm;cases h;exact(Le.forget _ ⟨rfl,rfl,rfl,rfl,trivial⟩)
  ·show Tri ..;refine zAk hle ?_;refine zAh rfl h (fun hb h=>?_) (fun hb h=>?_)
   ·refine zYe [] [] rfl ?_;show Tri ..;refine zAe ?_;obtain⟨hj1,hk1⟩:=pij h;subst hj1 hk1;unfold zAw;exact⟨_,Le.refl _ _,rfl,rfl⟩
   ·refine zAf ?_;show Tri ..;refine zYe [] [] rfl ?_;show Tri ..;refine zAa ?_;refine zYe [] [] rfl ?_;show Tri ..;refine zAl ?_;refine zYe [] [] rfl ?_;show Tri ..;refine zAh rfl h (fun hb h=>?_) (fun hb h=>?_)
    ·refine zYe [] [] rfl ?_;obtain⟨y8,hy8,h⟩:=zAc h;refine⟨_,⟨_,_,_,_,_,hy8,rfl,rfl⟩,?_⟩
     show Tri ..;refine zAe ?_;obtain⟨hj1,hk1⟩:=pij h;subst hj1 hk1;unfold zAw;exact⟨_,Le.refl _ _,rfl,rfl⟩
    ·refine zYe [] [] rfl ?_;show Tri ..;refine zAh rfl h (fun hb h=>?_) (fun hb h=>?_)
     ·refine zAa ?_;refine zAa ?_;refine zAQ [] [62] [] rfl (by decide +kernel) ?_;obtain⟨hq,h⟩:=zAK h;refine And.intro ⟨hq.1,hq.2.1,Int.le_trans hq.2.2 (Int.ofNat_le.2 (Nat.le_of_eq (rlen Nd.encs_eq _).symm))⟩ ?_;intro r9 hr9;obtain rfl:Nd.encs ((a1.take (IntKind.i64.wrap (a2T+x3)).toNat).drop a2T.toNat)=r9:=(hr9.trans (rcut Nd.encs_eq _ _ _)).symm;obtain⟨y10,hy10,h⟩:=zAc h;refine⟨_,⟨_,_,_,_,hy10,rfl,rfl⟩,?_⟩
      show Tri ..;refine zAh rfl h (fun hb h=>?_) (fun hb h=>?_)
      ·refine zYe [] [] rfl ?_;show Tri ..;refine zAe ?_;obtain⟨hj1,hk1⟩:=pij h;subst hj1 hk1;unfold zAw;exact⟨_,Le.refl _ _,rfl,rfl⟩
      ·refine zAf ?_;show Tri ..;refine zYe [] [] rfl ?_;obtain⟨y11,hy11,h⟩:=zAc h;refine⟨_,⟨_,_,_,_,_,hy11,rfl,rfl⟩,?_⟩
       show Tri ..;refine zAe ?_;obtain⟨hj1,hk1⟩:=pij h;subst hj1 hk1;unfold zAw;exact⟨_,Le.refl _ _,rfl,rfl⟩
     ·refine zYe [] [] rfl ?_;show Tri ..;refine zAh rfl h (fun hb h=>?_) (fun hb h=>?_)
      ·refine zAa ?_;refine zAQ [] [80,88,90] [] rfl (by decide +kernel) ?_;obtain⟨⟨e12A,e12B,e12D,e12C⟩,he12,h⟩:=zAc h;refine And.intro (zAB Nd.encs_eq he12).1 ?_;intro r13 hr13;obtain rfl:[.int .i64 e12A,.str e12B,.int .i64 e12D,.sl 4 (Nd.encs e12C)]=r13:=(hr13.trans (zAB Nd.encs_eq he12).2.1).symm;obtain⟨hq,h⟩:=zAK h;refine And.intro ⟨hq.1,hq.2.1,Int.le_trans hq.2.2 (Int.ofNat_le.2 (Nat.le_of_eq (rlen Nd.encs_eq _).symm))⟩ ?_;intro r14 hr14;obtain rfl:Nd.encs ((a1.take (IntKind.i64.wrap (a2T+x3)).toNat).drop a2T.toNat)=r14:=(hr14.trans (rcut Nd.encs_eq _ _ _)).symm
       obtain⟨⟨y15A,y15B,y15D,y15C⟩,hy15,h⟩:=zAc h;refine⟨_,⟨_,_,_,_,hy15,rfl,rfl⟩,?_⟩
       intro r16 hr16;obtain rfl:Nd.encs [Nd.mk y15A y15B y15D y15C]=r16:=(hr16.trans (by simp[List.map_append,List.map_take,List.map_drop,irow,brow,zAG,List.map_cons,List.map_nil,zAC,Nd.encs_eq,Nd.enc,CV.encs_eq,CV.enc,zAq,zAm,zAx,zAr,zAp,zAi,zAu,zAs,zAd,zAo,zAn])).symm;obtain⟨y17,hy17,h⟩:=zAc h;refine⟨_,⟨_,_,_,_,_,hy17,rfl,rfl⟩,?_⟩
       show Tri ..;refine zAe ?_;obtain⟨hj1,hk1⟩:=pij h;subst hj1 hk1;unfold zAw;exact⟨_,Le.refl _ _,rfl,rfl⟩
      ·refine zAf ?_;show Tri ..;refine zYe [8] [95] rfl ?_;obtain⟨⟨e18A,e18B,e18D,e18C⟩,he18,h⟩:=zAc h;refine And.intro (zAB Nd.encs_eq he18).1 ?_;intro r19 hr19;obtain rfl:[.int .i64 e18A,.str e18B,.int .i64 e18D,.sl 4 (Nd.encs e18C)]=r19:=(hr19.trans (zAB Nd.encs_eq he18).2.1).symm;show Tri ..;refine zAa ?_;refine zYe [] [] rfl ?_;show Tri ..;refine zAh rfl h (fun hb h=>?_) (fun hb h=>?_)
       ·refine zAa ?_;refine zAa ?_;obtain⟨x20,hj,h⟩:=zAc h;refine zAv ⟨ofL [(0,.s (.sl 4 (Nd.encs a1))),(3,.s (.pt [.int .i64 a2A,.sl 1 ((List.map (irow .i64)) a2U),.int .i64 a2T,.int .i64 a2Z,.sl 4 (Nd.encs a2S),.int .i64 a2X,.str a2Y,.str a2B])),(7,.s (.int .i64 (IntKind.i64.wrap (a2T+x3)))),(8,.op 0 0),(137,.s (.bool x20))],ofH [(0,.box 24 [.s (.int .i64 e18A),.s (.str e18B),.s (.int .i64 e18D),.s (.sl 4 (Nd.encs e18C))])],1⟩ ?_ (fun σ' hle=>?_)
        ·replace h:=hj;refine zAQ [] [104,106,111,114,119,123,131] [3,8,20,28] rfl (by decide +kernel) ?_;intro n21 hn21;obtain rfl:(e18C.length:Int)=n21:=(hn21.trans (congrArg (fun m:Nat=>(m:Int)) (rlen Nd.encs_eq e18C))).symm;intro b hb;cases b with
         | true =>
          replace h:=zAE hb.symm h;intro b hb;subst hb;cases h;exact(Le.rnm [(0,0)] _ _ _ ⟨rfl,rfl,rfl,rfl,rfl,trivial⟩ ⟨rfl,⟨_,rfl,rfl⟩,trivial⟩)
         | false =>
          replace h:=zAD hb.symm h;obtain⟨⟨e22A,e22B,e22D,e22C⟩,he22,h⟩:=zAc h;refine And.intro (zAB Nd.encs_eq he22).1 ?_;intro r23 hr23;obtain rfl:[.int .i64 e22A,.str e22B,.int .i64 e22D,.sl 4 (Nd.encs e22C)]=r23:=(hr23.trans (zAB Nd.encs_eq he22).2.1).symm;intro n24 hn24;obtain rfl:(e22C.length:Int)=n24:=(hn24.trans (congrArg (fun m:Nat=>(m:Int)) (rlen Nd.encs_eq e22C))).symm;intro b hb;cases b with
          | true =>
           replace h:=zAE hb.symm h;cases h;exact(Le.rnm [(0,0)] _ _ _ ⟨rfl,rfl,rfl,rfl,rfl,trivial⟩ ⟨rfl,⟨_,rfl,rfl⟩,trivial⟩)
          | false =>
           replace h:=zAD hb.symm h;obtain⟨⟨e25A,e25B,e25D,e25C⟩,he25,h⟩:=zAc h;refine And.intro (zAB Nd.encs_eq he25).1 ?_;intro r26 hr26;obtain rfl:[.int .i64 e25A,.str e25B,.int .i64 e25D,.sl 4 (Nd.encs e25C)]=r26:=(hr26.trans (zAB Nd.encs_eq he25).2.1).symm;obtain⟨⟨e27A,e27B,e27D,e27C⟩,he27,h⟩:=zAc h;refine And.intro (zAB Nd.encs_eq he27).1 ?_;intro r28 hr28;obtain rfl:[.int .i64 e27A,.str e27B,.int .i64 e27D,.sl 4 (Nd.encs e27C)]=r28:=(hr28.trans (zAB Nd.encs_eq he27).2.1).symm;obtain⟨⟨y29A,y29B,y29D,y29C⟩,hy29,h⟩:=zAc h
           refine⟨_,⟨_,_,_,_,hy29,rfl,rfl⟩,?_⟩
           obtain⟨y30,hy30,h⟩:=zAc h;refine⟨_,⟨_,_,_,_,hy30,rfl,rfl⟩,?_⟩
           cases h;exact(Le.rnm [(0,0)] _ _ _ ⟨rfl,rfl,rfl,rfl,rfl,trivial⟩ ⟨rfl,⟨_,rfl,rfl⟩,trivial⟩)
        ·show Tri ..;refine zAk hle ?_;refine zAh rfl h (fun hb h=>?_) (fun hb h=>?_)
         ·refine zYe [] [] rfl ?_;show Tri ..;refine zAe ?_;obtain⟨hj1,hk1⟩:=pij h;subst hj1 hk1;unfold zAw;exact⟨_,Le.refl _ _,rfl,rfl⟩
         ·refine zAf ?_;show Tri ..;refine zAa ?_;refine zAQ [] [146] [5] rfl (by decide +kernel) ?_;obtain⟨⟨e31A,e31B,e31D,e31C⟩,he31,h⟩:=zAc h;refine And.intro (zAB Nd.encs_eq he31).1 ?_;intro r32 hr32;obtain rfl:[.int .i64 e31A,.str e31B,.int .i64 e31D,.sl 4 (Nd.encs e31C)]=r32:=(hr32.trans (zAB Nd.encs_eq he31).2.1).symm;obtain⟨y33,hy33,h⟩:=zAc h;refine⟨_,⟨_,_,_,_,_,hy33,rfl,rfl⟩,?_⟩
          show Tri ..;refine zAe ?_;obtain⟨hj1,hk1⟩:=pij h;subst hj1 hk1;unfold zAw;exact⟨_,Le.refl _ _,rfl,rfl⟩
       ·refine zAf ?_;show Tri ..;refine zAa ?_;refine zYe [] [] rfl ?_;show Tri ..;obtain⟨fl,hj,ho1⟩:=zAc h;refine zBt (fl:=fl) (fun z=>match z with | _=>⟨ofL [],fun _=>none,0⟩) ?_ (fun z σ' hz hle=>?_)
        ·replace h:=hj;refine zAl ?_;refine zAa ?_;refine zYe [] [] rfl ?_;show Tri ..;obtain⟨x34,hj,h⟩:=zAc h;refine zAv ⟨ofL [(0,.s (.sl 4 (Nd.encs a1))),(3,.s (.pt [.int .i64 a2A,.sl 1 ((List.map (irow .i64)) a2U),.int .i64 a2T,.int .i64 a2Z,.sl 4 (Nd.encs a2S),.int .i64 a2X,.str a2Y,.str a2B])),(7,.s (.int .i64 (IntKind.i64.wrap (a2T+x3)))),(8,.op 0 0),(152,.s (.bool x34))],ofH [(0,.box 24 [.s (.int .i64 e18A),.s (.str e18B),.s (.int .i64 e18D),.s (.sl 4 (Nd.encs e18C))])],1⟩ ?_ (fun σ' hle=>?_)
         ·replace h:=hj;refine zAh rfl h (fun hb h=>?_) (fun hb h=>?_)
          ·refine zAf ?_;cases h;exact(Le.rnm [(0,0)] _ _ _ ⟨rfl,rfl,rfl,rfl,rfl,trivial⟩ ⟨rfl,⟨_,rfl,rfl⟩,trivial⟩)
          ·refine zYe [] [] rfl ?_;show Tri ..;refine zAh rfl h (fun hb h=>?_) (fun hb h=>?_)
           ·refine zAf ?_;cases h;exact(Le.rnm [(0,0)] _ _ _ ⟨rfl,rfl,rfl,rfl,rfl,trivial⟩ ⟨rfl,⟨_,rfl,rfl⟩,trivial⟩)
           ·refine zYe [] [] rfl ?_;show Tri ..;refine zAh rfl h (fun hb h=>?_) (fun hb h=>?_)
            ·refine zAf ?_;cases h;exact(Le.rnm [(0,0)] _ _ _ ⟨rfl,rfl,rfl,rfl,rfl,trivial⟩ ⟨rfl,⟨_,rfl,rfl⟩,trivial⟩)
            ·refine zYe [] [] rfl ?_;show Tri ..;refine zAh rfl h (fun hb h=>?_) (fun hb h=>?_)
             ·refine zAf ?_;cases h;exact(Le.rnm [(0,0)] _ _ _ ⟨rfl,rfl,rfl,rfl,rfl,trivial⟩ ⟨rfl,⟨_,rfl,rfl⟩,trivial⟩)
             ·refine zAb [] [] rfl ?_;cases h;exact(Le.rnm [(0,0)] _ _ _ ⟨rfl,rfl,rfl,rfl,rfl,trivial⟩ ⟨rfl,⟨_,rfl,rfl⟩,trivial⟩)
         ·show Tri ..;refine zAk hle ?_;refine zAh rfl h (fun hb h=>?_) (fun hb h=>?_)
          ·refine zYe [] [] rfl ?_;show Tri ..;refine zAh rfl h (fun hb h=>?_) (fun hb h=>?_)
           ·refine zYe [] [] rfl ?_;show Tri ..;refine zYe [] [171] rfl ?_;intro r35 hr35;obtain rfl:Nd.encs [Nd.mk e18A a2B e18D e18C]=r35:=(hr35.trans (by simp[List.map_append,List.map_take,List.map_drop,irow,brow,zAG,List.map_cons,List.map_nil,zAC,Nd.encs_eq,Nd.enc,CV.encs_eq,CV.enc,zAq,zAm,zAx,zAr,zAp,zAi,zAu,zAs,zAd,zAo,zAn])).symm;obtain⟨y36,hy36,h⟩:=zAc h;refine⟨_,⟨_,_,_,_,_,hy36,rfl,rfl⟩,?_⟩
            show Tri ..;refine zAe ?_;cases h;replace h:some _=some _:=ho1;obtain⟨hj1,hk1⟩:=pij h;subst hj1 hk1;unfold zAw;exact⟨_,Le.refl _ _,rfl,rfl⟩
           ·refine zAf ?_;cases h;exact⟨_,rfl,(Le.rnm [] _ [] 0 trivial trivial)⟩
          ·refine zAf ?_;cases h;exact⟨_,rfl,(Le.rnm [] _ [] 0 trivial trivial)⟩
        ·subst hz;obtain _:=z;replace h:=ho1;show Tri ..;refine zAk hle ?_;refine zYe [] [] rfl ?_;show Tri ..;refine zAe ?_;obtain⟨hj1,hk1⟩:=pij h;subst hj1 hk1;unfold zAw;exact⟨_,Le.refl _ _,rfl,rfl⟩
def zH2 (n:Nat) (xs:List AV) (r:Ret):Prop:=∃ (a0:Nd) (a1:List Int) (a2:List Nd) (y0:Nd),zFl n a0 a1 a2=some y0/\xs=[.agg ((Nd.enc a0).map .s),.s (.sl 1 ((List.map (irow .i64)) a1)),.s (.sl 4 (Nd.encs a2))]/\r = .val (.agg ((Nd.enc y0).map .s))
theorem zSa (n:Nat) (ih:PSound Tryz.prog 118 (zAy (zH2 n))):PSound Tryz.prog 118 (zAy (zH2 (n+1))):=by
 have gok:∀ f s,look? f [(54,zFX),(118,zAy (zH2 n)),(160,zGJ)]=some s->PSound Tryz.prog f s:=zAt (by
  simp only[List.forall_mem_cons]
  exact⟨zGz,ih,zIA,by simp⟩)
 refine zAA tokW Tryz.call118 Tryz.func118 rfl (fun xs r h=>by obtain⟨_,_,_,_,_,rfl,_⟩:=h; show 3<=41; decide) 41 rfl ?_;rintro xs r w0 G0 ⟨⟨n1A,n1B,n1D,n1C⟩,path2,l3,y0,h,rfl,rfl⟩ _;rw[zFl]at h;refine zYe [6] [] rfl ?_;show Tri ..;refine zAa ?_;refine zYe [] [9] rfl ?_;intro n4 hn4;obtain rfl:(path2.length:Int)=n4:=(hn4.trans (congrArg (fun m:Nat=>(m:Int)) (rlen (fun _=>rfl) path2))).symm;show Tri ..;refine zAh rfl h (fun hb h=>?_) (fun hb h=>?_)
 ·refine zYe [] [] rfl ?_;obtain⟨⟨y5A,y5B,y5D,y5C⟩,hy5,h⟩:=zAc h;refine⟨_,⟨_,_,hy5,rfl,rfl⟩,?_⟩
  show Tri ..;refine zAe ?_;have hy:=Option.some.inj h;subst hy;unfold zAw;exact⟨_,Le.refl _ _,rfl,rfl⟩
 ·refine zAf ?_;show Tri ..;refine zAa ?_;refine zEK [7] [16,18] [7,8] [] rfl (by decide +kernel) ?_;obtain⟨e6,he6,h⟩:=zAc h;refine And.intro (zAB (fun _=>rfl) he6).1 ?_;intro r7 hr7;obtain rfl:[.int .i64 e6]=r7:=(hr7.trans (zAB (fun _=>rfl) he6).2.1).symm;obtain⟨⟨e8A,e8B,e8D,e8C⟩,he8,h⟩:=zAc h;refine And.intro (zAB Nd.encs_eq he8).1 ?_;intro r9 hr9;obtain rfl:[.int .i64 e8A,.str e8B,.int .i64 e8D,.sl 4 (Nd.encs e8C)]=r9:=(hr9.trans (zAB Nd.encs_eq he8).2.1).symm;show Tri ..
  refine zAk (Le.giveBox 1 [.int .i64 e8A,.str e8B,.int .i64 e8D,.sl 4 (Nd.encs e8C)] rfl rfl) ?_;refine zAa ?_;refine zAQ [] [22,26,31,33,36] [21] rfl (by decide +kernel) ?_;obtain⟨e10,he10,h⟩:=zAc h;refine And.intro (zAB (fun _=>rfl) he10).1 ?_;intro r11 hr11;obtain rfl:[.int .i64 e10]=r11:=(hr11.trans (zAB (fun _=>rfl) he10).2.1).symm;obtain⟨e12,he12,h⟩:=zAc h;refine And.intro (zAB (fun _=>rfl) he12).1 ?_;intro r13 hr13;obtain rfl:[.int .i64 e12]=r13:=(hr13.trans (zAB (fun _=>rfl) he12).2.1).symm;obtain⟨e14,he14,h⟩:=zAc h;refine And.intro (zAB (fun _=>rfl) he14).1 ?_;intro r15 hr15
  obtain rfl:[.int .i64 e14]=r15:=(hr15.trans (zAB (fun _=>rfl) he14).2.1).symm;obtain⟨⟨e16A,e16B,e16D,e16C⟩,he16,h⟩:=zAc h;refine And.intro (zAB Nd.encs_eq he16).1 ?_;intro r17 hr17;obtain rfl:[.int .i64 e16A,.str e16B,.int .i64 e16D,.sl 4 (Nd.encs e16C)]=r17:=(hr17.trans (zAB Nd.encs_eq he16).2.1).symm;obtain⟨hq,h⟩:=zAK h;refine And.intro ⟨hq.1,Int.le_trans hq.2.1 (Int.ofNat_le.2 (Nat.le_of_eq (rlen (fun _=>rfl) _).symm)),Int.le_refl _⟩ ?_;intro r18 hr18
  obtain rfl:(List.map (irow .i64)) ((path2.take (path2.length:Int).toNat).drop (2:Int).toNat)=r18:=(hr18.trans ((congrArg (fun m:Nat=>(((List.map (irow .i64)) path2).take m).drop (2:Int).toNat) (rlen (fun _=>rfl) _)).trans (rcut (fun _=>rfl) _ _ _))).symm;obtain⟨⟨y19A,y19B,y19D,y19C⟩,hy19,h⟩:=zAc h;refine⟨_,⟨_,_,_,_,hy19,rfl,rfl⟩,?_⟩
  obtain⟨⟨y20A,y20B,y20D,y20C⟩,hy20,h⟩:=zAc h;refine⟨_,⟨_,_,_,_,hy20,rfl,rfl⟩,?_⟩
  obtain⟨⟨y21A,y21B,y21D,y21C⟩,hy21,h⟩:=zAc h;refine⟨_,⟨_,_,_,_,hy21,rfl,rfl⟩,?_⟩
  show Tri ..;refine zAe ?_;have hy:=Option.some.inj h;subst hy;unfold zAw;exact⟨_,Le.refl _ _,rfl,rfl⟩
theorem zSA:∀ n,PSound Tryz.prog 118 (zAy (zH2 n)):=by
 intro n
 induction n with
 | zero=>exact zBI Tryz.call118 (fun xs r h=>by obtain⟨_,_,_,_,h,_⟩:=h; cases h)
 | succ n ih=>exact zSa n ih
def zQU:zAz:=zAy fun xs r=>∃ n,zH2 n xs r
theorem zUr:PSound Tryz.prog 118 zQU:=zCb zSA
def zSv (n:Nat) (xs:List AV) (r:Ret):Prop:=∃ (a0:Nd) (a1:zO8) (y0:Nd) (y1:Int),zE1 n a0 a1=some (y0,y1)/\xs=[.agg ((Nd.enc a0).map .s),.agg ((zAi a1).map .s)]/\r = .val (.tup [.agg ((Nd.enc y0).map .s),.s (.int .i64 y1)])
def zMy:zAz:=zAy fun xs r=>∃ n,zSv n xs r
theorem zRO:PSound Tryz.prog 79 zMy:=by
 have gok:∀ f s,look? f [(35,zEc),(115,zLp),(116,zQQ),(117,zLq),(118,zQU)]=some s->PSound Tryz.prog f s:=zAt (by
  simp only[List.forall_mem_cons]
  exact⟨zEu,zP3,zUn,zP4,zUr,by simp⟩)
 refine zAA tokW Tryz.call79 Tryz.func79 rfl (fun xs r h=>by obtain⟨n,_,_,_,_,_,rfl,_⟩:=h; show 2<=50; decide) 50 rfl ?_;rintro xs r w0 G0 ⟨n,⟨n1A,n1B,n1D,n1C⟩,⟨op2A,op2U,op2T,op2Z,op2S,op2X,op2Y,op2B⟩,y0,y1,h,rfl,rfl⟩ _;rw[zE1]at h;refine zYe [4] [] rfl ?_;show Tri ..;refine zAa ?_;refine zYe [] [] rfl ?_;obtain⟨y3,hy3,h⟩:=zAc h;refine⟨_,⟨_,_,_,hy3,rfl,rfl⟩,?_⟩
 show Tri ..;refine zAh rfl h (fun hb h=>?_) (fun hb h=>?_)
 ·refine zYe [] [] rfl ?_;show Tri ..;refine zAe ?_;obtain⟨hj1,hk1⟩:=pij h;subst hj1 hk1;unfold zAw;exact⟨_,Le.refl _ _,rfl,rfl⟩
 ·refine zAf ?_;show Tri ..;refine zAa ?_;refine zYe [] [] rfl ?_;obtain⟨y4,hy4,h⟩:=zAc h;refine⟨_,⟨_,_,_,hy4,rfl,rfl⟩,?_⟩
  show Tri ..;refine zAh rfl h (fun hb h=>?_) (fun hb h=>?_)
  ·refine zYe [] [] rfl ?_;show Tri ..;refine zAe ?_;obtain⟨hj1,hk1⟩:=pij h;subst hj1 hk1;unfold zAw;exact⟨_,Le.refl _ _,rfl,rfl⟩
  ·refine zAf ?_;show Tri ..;refine zYe [6] [] rfl ?_;obtain⟨⟨⟨y5A,y5B,y5D,y5C⟩,y6⟩,hy5,h⟩:=zAc h;refine⟨_,⟨_,_,_,_,_,hy5,rfl,rfl⟩,?_⟩
   show Tri ..;refine zAk (Le.giveBox 1 [.int .i64 y5A,.str y5B,.int .i64 y5D,.sl 4 (Nd.encs y5C)] rfl rfl) ?_;refine zAa ?_;refine zYe [] [] rfl ?_;show Tri ..;refine zAh rfl h (fun hb h=>?_) (fun hb h=>?_)
   ·refine zYe [] [] rfl ?_;show Tri ..;refine zAe ?_;obtain⟨hj1,hk1⟩:=pij h;subst hj1 hk1;unfold zAw;exact⟨_,Le.refl _ _,rfl,rfl⟩
   ·refine zAf ?_;show Tri ..;refine zYe [] [] rfl ?_;obtain⟨⟨y7,y8⟩,hy7,h⟩:=zAc h;refine⟨_,⟨_,_,_,_,_,hy7,rfl,rfl⟩,?_⟩
    show Tri ..;refine zAa ?_;refine zYe [] [] rfl ?_;show Tri ..;refine zAh rfl h (fun hb h=>?_) (fun hb h=>?_)
    ·refine zYe [] [] rfl ?_;show Tri ..;refine zAe ?_;obtain⟨hj1,hk1⟩:=pij h;subst hj1 hk1;unfold zAw;exact⟨_,Le.refl _ _,rfl,rfl⟩
    ·refine zAf ?_;show Tri ..;refine zYe [9] [] rfl ?_;obtain⟨⟨y9A,y9B,y9D,y9C⟩,hy9,h⟩:=zAc h;refine⟨_,⟨_,_,_,_,_,hy9,rfl,rfl⟩,?_⟩
     show Tri ..;refine zAk (Le.giveBox 2 [.int .i64 y9A,.str y9B,.int .i64 y9D,.sl 4 (Nd.encs y9C)] rfl rfl) ?_;refine zAa ?_;refine zYe [] [] rfl ?_;obtain⟨y10,hy10,h⟩:=zAc h;refine⟨_,⟨_,_,_,hy10,rfl,rfl⟩,?_⟩
     show Tri ..;refine zAh rfl h (fun hb h=>?_) (fun hb h=>?_)
     ·refine zYe [] [] rfl ?_;show Tri ..;refine zAe ?_;obtain⟨hj1,hk1⟩:=pij h;subst hj1 hk1;unfold zAw;exact⟨_,Le.refl _ _,rfl,rfl⟩
     ·refine zAf ?_;show Tri ..;refine zYe [] [] rfl ?_;show Tri ..;refine zAe ?_;obtain⟨hj1,hk1⟩:=pij h;subst hj1 hk1;unfold zAw;exact⟨_,Le.refl _ _,rfl,rfl⟩
def zNU (n:Nat) (xs:List AV) (r:Ret):Prop:=∃ (a0:Nd) (a1:List zO8) (y0:Nd) (y1:Int) (y2:Int),zDi n a0 a1=some (y0,y1,y2)/\xs=[.agg ((Nd.enc a0).map .s),.s (.sl 8 ((List.map zAi) a1))]/\r = .val (.tup [.agg ((Nd.enc y0).map .s),.s (.int .i64 y1),.s (.int .i64 y2)])
def zJi:zAz:=zAy fun xs r=>∃ n,zNU n xs r
theorem zNd:PSound Tryz.prog 36 zJi:=by
 have gok:∀ f s,look? f [(35,zEc),(79,zMy)]=some s->PSound Tryz.prog f s:=zAt (by
  simp only[List.forall_mem_cons]
  exact⟨zEu,zRO,by simp⟩)
 refine zAA tokW Tryz.call36 Tryz.func36 rfl (fun xs r h=>by obtain⟨n,_,_,_,_,_,_,rfl,_⟩:=h; show 2<=36; decide) 36 rfl ?_;rintro xs r w0 G0 ⟨n,⟨n1A,n1B,n1D,n1C⟩,ops2,y0,y1,y2,h,rfl,rfl⟩ _;rw[zDi]at h;refine zYe [2,4] [] rfl ?_;show Tri ..;refine zAa ?_;refine zYe [] [] rfl ?_;obtain⟨y3,hy3,h⟩:=zAc h;refine⟨_,⟨_,_,_,hy3,rfl,rfl⟩,?_⟩
 show Tri ..;refine zAh rfl h (fun hb h=>?_) (fun hb h=>?_)
 ·refine zYe [] [] rfl ?_;show Tri ..;refine zAe ?_;obtain⟨hj1,hk1⟩:=pij h;subst hj1;obtain⟨hj2,hk2⟩:=Prod.mk.inj hk1;subst hj2;subst hk2;unfold zAw;exact⟨_,Le.refl _ _,rfl,rfl⟩
 ·refine zAf ?_;show Tri ..;refine zAa ?_;refine zYe [] [] rfl ?_;show Tri ..;obtain⟨fl,hl,ho1⟩:=zAc h;refine zBt (fl:=fl) (fun z=>match z with | ⟨x10,x11,x12,x13⟩=>⟨ofL [(2,.op 0 0),(4,.op 1 0)],ofH [(0,.box 24 [.s (.int .i64 x10),.s (.str x11),.s (.int .i64 x12),.s (.sl 4 (Nd.encs x13))]),(1,.box 24 [.s (.int .i64 0),.s (.str []),.s (.int .i64 0),.nl 4])],2⟩) ?_ (fun z σ' hz hle=>?_)
  ·refine zAl (zAF (X:=Nat×Int×(List UInt8)×Int×(List Nd)×Int) (fun y=>match y with | (k,x4,x5,x6,x7,i9)=>⟨ofL [(1,.s (.sl 8 ((List.map zAi) ops2))),(2,.op 0 0),(4,.op 1 0),(7,.s (.int .i64 i9))],ofH [(0,.box 24 [.s (.int .i64 x4),.s (.str x5),.s (.int .i64 x6),.s (.sl 4 (Nd.encs x7))]),(1,.box 24 [.s (.int .i64 0),.s (.str []),.s (.int .i64 0),.nl 4])],2⟩) (fun y=>zBG n ops2 y.1 y.2.1 y.2.2.1 y.2.2.2.1 y.2.2.2.2.1 y.2.2.2.2.2=some fl) (fun y=>y.1) (n,n1A,n1B,n1D,n1C,0) hl ?_ ?_)
   ·exact(Le.rnm [(0,0),(1,1)] _ _ _ ⟨rfl,rfl,rfl,rfl,trivial⟩ ⟨rfl,⟨_,rfl,rfl⟩,rfl,⟨_,rfl,rfl⟩,trivial⟩)
   ·rintro⟨k,x4,x5,x6,x7,i9⟩ h;cases k with
    | zero=>cases h
    | succ k =>
     replace h:zBG n ops2 (k+1) x4 x5 x6 x7 i9=some fl:=h;rw[zBG]at h;refine zAa ?_;refine zYe [] [16] rfl ?_;intro n14 hn14;obtain rfl:(ops2.length:Int)=n14:=(hn14.trans (congrArg (fun m:Nat=>(m:Int)) (rlen (fun _=>rfl) ops2))).symm;show Tri ..;refine zAh rfl h (fun hb h=>?_) (fun hb h=>?_)
     ·refine zAf ?_;show Tri ..;refine zAa ?_;refine zAl ?_;refine zAa ?_;refine zEK [8] [24] [0,9,10] [0] rfl (by decide +kernel) ?_;obtain⟨⟨e15A,e15U,e15T,e15Z,e15S,e15X,e15Y,e15B⟩,he15,h⟩:=zAc h;refine And.intro (zAB (fun _=>rfl) he15).1 ?_;intro r16 hr16;obtain rfl:[.int .i64 e15A,.sl 1 ((List.map (irow .i64)) e15U),.int .i64 e15T,.int .i64 e15Z,.sl 4 (Nd.encs e15S),.int .i64 e15X,.str e15Y,.str e15B]=r16:=(hr16.trans (zAB (fun _=>rfl) he15).2.1).symm;obtain⟨⟨⟨y17A,y17B,y17D,y17C⟩,y18⟩,hy17,h⟩:=zAc h
      refine⟨_,⟨_,_,_,_,_,hy17,rfl,rfl⟩,?_⟩
      show Tri ..;refine zAk (Le.giveBox 2 [.int .i64 y17A,.str y17B,.int .i64 y17D,.sl 4 (Nd.encs y17C)] rfl rfl) ?_;refine zAa ?_;refine zYe [] [] rfl ?_;show Tri ..;refine zAh rfl h (fun hb h=>?_) (fun hb h=>?_)
      ·refine zYe [] [] rfl ?_;show Tri ..;refine zAe ?_;cases h;replace h:some _=some _:=ho1;obtain⟨hj1,hk1⟩:=pij h;subst hj1;obtain⟨hj2,hk2⟩:=Prod.mk.inj hk1;subst hj2;subst hk2;unfold zAw;exact⟨_,Le.refl _ _,rfl,rfl⟩
      ·refine zAf ?_;show Tri ..;refine zAb [] [] rfl ?_;show Tri ..;refine zAb [] [] rfl ?_;refine⟨(k,y17A,y17B,y17D,y17C,IntKind.i64.wrap (i9+1)),h,(Le.rnm [(0,0),(1,1)] _ _ _ ⟨rfl,rfl,rfl,rfl,trivial⟩ ⟨rfl,⟨_,rfl,rfl⟩,rfl,⟨_,rfl,rfl⟩,trivial⟩),Nat.lt_succ_self k⟩
     ·refine zAI ?_;cases h;exact⟨_,rfl,(Le.rnm [(0,0),(1,1)] _ _ _ ⟨rfl,rfl,trivial⟩ ⟨rfl,⟨_,rfl,rfl⟩,rfl,⟨_,rfl,rfl⟩,trivial⟩)⟩
  ·subst hz;obtain⟨x10,x11,x12,x13⟩:=z;replace h:=ho1;show Tri ..;refine zAk hle ?_;refine zYe [] [] rfl ?_;show Tri ..;refine zAe ?_;obtain⟨hj1,hk1⟩:=pij h;subst hj1;obtain⟨hj2,hk2⟩:=Prod.mk.inj hk1;subst hj2;subst hk2;unfold zAw;exact⟨_,Le.refl _ _,rfl,rfl⟩
def zAN (p:List Int):List S:=[.sl 1 ((List.map (irow .i64)) p)]
def zH1 (n:Nat) (xs:List AV) (r:Ret):Prop:=∃ (a0:Nd) (a1:List Int) (y0:List (List Int)),zDC n a0 a1=some y0/\xs=[.agg ((Nd.enc a0).map .s),.s (.sl 1 ((List.map (irow .i64)) a1))]/\r = .row 56 1 ((List.map zAN) y0)
theorem zR9 (n:Nat) (ih:PSound Tryz.prog 189 (zAy (zH1 n))):PSound Tryz.prog 189 (zAy (zH1 (n+1))):=by
 have gok:∀ f s,look? f [(189,zAy (zH1 n))]=some s->PSound Tryz.prog f s:=zAt (by
  simp only[List.forall_mem_cons]
  exact⟨ih,by simp⟩)
 refine zAA tokW Tryz.call189 Tryz.func189 rfl (fun xs r h=>by obtain⟨_,_,_,_,rfl,_⟩:=h; show 2<=60; decide) 60 rfl ?_;rintro xs r w0 G0 ⟨⟨row1A,row1B,row1D,row1C⟩,path2,y0,h,rfl,rfl⟩ _;rw[zDC]at h;refine zYe [4] [] rfl ?_;show Tri ..;refine zAk (Le.rnm [] [(1,.s (.sl 1 ((List.map (irow .i64)) path2))),(2,.s (.pt [.int .i64 row1A,.str row1B,.int .i64 row1D,.sl 4 (Nd.encs row1C)]))] [] 0 ⟨rfl,rfl,trivial⟩ trivial) ?_;refine zYe [5] [] rfl ?_;show Tri ..
 refine zAk (Le.rnm [(0,0)] [(1,.s (.sl 1 ((List.map (irow .i64)) path2))),(2,.s (.pt [.int .i64 row1A,.str row1B,.int .i64 row1D,.sl 4 (Nd.encs row1C)])),(5,.orow 0)] [(0,.row 56 1 ((List.map zAN) []))] 1 ⟨rfl,rfl,rfl,trivial⟩ ⟨rfl,⟨_,rfl,congrArg (Ob.row 56 1) (by simp[List.map_append,List.map_take,List.map_drop,irow,brow,zAG,List.map_cons,List.map_nil,zAC,Nd.encs_eq,Nd.enc,CV.encs_eq,CV.enc,zAq,zAm,zAx,zAr,zAp,zAi,zAu,zAs,zAd,zAo,zAn,zAN])⟩,trivial⟩) ?_;refine zAa ?_
 refine zYe [] [] rfl ?_;show Tri ..;obtain⟨l6,hl,h⟩:=zAc h;refine zAv ⟨ofL [(5,.orow 0)],ofH [(0,.row 56 1 ((List.map zAN) l6))],1⟩ ?_ (fun σ' hle=>?_)
 ·refine zAl (zAF (X:=Nat×Int×(List (List Int))) (fun y=>match y with | (k,i4,l5)=>⟨ofL [(1,.s (.sl 1 ((List.map (irow .i64)) path2))),(2,.s (.pt [.int .i64 row1A,.str row1B,.int .i64 row1D,.sl 4 (Nd.encs row1C)])),(5,.orow 0),(6,.s (.int .i64 i4))],ofH [(0,.row 56 1 ((List.map zAN) l5))],1⟩) (fun y=>zDD (zDC n) n row1C path2 y.1 y.2.1 y.2.2=some l6) (fun y=>y.1) (n,0,[]) hl ?_ ?_)
  ·exact(Le.rnm [(0,0)] _ _ _ ⟨rfl,rfl,rfl,rfl,trivial⟩ ⟨rfl,⟨_,rfl,rfl⟩,trivial⟩)
  ·rintro⟨k,i4,l5⟩ h;cases k with
   | zero=>cases h
   | succ k =>
    replace h:zDD (zDC n) n row1C path2 (k+1) i4 l5=some l6:=h;rw[zDD]at h;refine zAa ?_;refine zYe [] [11] rfl ?_;intro n7 hn7;obtain rfl:(row1C.length:Int)=n7:=(hn7.trans (congrArg (fun m:Nat=>(m:Int)) (rlen Nd.encs_eq row1C))).symm;show Tri ..;refine zAh rfl h (fun hb h=>?_) (fun hb h=>?_)
    ·refine zAf ?_;show Tri ..;refine zAa ?_;refine zAl ?_;refine zAa ?_;refine zAk (Le.toA 0 rfl) ?_;obtain⟨y9,hy9,h⟩:=zAc h;obtain⟨hqp,hyq⟩:=zAK hy9;replace hyq:=Option.some.inj hyq;rw[List.length_singleton]at hqp;refine zAb [16,18,21,22,23] [20] rfl ?_;refine And.intro (show((0:Nat)+((List.map (irow .i64)) path2).length) * 8<=140737488355328/\(0:Nat)+((List.map (irow .i64)) path2).length<=9223372036854775807 by rw[List.length_map]; omega) ?_;intro r8 hr8;have hl1:r8.length=1:=by rw[hr8]; rfl
     refine And.intro (show(([]++((List.map (irow .i64)) path2)).length+r8.length) * 8<=140737488355328/\([]++((List.map (irow .i64)) path2)).length+r8.length<=9223372036854775807 by rw[hl1,List.nil_append,List.length_map]; omega) ?_
     clear hl1
     obtain rfl:(List.map (irow .i64)) [i4]=r8:=(hr8.trans (by simp[List.map_append,List.map_take,List.map_drop,irow,brow,zAG,List.map_cons,List.map_nil,zAC,Nd.encs_eq,Nd.enc,CV.encs_eq,CV.enc,zAq,zAm,zAx,zAr,zAp,zAi,zAu,zAs,zAd,zAo,zAn,zAN])).symm;obtain⟨hq,h⟩:=zAK h
     refine And.intro (show((((List.map zAN) l5).map (·.map AV.s)).length+1) * 24<=140737488355328/\(((List.map zAN) l5).map (·.map AV.s)).length+1<=9223372036854775807 by rw[List.length_map,List.length_map]; simp only[List.length_cons,List.length_nil]at hq; omega) ?_;show Tri ..;refine zAk (Le.giveRow 3 rfl) ?_;refine zAk (Le.ofA 5 ((List.map zAN) (l5++[y9])) rfl (by rw[← hyq,List.map_append,List.map_append,zUb]; exact zKF (zTM _) (show some [[S.sl 1 ([]++(List.map (irow .i64)) path2++(List.map (irow .i64)) [i4])]]=some ((List.map zAN) [path2++[i4]]) by simp[zAN]))) ?_
     refine zAk (Le.rnm [(5,0)] [(1,.s (.sl 1 ((List.map (irow .i64)) path2))),(2,.s (.pt [.int .i64 row1A,.str row1B,.int .i64 row1D,.sl 4 (Nd.encs row1C)])),(5,.orow 0),(6,.s (.int .i64 i4))] [(0,.row 56 1 ((List.map zAN) (l5++[y9])))] 1 ⟨rfl,rfl,rfl,rfl,trivial⟩ ⟨rfl,⟨_,rfl,congrArg (Ob.row 56 1) (by simp[List.map_append,List.map_take,List.map_drop,irow,brow,zAG,List.map_cons,List.map_nil,zAC,Nd.encs_eq,Nd.enc,CV.encs_eq,CV.enc,zAq,zAm,zAx,zAr,zAp,zAi,zAu,zAs,zAd,zAo,zAn,zAN])⟩,trivial⟩) ?_
     refine zAa ?_;refine zYe [] [27] rfl ?_;intro n11 hn11;obtain rfl:(row1C.length:Int)=n11:=(hn11.trans (congrArg (fun m:Nat=>(m:Int)) (rlen Nd.encs_eq row1C))).symm;show Tri ..;refine zAh rfl h (fun hb h=>?_) (fun hb h=>?_)
     ·refine zAI ?_;cases h;exact(Le.rnm [(0,0)] _ _ _ ⟨rfl,trivial⟩ ⟨rfl,⟨_,rfl,rfl⟩,trivial⟩)
     ·refine zAf ?_;show Tri ..;refine zYe [] [] rfl ?_;show Tri ..;obtain⟨l15,hl,h⟩:=zAc h;refine zAv ⟨ofL [(1,.s (.sl 1 ((List.map (irow .i64)) path2))),(2,.s (.pt [.int .i64 row1A,.str row1B,.int .i64 row1D,.sl 4 (Nd.encs row1C)])),(5,.orow 0),(6,.s (.int .i64 i4))],ofH [(0,.row 56 1 ((List.map zAN) l15))],1⟩ ?_ (fun σ' hle=>?_)
      ·refine zAl (zAF (X:=Nat×Int×(List (List Int))) (fun y=>match y with | (k,k13,l14)=>⟨ofL [(1,.s (.sl 1 ((List.map (irow .i64)) path2))),(2,.s (.pt [.int .i64 row1A,.str row1B,.int .i64 row1D,.sl 4 (Nd.encs row1C)])),(5,.orow 0),(6,.s (.int .i64 i4)),(7,.s (.int .i64 k13))],ofH [(0,.row 56 1 ((List.map zAN) l14))],1⟩) (fun y=>zDE (zDC n) row1C path2 i4 y.1 y.2.1 y.2.2=some l15) (fun y=>y.1) (n,0,l5++[y9]) hl ?_ ?_)
       ·exact(Le.rnm [(0,0)] _ _ _ ⟨rfl,rfl,rfl,rfl,rfl,trivial⟩ ⟨rfl,⟨_,rfl,rfl⟩,trivial⟩)
       ·rintro⟨k,k13,l14⟩ h;cases k with
        | zero=>cases h
        | succ k =>
         replace h:zDE (zDC n) row1C path2 i4 (k+1) k13 l14=some l15:=h;rw[zDE]at h;refine zAa ?_;refine zYe [] [33,36] rfl ?_;obtain⟨⟨e16A,e16B,e16D,e16C⟩,he16,h⟩:=zAc h;refine And.intro (zAB Nd.encs_eq he16).1 ?_;intro r17 hr17;obtain rfl:[.int .i64 e16A,.str e16B,.int .i64 e16D,.sl 4 (Nd.encs e16C)]=r17:=(hr17.trans (zAB Nd.encs_eq he16).2.1).symm;intro n18 hn18;obtain rfl:(e16C.length:Int)=n18:=(hn18.trans (congrArg (fun m:Nat=>(m:Int)) (rlen Nd.encs_eq e16C))).symm;show Tri ..;refine zAh rfl h (fun hb h=>?_) (fun hb h=>?_)
         ·refine zAf ?_;show Tri ..;refine zAa ?_;refine zAl ?_;refine zEK [50,52,56,58] [44,48,55] [10,12,16,17,18] [] rfl (by decide +kernel) ?_;obtain⟨⟨e19A,e19B,e19D,e19C⟩,he19,h⟩:=zAc h;refine And.intro (zAB Nd.encs_eq he19).1 ?_;intro r20 hr20;obtain rfl:[.int .i64 e19A,.str e19B,.int .i64 e19D,.sl 4 (Nd.encs e19C)]=r20:=(hr20.trans (zAB Nd.encs_eq he19).2.1).symm;obtain⟨⟨e21A,e21B,e21D,e21C⟩,he21,h⟩:=zAc h;refine And.intro (zAB Nd.encs_eq he21).1 ?_;intro r22 hr22
          obtain rfl:[.int .i64 e21A,.str e21B,.int .i64 e21D,.sl 4 (Nd.encs e21C)]=r22:=(hr22.trans (zAB Nd.encs_eq he21).2.1).symm;obtain⟨hq,h⟩:=zAK h;refine And.intro (show(([]:List (List S)).length+((List.map (irow .i64)) path2).length) * 8<=140737488355328/\([]:List (List S)).length+((List.map (irow .i64)) path2).length<=9223372036854775807 from by simp only[List.length_append,List.length_cons,List.length_nil,List.length_map,rlen (fun _=>rfl)]at hq ⊢; omega) ?_;intro r23 hr23;have hl2:r23.length=2 :=(by rw[hr23]; rfl);obtain⟨hq,h⟩:=zAK h
          refine And.intro (show((([]:List (List S))++((List.map (irow .i64)) path2)).length+r23.length) * 8<=140737488355328/\(([]:List (List S))++((List.map (irow .i64)) path2)).length+r23.length<=9223372036854775807 from by rw[hl2]; simp only[List.length_append,List.length_cons,List.length_nil,List.length_map]at hq ⊢; omega) ?_
          clear hl2
          obtain rfl:(List.map (irow .i64)) [i4,k13]=r23:=(hr23.trans (by simp[List.map_append,List.map_take,List.map_drop,irow,brow,zAG,List.map_cons,List.map_nil,zAC,Nd.encs_eq,Nd.enc,CV.encs_eq,CV.enc,zAq,zAm,zAx,zAr,zAp,zAi,zAu,zAs,zAd,zAo,zAn,zAN])).symm;obtain⟨y24,hy24,h⟩:=zAc h
          refine⟨_,⟨_,_,_,hy24,(congrArg (fun r=>[(AV.agg [.s (.int .i64 e21A),.s (.str e21B),.s (.int .i64 e21D),.s (.sl 4 (Nd.encs e21C))]),AV.s (.sl 1 r)]) (show([]++((List.map (irow .i64)) path2))++((List.map (irow .i64)) [i4,k13])=(List.map (irow .i64)) (path2++[i4,k13]) from(by simp[List.map_append,List.map_take,List.map_drop,irow,brow,zAG,List.map_cons,List.map_nil,zAC,Nd.encs_eq,Nd.enc,CV.encs_eq,CV.enc,zAq,zAm,zAx,zAr,zAp,zAi,zAu,zAs,zAd,zAo,zAn,zAN]))),rfl⟩,?_⟩
          obtain⟨hq,h⟩:=zAK h;refine And.intro (show(((List.map zAN) l14).length+((List.map zAN) y24).length) * 24<=140737488355328/\((List.map zAN) l14).length+((List.map zAN) y24).length<=9223372036854775807 from by simp only[List.length_append,List.length_cons,List.length_nil,List.length_map,rlen (fun _=>rfl)]at hq ⊢; omega) ?_;show Tri ..
          refine zAk (Le.rnm [(4,0)] [(1,.s (.sl 1 ((List.map (irow .i64)) path2))),(2,.s (.pt [.int .i64 row1A,.str row1B,.int .i64 row1D,.sl 4 (Nd.encs row1C)])),(5,.orow 0),(6,.s (.int .i64 i4)),(7,.s (.int .i64 k13))] [(0,.row 56 1 ((List.map zAN) (l14++y24)))] 1 ⟨rfl,rfl,rfl,rfl,rfl,trivial⟩ ⟨rfl,⟨_,rfl,congrArg (Ob.row 56 1) (by simp[List.map_append,List.map_take,List.map_drop,irow,brow,zAG,List.map_cons,List.map_nil,zAC,Nd.encs_eq,Nd.enc,CV.encs_eq,CV.enc,zAq,zAm,zAx,zAr,zAp,zAi,zAu,zAs,zAd,zAo,zAn,zAN])⟩,trivial⟩) ?_
          refine zAb [] [] rfl ?_;refine⟨(k,IntKind.i64.wrap (k13+1),l14++y24),h,(Le.rnm [(0,0)] _ _ _ ⟨rfl,rfl,rfl,rfl,rfl,trivial⟩ ⟨rfl,⟨_,rfl,rfl⟩,trivial⟩),Nat.lt_succ_self k⟩
         ·refine zAI ?_;cases h;exact(Le.rnm [(0,0)] _ _ _ ⟨rfl,rfl,rfl,rfl,trivial⟩ ⟨rfl,⟨_,rfl,rfl⟩,trivial⟩)
      ·show Tri ..;refine zAk hle ?_;refine zAb [] [] rfl ?_;refine⟨(k,IntKind.i64.wrap (i4+1),l15),h,(Le.rnm [(0,0)] _ _ _ ⟨rfl,rfl,rfl,rfl,trivial⟩ ⟨rfl,⟨_,rfl,rfl⟩,trivial⟩),Nat.lt_succ_self k⟩
    ·refine zAI ?_;cases h;exact(Le.rnm [(0,0)] _ _ _ ⟨rfl,trivial⟩ ⟨rfl,⟨_,rfl,rfl⟩,trivial⟩)
 ·show Tri ..;refine zAk hle ?_;refine zYe [] [] rfl ?_;show Tri ..;refine zAe ?_;have hy:=Option.some.inj h;subst hy;unfold zAw;exact⟨_,Le.refl _ _,0,rfl,rfl⟩
theorem zSz:∀ n,PSound Tryz.prog 189 (zAy (zH1 n)):=by
 intro n
 induction n with
 | zero=>exact zBI Tryz.call189 (fun xs r h=>by obtain⟨_,_,_,h,_⟩:=h; cases h)
 | succ n ih=>exact zR9 n ih
def zQS:zAz:=zAy fun xs r=>∃ n,zH1 n xs r
theorem zUp:PSound Tryz.prog 189 zQS:=zCb zSz
def zUN (n:Nat) (xs:List AV) (r:Ret):Prop:=∃ (a0:Nd) (y0:List (List Int)) (y1:Int),zIm n a0=some (y0,y1)/\xs=[.agg ((Nd.enc a0).map .s)]/\r = .val (.tup [.s (.sl 1 ((List.map zAN) y0)),.s (.int .i64 y1)])
def zQR:zAz:=zAy fun xs r=>∃ n,zUN n xs r
theorem zUo:PSound Tryz.prog 161 zQR:=by
 have gok:∀ f s,look? f [(35,zEc),(189,zQS)]=some s->PSound Tryz.prog f s:=zAt (by
  simp only[List.forall_mem_cons]
  exact⟨zEu,zUp,by simp⟩)
 refine zAA tokW Tryz.call161 Tryz.func161 rfl (fun xs r h=>by obtain⟨n,_,_,_,_,rfl,_⟩:=h; show 1<=9; decide) 9 rfl ?_;rintro xs r w0 G0 ⟨n,⟨n1A,n1B,n1D,n1C⟩,y0,y1,h,rfl,rfl⟩ _;rw[zIm]at h;refine zYe [] [] rfl ?_;show Tri ..;refine zAa ?_;refine zYe [] [] rfl ?_;obtain⟨y2,hy2,h⟩:=zAc h;refine⟨_,⟨_,_,_,hy2,rfl,rfl⟩,?_⟩
 show Tri ..;refine zAh rfl h (fun hb h=>?_) (fun hb h=>?_)
 ·refine zYe [] [] rfl ?_;show Tri ..;refine zAe ?_;obtain⟨hj1,hk1⟩:=pij h;subst hj1 hk1;unfold zAw;exact⟨_,Le.refl _ _,rfl,rfl⟩
 ·refine zAf ?_;show Tri ..;refine zYe [] [] rfl ?_;obtain⟨y3,hy3,h⟩:=zAc h;refine⟨_,⟨_,_,_,_,hy3,rfl,rfl⟩,?_⟩
  show Tri ..;refine zAe ?_;obtain⟨hj1,hk1⟩:=pij h;subst hj1 hk1;unfold zAw;exact⟨_,Le.refl _ _,rfl,rfl⟩
def zPv (n:Nat) (xs:List AV) (r:Ret):Prop:=∃ (a0:List Int) (a1:List Int) (y0:Int),zDS n a0 a1=some y0/\xs=[.s (.sl 1 ((List.map (irow .i64)) a0)),.s (.sl 1 ((List.map (irow .i64)) a1))]/\r = .val (.s (.int .i64 y0))
def zHs:zAz:=zAy fun xs r=>∃ n,zPv n xs r
theorem zJt:PSound Tryz.prog 162 zHs:=by
 have gok:=@gok0 Tryz.prog;refine zAA tokW Tryz.call162 Tryz.func162 rfl (fun xs r h=>by obtain⟨n,_,_,_,_,rfl,_⟩:=h; show 2<=48; decide) 48 rfl ?_;rintro xs r w0 G0 ⟨n,a1,b2,y0,h,rfl,rfl⟩ _;rw[zDS]at h;refine zYe [] [] rfl ?_;show Tri ..;refine zAa ?_;refine zYe [] [] rfl ?_;show Tri ..;obtain⟨fl,hl,ho1⟩:=zAc h;refine zBt (fl:=fl) (fun z=>match z with | _=>⟨ofL [(0,.s (.sl 1 ((List.map (irow .i64)) a1))),(1,.s (.sl 1 ((List.map (irow .i64)) b2)))],fun _=>none,0⟩) ?_ (fun z σ' hz hle=>?_)
 ·refine zAl (zAF (X:=Nat×Int) (fun y=>match y with | (k,i3)=>⟨ofL [(0,.s (.sl 1 ((List.map (irow .i64)) a1))),(1,.s (.sl 1 ((List.map (irow .i64)) b2))),(5,.s (.int .i64 i3))],fun _=>none,0⟩) (fun y=>zBX a1 b2 y.1 y.2=some fl) (fun y=>y.1) (n,0) hl ?_ ?_)
  ·exact(Le.forget _ ⟨rfl,rfl,rfl,trivial⟩)
  ·rintro⟨k,i3⟩ h;cases k with
   | zero=>cases h
   | succ k =>
    replace h:zBX a1 b2 (k+1) i3=some fl:=h;rw[zBX]at h;refine zAa ?_;refine zAa ?_;obtain⟨x4,hj,h⟩:=zAc h;refine zAv ⟨ofL [(0,.s (.sl 1 ((List.map (irow .i64)) a1))),(1,.s (.sl 1 ((List.map (irow .i64)) b2))),(5,.s (.int .i64 i3)),(15,.s (.bool x4))],fun _=>none,0⟩ ?_ (fun σ' hle=>?_)
    ·replace h:=hj;refine zAb [] [8,10,13] rfl ?_;intro n5 hn5;obtain rfl:(a1.length:Int)=n5:=(hn5.trans (congrArg (fun m:Nat=>(m:Int)) (rlen (fun _=>rfl) a1))).symm;intro b hb;cases b with
     | true =>
      replace h:=zAE hb.symm h;intro n6 hn6;obtain rfl:(b2.length:Int)=n6:=(hn6.trans (congrArg (fun m:Nat=>(m:Int)) (rlen (fun _=>rfl) b2))).symm;cases h;exact(Le.forget _ ⟨rfl,rfl,rfl,rfl,trivial⟩)
     | false =>
      replace h:=zAD hb.symm h;cases h;exact(Le.forget _ ⟨rfl,rfl,rfl,rfl,trivial⟩)
    ·show Tri ..;refine zAk hle ?_;refine zAh rfl h (fun hb h=>?_) (fun hb h=>?_)
     ·refine zAf ?_;show Tri ..;refine zAa ?_;refine zAl ?_;refine zAa ?_;refine zAa ?_;refine zAQ [] [20,24] [] rfl (by decide +kernel) ?_;obtain⟨e7,he7,h⟩:=zAc h;refine And.intro (zAB (fun _=>rfl) he7).1 ?_;intro r8 hr8;obtain rfl:[.int .i64 e7]=r8:=(hr8.trans (zAB (fun _=>rfl) he7).2.1).symm;obtain⟨e9,he9,h⟩:=zAc h;refine And.intro (zAB (fun _=>rfl) he9).1 ?_;intro r10 hr10;obtain rfl:[.int .i64 e9]=r10:=(hr10.trans (zAB (fun _=>rfl) he9).2.1).symm;show Tri ..;refine zAh rfl h (fun hb h=>?_) (fun hb h=>?_)
      ·refine zYe [] [] rfl ?_;show Tri ..;refine zAe ?_;cases h;replace h:some _=some _:=ho1;have hy:=Option.some.inj h;subst hy;unfold zAw;exact⟨_,Le.refl _ _,rfl,rfl⟩
      ·refine zAf ?_;show Tri ..;refine zAa ?_;refine zAQ [] [29,33] [] rfl (by decide +kernel) ?_;obtain⟨e11,he11,h⟩:=zAc h;refine And.intro (zAB (fun _=>rfl) he11).1 ?_;intro r12 hr12;obtain rfl:[.int .i64 e11]=r12:=(hr12.trans (zAB (fun _=>rfl) he11).2.1).symm;obtain⟨e13,he13,h⟩:=zAc h;refine And.intro (zAB (fun _=>rfl) he13).1 ?_;intro r14 hr14;obtain rfl:[.int .i64 e13]=r14:=(hr14.trans (zAB (fun _=>rfl) he13).2.1).symm;show Tri ..;refine zAh rfl h (fun hb h=>?_) (fun hb h=>?_)
       ·refine zYe [] [] rfl ?_;show Tri ..;refine zAe ?_;cases h;replace h:some _=some _:=ho1;have hy:=Option.some.inj h;subst hy;unfold zAw;exact⟨_,Le.refl _ _,rfl,rfl⟩
       ·refine zAf ?_;show Tri ..;refine zAb [] [] rfl ?_;refine⟨(k,IntKind.i64.wrap (i3+1)),h,(Le.forget _ ⟨rfl,rfl,rfl,trivial⟩),Nat.lt_succ_self k⟩
     ·refine zAI ?_;cases h;exact⟨_,rfl,(Le.forget _ ⟨rfl,rfl,trivial⟩)⟩
 ·subst hz;obtain _:=z;replace h:=ho1;show Tri ..;refine zAk hle ?_;refine zAa ?_;refine zAl ?_;refine zYe [] [38,40] rfl ?_;intro n15 hn15;obtain rfl:(a1.length:Int)=n15:=(hn15.trans (congrArg (fun m:Nat=>(m:Int)) (rlen (fun _=>rfl) a1))).symm;intro n16 hn16;obtain rfl:(b2.length:Int)=n16:=(hn16.trans (congrArg (fun m:Nat=>(m:Int)) (rlen (fun _=>rfl) b2))).symm;show Tri ..;refine zAh rfl h (fun hb h=>?_) (fun hb h=>?_)
  ·refine zYe [] [] rfl ?_;show Tri ..;refine zAe ?_;have hy:=Option.some.inj h;subst hy;unfold zAw;exact⟨_,Le.refl _ _,rfl,rfl⟩
  ·refine zYe [] [44,46] rfl ?_;intro n17 hn17;obtain rfl:(a1.length:Int)=n17:=(hn17.trans (congrArg (fun m:Nat=>(m:Int)) (rlen (fun _=>rfl) a1))).symm;intro n18 hn18;obtain rfl:(b2.length:Int)=n18:=(hn18.trans (congrArg (fun m:Nat=>(m:Int)) (rlen (fun _=>rfl) b2))).symm;show Tri ..;refine zAh rfl h (fun hb h=>?_) (fun hb h=>?_)
   ·refine zYe [] [] rfl ?_;show Tri ..;refine zAe ?_;have hy:=Option.some.inj h;subst hy;unfold zAw;exact⟨_,Le.refl _ _,rfl,rfl⟩
   ·refine zAf ?_;show Tri ..;refine zYe [] [] rfl ?_;show Tri ..;refine zAe ?_;have hy:=Option.some.inj h;subst hy;unfold zAw;exact⟨_,Le.refl _ _,rfl,rfl⟩
def zSt (n:Nat) (xs:List AV) (r:Ret):Prop:=∃ (a0:Nd) (a1:List Int) (y0:Int) (y1:Int),zE0 n a0 a1=some (y0,y1)/\xs=[.agg ((Nd.enc a0).map .s),.s (.sl 1 ((List.map (irow .i64)) a1))]/\r = .val (.tup [.s (.int .i64 y0),.s (.int .i64 y1)])
def zMw:zAz:=zAy fun xs r=>∃ n,zSt n xs r
theorem zRM:PSound Tryz.prog 119 zMw:=by
 have gok:∀ f s,look? f [(161,zQR),(162,zHs)]=some s->PSound Tryz.prog f s:=zAt (by
  simp only[List.forall_mem_cons]
  exact⟨zUo,zJt,by simp⟩)
 refine zAA tokW Tryz.call119 Tryz.func119 rfl (fun xs r h=>by obtain⟨n,_,_,_,_,_,rfl,_⟩:=h; show 2<=31; decide) 31 rfl ?_;rintro xs r w0 G0 ⟨n,⟨n1A,n1B,n1D,n1C⟩,pos2,y0,y1,h,rfl,rfl⟩ _;rw[zE0]at h;refine zYe [] [] rfl ?_;show Tri ..;refine zYe [] [] rfl ?_;obtain⟨⟨y3,y4⟩,hy3,h⟩:=zAc h;refine⟨_,⟨_,_,_,_,hy3,rfl,rfl⟩,?_⟩
 show Tri ..;refine zAa ?_;refine zYe [] [] rfl ?_;show Tri ..;refine zAh rfl h (fun hb h=>?_) (fun hb h=>?_)
 ·refine zYe [] [] rfl ?_;show Tri ..;refine zAe ?_;obtain⟨hj1,hk1⟩:=pij h;subst hj1 hk1;unfold zAw;exact⟨_,Le.refl _ _,rfl,rfl⟩
 ·refine zAf ?_;show Tri ..;refine zAa ?_;refine zYe [] [] rfl ?_;show Tri ..;obtain⟨fl,hl,ho1⟩:=zAc h;refine zBt (fl:=fl) (fun z=>match z with | _=>⟨ofL [],fun _=>none,0⟩) ?_ (fun z σ' hz hle=>?_)
  ·refine zAl (zAF (X:=Nat×Int) (fun y=>match y with | (k,i5)=>⟨ofL [(1,.s (.sl 1 ((List.map (irow .i64)) pos2))),(6,.s (.sl 1 ((List.map zAN) y3))),(8,.s (.int .i64 i5))],fun _=>none,0⟩) (fun y=>zCG n pos2 y3 y.1 y.2=some fl) (fun y=>y.1) (n,0) hl ?_ ?_)
   ·exact(Le.forget _ ⟨rfl,rfl,rfl,trivial⟩)
   ·rintro⟨k,i5⟩ h;cases k with
    | zero=>cases h
    | succ k =>
     replace h:zCG n pos2 y3 (k+1) i5=some fl:=h;rw[zCG]at h;refine zAa ?_;refine zYe [] [19] rfl ?_;intro n6 hn6;obtain rfl:(y3.length:Int)=n6:=(hn6.trans (congrArg (fun m:Nat=>(m:Int)) (rlen (fun _=>rfl) y3))).symm;show Tri ..;refine zAh rfl h (fun hb h=>?_) (fun hb h=>?_)
     ·refine zAf ?_;show Tri ..;refine zAa ?_;refine zAl ?_;refine zYe [] [25] rfl ?_;obtain⟨e7,he7,h⟩:=zAc h;refine And.intro (zAB (fun _=>rfl) he7).1 ?_;intro r8 hr8;obtain rfl:[.sl 1 ((List.map (irow .i64)) e7)]=r8:=(hr8.trans (zAB (fun _=>rfl) he7).2.1).symm;obtain⟨y9,hy9,h⟩:=zAc h;refine⟨_,⟨_,_,_,_,hy9,rfl,rfl⟩,?_⟩
      show Tri ..;refine zAh rfl h (fun hb h=>?_) (fun hb h=>?_)
      ·refine zYe [] [] rfl ?_;show Tri ..;refine zAe ?_;cases h;replace h:some _=some _:=ho1;obtain⟨hj1,hk1⟩:=pij h;subst hj1 hk1;unfold zAw;exact⟨_,Le.refl _ _,rfl,rfl⟩
      ·refine zAf ?_;show Tri ..;refine zAb [] [] rfl ?_;refine⟨(k,IntKind.i64.wrap (i5+1)),h,(Le.forget _ ⟨rfl,rfl,rfl,trivial⟩),Nat.lt_succ_self k⟩
     ·refine zAI ?_;cases h;exact⟨_,rfl,(Le.forget _ trivial)⟩
  ·subst hz;obtain _:=z;replace h:=ho1;show Tri ..;refine zAk hle ?_;refine zYe [] [] rfl ?_;show Tri ..;refine zAe ?_;obtain⟨hj1,hk1⟩:=pij h;subst hj1 hk1;unfold zAw;exact⟨_,Le.refl _ _,rfl,rfl⟩
def zSu (n:Nat) (xs:List AV) (r:Ret):Prop:=∃ (a0:Nd) (a1:List Int) (y0:Bool),zEf n a0 a1=some y0/\xs=[.agg ((Nd.enc a0).map .s),.s (.sl 1 ((List.map (irow .i64)) a1))]/\r = .val (.s (.bool y0))
def zMx:zAz:=zAy fun xs r=>∃ n,zSu n xs r
theorem zRN:PSound Tryz.prog 80 zMx:=by
 have gok:∀ f s,look? f [(119,zMw)]=some s->PSound Tryz.prog f s:=zAt (by
  simp only[List.forall_mem_cons]
  exact⟨zRM,by simp⟩)
 refine zAA tokW Tryz.call80 Tryz.func80 rfl (fun xs r h=>by obtain⟨n,_,_,_,_,rfl,_⟩:=h; show 2<=15; decide) 15 rfl ?_;rintro xs r w0 G0 ⟨n,⟨n1A,n1B,n1D,n1C⟩,pos2,y0,h,rfl,rfl⟩ _;rw[zEf]at h;refine zYe [] [] rfl ?_;show Tri ..;refine zYe [] [] rfl ?_;obtain⟨⟨y3,y4⟩,hy3,h⟩:=zAc h;refine⟨_,⟨_,_,_,_,_,hy3,rfl,rfl⟩,?_⟩
 show Tri ..;refine zYe [] [] rfl ?_;show Tri ..;refine zAe ?_;have hy:=Option.some.inj h;subst hy;unfold zAw;exact⟨_,Le.refl _ _,rfl,rfl⟩
def zQN (n:Nat) (xs:List AV) (r:Ret):Prop:=∃ (a0:Nd) (a1:zCu) (y0:Bool),zDH n a0 a1=some y0/\xs=[.agg ((Nd.enc a0).map .s),.agg ((zAs a1).map .s)]/\r = .val (.s (.bool y0))
def zLt:zAz:=zAy fun xs r=>∃ n,zQN n xs r
theorem zP7:PSound Tryz.prog 37 zLt:=by
 have gok:∀ f s,look? f [(80,zMx)]=some s->PSound Tryz.prog f s:=zAt (by
  simp only[List.forall_mem_cons]
  exact⟨zRN,by simp⟩)
 refine zAA tokW Tryz.call37 Tryz.func37 rfl (fun xs r h=>by obtain⟨n,_,_,_,_,rfl,_⟩:=h; show 2<=21; decide) 21 rfl ?_;rintro xs r w0 G0 ⟨n,⟨n1A,n1B,n1D,n1C⟩,⟨c2Ao,c2Ak⟩,y0,h,rfl,rfl⟩ _;rw[zDH]at h;refine zYe [] [] rfl ?_;show Tri ..;refine zAa ?_;obtain⟨x3,hj,h⟩:=zAc h;refine zAv ⟨ofL [(4,.s (.bool x3))],fun _=>none,0⟩ ?_ (fun σ' hle=>?_)
 ·replace h:=hj;refine zAb [] [9,12,14] rfl ?_;obtain⟨y4,hy4,h⟩:=zAc h;refine⟨_,⟨_,_,_,_,hy4,rfl,rfl⟩,?_⟩
  intro b hb;cases b with
  | true =>
   replace h:=zAE hb.symm h;intro n5 hn5;obtain rfl:(c2Ak.length:Int)=n5:=(hn5.trans (congrArg (fun m:Nat=>(m:Int)) (rlen (fun _=>rfl) c2Ak))).symm;intro b hb;cases b with
   | true =>
    replace h:=zAE hb.symm h;cases h;exact(Le.forget _ ⟨rfl,trivial⟩)
   | false =>
    replace h:=zAD hb.symm h;obtain⟨y6,hy6,h⟩:=zAc h;refine⟨_,⟨_,_,_,_,hy6,rfl,rfl⟩,?_⟩
    cases h;exact(Le.forget _ ⟨rfl,trivial⟩)
  | false =>
   replace h:=zAD hb.symm h;cases h;exact(Le.forget _ ⟨rfl,trivial⟩)
 ·show Tri ..;refine zAk hle ?_;refine zAe ?_;have hy:=Option.some.inj h;subst hy;unfold zAw;exact⟨_,Le.refl _ _,rfl,rfl⟩
def zSw (n:Nat) (xs:List AV) (r:Ret):Prop:=∃ (a0:(List UInt8×Nd×List zRc×Int)) (y0:Bool),zEg n a0=some y0/\xs=[.agg ((zAn a0).map .s)]/\r = .val (.s (.bool y0))
def zMz:zAz:=zAy fun xs r=>∃ n,zSw n xs r
theorem zRP:PSound Tryz.prog 13 zMz:=by
 have gok:∀ f s,look? f [(34,zFV),(35,zEc),(36,zJi),(37,zLt)]=some s->PSound Tryz.prog f s:=zAt (by
  simp only[List.forall_mem_cons]
  exact⟨zHO,zEu,zNd,zP7,by simp⟩)
 refine zAA tokW Tryz.call13 Tryz.func13 rfl (fun xs r h=>by obtain⟨n,_,_,_,rfl,_⟩:=h; show 1<=83; decide) 83 rfl ?_;rintro xs r w0 G0 ⟨n,⟨a1Af,⟨a1G,a1H,a1I,a1J⟩,a1E,a1F⟩,y0,h,rfl,rfl⟩ _;rw[zEg]at h;refine zYe [] [] rfl ?_;show Tri ..;refine zAa ?_;refine zAa ?_;obtain⟨x2,hj,h⟩:=zAc h
 refine zAv ⟨ofL [(1,.s (.pt [.str a1Af,.int .i64 a1G,.str a1H,.int .i64 a1I,.sl 4 (Nd.encs a1J),.sl 5 ((List.map zAd) a1E),.int .i64 a1F])),(43,.s (.bool x2))],fun _=>none,0⟩ ?_ (fun σ' hle=>?_)
 ·replace h:=hj;refine zAb [] [13,19,25,28,31,36,41] rfl ?_;intro b hb;cases b with
  | true =>
   replace h:=zAE hb.symm h;intro b hb;subst hb;intro b hb;subst hb;intro b hb;subst hb;intro b hb;subst hb;cases h;exact(Le.forget _ ⟨rfl,rfl,trivial⟩)
  | false =>
   replace h:=zAD hb.symm h;obtain⟨y3,hy3,h⟩:=zAc h;refine⟨_,⟨_,_,_,hy3,rfl,rfl⟩,?_⟩
   intro b hb;cases b with
   | true =>
    replace h:=zAE hb.symm h;intro b hb;subst hb;intro b hb;subst hb;intro b hb;subst hb;cases h;exact(Le.forget _ ⟨rfl,rfl,trivial⟩)
   | false =>
    replace h:=zAD hb.symm h;obtain⟨y4,hy4,h⟩:=zAc h;refine⟨_,⟨_,_,_,hy4,rfl,rfl⟩,?_⟩
    intro b hb;cases b with
    | true =>
     replace h:=zAE hb.symm h;intro b hb;subst hb;intro b hb;subst hb;cases h;exact(Le.forget _ ⟨rfl,rfl,trivial⟩)
    | false =>
     replace h:=zAD hb.symm h;intro n5 hn5;obtain rfl:(a1E.length:Int)=n5:=(hn5.trans (congrArg (fun m:Nat=>(m:Int)) (rlen (fun _=>rfl) a1E))).symm;intro b hb;cases b with
     | true =>
      replace h:=zAE hb.symm h;intro b hb;subst hb;cases h;exact(Le.forget _ ⟨rfl,rfl,trivial⟩)
     | false =>
      replace h:=zAD hb.symm h;intro b hb;cases b with
      | true =>
       replace h:=zAE hb.symm h;cases h;exact(Le.forget _ ⟨rfl,rfl,trivial⟩)
      | false =>
       replace h:=zAD hb.symm h;intro n6 hn6;obtain rfl:(a1E.length:Int)=n6:=(hn6.trans (congrArg (fun m:Nat=>(m:Int)) (rlen (fun _=>rfl) a1E))).symm;cases h;exact(Le.forget _ ⟨rfl,rfl,trivial⟩)
 ·show Tri ..;refine zAk hle ?_;refine zAh rfl h (fun hb h=>?_) (fun hb h=>?_)
  ·refine zYe [] [] rfl ?_;show Tri ..;refine zAe ?_;have hy:=Option.some.inj h;subst hy;unfold zAw;exact⟨_,Le.refl _ _,rfl,rfl⟩
  ·refine zAf ?_;show Tri ..;refine zYe [3] [] rfl ?_;show Tri ..;refine zAa ?_;refine zYe [] [] rfl ?_;show Tri ..;obtain⟨fl,hl,ho1⟩:=zAc h;refine zBt (fl:=fl) (fun z=>match z with | _=>⟨ofL [],fun _=>none,0⟩) ?_ (fun z σ' hz hle=>?_)
   ·refine zAl (zAF (X:=Nat×Int×(List UInt8)×Int×(List Nd)×Int) (fun y=>match y with | (k,x7,x8,x9,x10,x11)=>⟨ofL [(1,.s (.pt [.str a1Af,.int .i64 a1G,.str a1H,.int .i64 a1I,.sl 4 (Nd.encs a1J),.sl 5 ((List.map zAd) a1E),.int .i64 a1F])),(3,.op 0 0),(4,.s (.int .i64 x11))],ofH [(0,.box 24 [.s (.int .i64 x7),.s (.str x8),.s (.int .i64 x9),.s (.sl 4 (Nd.encs x10))])],1⟩) (fun y=>zCH n a1E y.1 y.2.1 y.2.2.1 y.2.2.2.1 y.2.2.2.2.1 y.2.2.2.2.2=some fl) (fun y=>y.1) (n,a1G,a1H,a1I,a1J,0) hl ?_ ?_)
    ·exact(Le.rnm [(0,0)] _ _ _ ⟨rfl,rfl,rfl,trivial⟩ ⟨rfl,⟨_,rfl,rfl⟩,trivial⟩)
    ·rintro⟨k,x7,x8,x9,x10,x11⟩ h;cases k with
     | zero=>cases h
     | succ k =>
      replace h:zCH n a1E (k+1) x7 x8 x9 x10 x11=some fl:=h;rw[zCH]at h;refine zAa ?_;refine zYe [] [49] rfl ?_;intro n12 hn12;obtain rfl:(a1E.length:Int)=n12:=(hn12.trans (congrArg (fun m:Nat=>(m:Int)) (rlen (fun _=>rfl) a1E))).symm;show Tri ..;refine zAh rfl h (fun hb h=>?_) (fun hb h=>?_)
      ·refine zAf ?_;show Tri ..;refine zAa ?_;refine zAl ?_;refine zYe [5] [56] rfl ?_;obtain⟨⟨e13Aa,⟨e13Ab,e13Ac⟩,⟨e13Ad,e13Ae⟩⟩,he13,h⟩:=zAc h;refine And.intro (zAB (fun _=>rfl) he13).1 ?_;intro r14 hr14;obtain rfl:[.sl 8 ((List.map zAi) e13Aa),.sl 1 ((List.map (irow .i64)) e13Ab),.sl 1 ((List.map (irow .i64)) e13Ac),.sl 1 ((List.map (irow .i64)) e13Ad),.sl 1 ((List.map (irow .i64)) e13Ae)]=r14:=(hr14.trans (zAB (fun _=>rfl) he13).2.1).symm;show Tri ..
       refine zAk (Le.giveBox 1 [.sl 8 ((List.map zAi) e13Aa),.sl 1 ((List.map (irow .i64)) e13Ab),.sl 1 ((List.map (irow .i64)) e13Ac),.sl 1 ((List.map (irow .i64)) e13Ad),.sl 1 ((List.map (irow .i64)) e13Ae)] rfl rfl) ?_;refine zYe [6] [] rfl ?_;obtain⟨⟨⟨y15A,y15B,y15D,y15C⟩,y16,y17⟩,hy15,h⟩:=zAc h;refine⟨_,⟨_,_,_,_,_,_,hy15,rfl,rfl⟩,?_⟩
       show Tri ..;refine zAk (Le.giveBox 2 [.int .i64 y15A,.str y15B,.int .i64 y15D,.sl 4 (Nd.encs y15C)] rfl rfl) ?_;refine zAa ?_;refine zAa ?_;obtain⟨x18,hj,h⟩:=zAc h
       refine zAv ⟨ofL [(1,.s (.pt [.str a1Af,.int .i64 a1G,.str a1H,.int .i64 a1I,.sl 4 (Nd.encs a1J),.sl 5 ((List.map zAd) a1E),.int .i64 a1F])),(3,.op 0 0),(4,.s (.int .i64 x11)),(6,.s (.pt [.int .i64 y15A,.str y15B,.int .i64 y15D,.sl 4 (Nd.encs y15C)])),(81,.s (.bool x18))],ofH [(0,.box 24 [.s (.int .i64 x7),.s (.str x8),.s (.int .i64 x9),.s (.sl 4 (Nd.encs x10))])],1⟩ ?_ (fun σ' hle=>?_)
       ·replace h:=hj;refine zAb [] [68,75] rfl ?_;intro b hb;cases b with
        | true =>
         replace h:=zAE hb.symm h;intro b hb;subst hb;cases h;exact(Le.rnm [(0,0)] _ _ _ ⟨rfl,rfl,rfl,rfl,rfl,trivial⟩ ⟨rfl,⟨_,rfl,rfl⟩,trivial⟩)
        | false =>
         replace h:=zAD hb.symm h;obtain⟨y19,hy19,h⟩:=zAc h;refine⟨_,⟨_,_,_,_,hy19,rfl,rfl⟩,?_⟩
         intro b hb;cases b with
         | true =>
          replace h:=zAE hb.symm h;cases h;exact(Le.rnm [(0,0)] _ _ _ ⟨rfl,rfl,rfl,rfl,rfl,trivial⟩ ⟨rfl,⟨_,rfl,rfl⟩,trivial⟩)
         | false =>
          replace h:=zAD hb.symm h;obtain⟨y20,hy20,h⟩:=zAc h;refine⟨_,⟨_,_,_,_,hy20,rfl,rfl⟩,?_⟩
          cases h;exact(Le.rnm [(0,0)] _ _ _ ⟨rfl,rfl,rfl,rfl,rfl,trivial⟩ ⟨rfl,⟨_,rfl,rfl⟩,trivial⟩)
       ·show Tri ..;refine zAk hle ?_;refine zAh rfl h (fun hb h=>?_) (fun hb h=>?_)
        ·refine zYe [] [] rfl ?_;show Tri ..;refine zAe ?_;cases h;replace h:some _=some _:=ho1;have hy:=Option.some.inj h;subst hy;unfold zAw;exact⟨_,Le.refl _ _,rfl,rfl⟩
        ·refine zAf ?_;show Tri ..;refine zAb [] [] rfl ?_;show Tri ..;refine zAb [] [] rfl ?_;refine⟨(k,y15A,y15B,y15D,y15C,IntKind.i64.wrap (x11+1)),h,(Le.rnm [(0,0)] _ _ _ ⟨rfl,rfl,rfl,trivial⟩ ⟨rfl,⟨_,rfl,rfl⟩,trivial⟩),Nat.lt_succ_self k⟩
      ·refine zAI ?_;cases h;exact⟨_,rfl,(Le.rnm [] _ [] 0 trivial trivial)⟩
   ·subst hz;obtain _:=z;replace h:=ho1;show Tri ..;refine zAk hle ?_;refine zYe [] [] rfl ?_;show Tri ..;refine zAe ?_;have hy:=Option.some.inj h;subst hy;unfold zAw;exact⟨_,Le.refl _ _,rfl,rfl⟩
def zBb:(Nd×Nd×List zRc×Int)->List S
| ⟨⟨p_origin_kind,p_origin_text,p_origin_cols,p_origin_kids⟩,⟨p_tree_kind,p_tree_text,p_tree_cols,p_tree_kids⟩,p_records,p_done⟩=>[.int .i64 p_origin_kind,.str p_origin_text,.int .i64 p_origin_cols,.sl 4 (Nd.encs p_origin_kids),.int .i64 p_tree_kind,.str p_tree_text,.int .i64 p_tree_cols,.sl 4 (Nd.encs p_tree_kids),.sl 5 ((List.map zAd) p_records),.int .i64 p_done]
def zPo (n:Nat) (xs:List AV) (os:List Ob) (x:AV) (os':List (Option Ob)):Prop:=∃ (a0:Nd) (y0:Option (Nd×Nd×List zRc×Int)) (y1:Int),zED n a0=some (y0,y1)/\xs=[.agg ((Nd.enc a0).map .s)]/\os=[]/\x = .tup [(match y0 with | none=>.s .np | some _=>.op 0 0),.s (.int .i64 y1)]/\os'=(match y0 with | none=>[] | some ⟨⟨o_origin_kind,o_origin_text,o_origin_cols,o_origin_kids⟩,⟨o_tree_kind,o_tree_text,o_tree_cols,o_tree_kids⟩,o_records,o_done⟩=>[some (.box 104 [.s (.int .i64 o_origin_kind),.s (.str o_origin_text),.s (.int .i64 o_origin_cols),.s (.sl 4 (Nd.encs o_origin_kids)),.s (.int .i64 o_tree_kind),.s (.str o_tree_text),.s (.int .i64 o_tree_cols),.s (.sl 4 (Nd.encs o_tree_kids)),.orow 1,.s (.int .i64 o_done)]),some (.row 60 5 ((List.map zAd) o_records))])
def zKd:zAz:=zC8 (fun xs os x os'=>∃ n,zPo n xs os x os')
theorem zN8:PSound Tryz.prog 46 zKd:=by
 have gok:∀ f s,look? f [(73,zCs),(53,zCX)]=some s->PSound Tryz.prog f s:=zAt (by
  simp only[List.forall_mem_cons]
  exact⟨zCA,zCW,by simp⟩)
 refine PSound.withNil (zFn tokW Tryz.call46 Tryz.func46 rfl (fun xs os x os' h=>by obtain⟨n,_,_,_,_,rfl,rfl,_,rfl⟩:=h; exact⟨by show 1<=13; decide,Nat.zero_le _⟩) 13 rfl ?_) _;rintro xs os x os' w0 G0 B0 ⟨n,⟨n1A,n1B,n1D,n1C⟩,y0,y1,h,rfl,rfl,rfl,rfl⟩ _;rw[zED]at h;refine zYe [] [] rfl ?_;show Tri ..;refine zAa ?_;refine zYe [] [] rfl ?_;obtain⟨y2,hy2,h⟩:=zAc h;refine⟨_,⟨_,_,_,hy2,rfl,rfl⟩,?_⟩
 show Tri ..;refine zAh rfl h (fun hb h=>?_) (fun hb h=>?_)
 ·refine zYe [] [] rfl ?_;show Tri ..;refine zAe ?_;obtain⟨hj1,hk1⟩:=pij h;subst hj1 hk1;unfold zBp;exact⟨_,(Le.rnm [] [(2,.s (.np)),(3,.s (.int .i64 1))] [] 0 ⟨rfl,rfl,trivial⟩ trivial),rfl,rfl,trivial⟩
 ·refine zAf ?_;show Tri ..;refine zAa ?_;refine zEK [12] [] [5] [] rfl (by decide +kernel) ?_;obtain⟨⟨y3A,y3B,y3D,y3C⟩,hy3,h⟩:=zAc h;refine⟨_,⟨_,_,hy3,rfl,rfl⟩,?_⟩
  obtain⟨⟨y4A,y4B,y4D,y4C⟩,hy4,h⟩:=zAc h;refine⟨_,⟨_,_,hy4,rfl,rfl⟩,?_⟩
  show Tri ..;refine zAk (Le.trans (Le.rnm [(0,0)] [(2,.op 0 0),(3,.s (.int .i64 0))] [(0,.box 104 [.s (.int .i64 y3A),.s (.str y3B),.s (.int .i64 y3D),.s (.sl 4 (Nd.encs y3C)),.s (.int .i64 y4A),.s (.str y4B),.s (.int .i64 y4D),.s (.sl 4 (Nd.encs y4C)),.nl 5,.s (.int .i64 0)])] 1 ⟨rfl,rfl,trivial⟩ ⟨rfl,⟨_,rfl,rfl⟩,trivial⟩) (Le.takeNil 0 8 60 rfl rfl (by decide))) ?_;refine zAe ?_;obtain⟨hj1,hk1⟩:=pij h;subst hj1 hk1;unfold zBp
  exact⟨_,(Le.rnm [(0,0),(1,1)] [(2,.op 0 0),(3,.s (.int .i64 0))] [(0,.box 104 [.s (.int .i64 y3A),.s (.str y3B),.s (.int .i64 y3D),.s (.sl 4 (Nd.encs y3C)),.s (.int .i64 y4A),.s (.str y4B),.s (.int .i64 y4D),.s (.sl 4 (Nd.encs y4C)),.orow 1,.s (.int .i64 0)]),(1,.row 60 5 ((List.map zAd) []))] 2 ⟨rfl,rfl,trivial⟩ ⟨rfl,⟨_,rfl,rfl⟩,rfl,⟨_,rfl,rfl⟩,trivial⟩),rfl,rfl,rfl,rfl,rfl,rfl,trivial⟩
def zTP (n:Nat) (xs:List AV) (r:Ret):Prop:=∃ (a0:List zO8) (y0:List zO8),zIN n a0=some y0/\xs=[.s (.sl 8 ((List.map zAi) a0))]/\r = .row 63 8 ((List.map zAi) y0)
def zOo:zAz:=zAy fun xs r=>∃ n,zTP n xs r
theorem zSN:PSound Tryz.prog 131 zOo:=by
 have gok:∀ f s,look? f [(166,zMl)]=some s->PSound Tryz.prog f s:=zAt (by
  simp only[List.forall_mem_cons]
  exact⟨zOQ,by simp⟩)
 refine zAA tokW Tryz.call131 Tryz.func131 rfl (fun xs r h=>by obtain⟨n,_,_,_,rfl,_⟩:=h; show 1<=19; decide) 19 rfl ?_;rintro xs r w0 G0 ⟨n,l1,y0,h,rfl,rfl⟩ _;rw[zIN]at h;refine zYe [2] [] rfl ?_;show Tri ..;refine zAk (Le.rnm [] [(0,.s (.sl 8 ((List.map zAi) l1)))] [] 0 ⟨rfl,trivial⟩ trivial) ?_;refine zYe [3] [] rfl ?_;show Tri ..
 refine zAk (Le.rnm [(0,0)] [(0,.s (.sl 8 ((List.map zAi) l1))),(3,.orow 0)] [(0,.row 63 8 ((List.map zAi) []))] 1 ⟨rfl,rfl,trivial⟩ ⟨rfl,⟨_,rfl,congrArg (Ob.row 63 8) (by simp[List.map_append,List.map_take,List.map_drop,irow,brow,zAG,List.map_cons,List.map_nil,zAC,Nd.encs_eq,Nd.enc,CV.encs_eq,CV.enc,zAq,zAm,zAx,zAr,zAp,zAi,zAu,zAs,zAd,zAo,zAn,zAN,zBb])⟩,trivial⟩) ?_;refine zAa ?_;refine zYe [] [7] rfl ?_;intro n2 hn2
 obtain rfl:(l1.length:Int)=n2:=(hn2.trans (congrArg (fun m:Nat=>(m:Int)) (rlen (fun _=>rfl) l1))).symm;show Tri ..;obtain⟨l6,hl,h⟩:=zAc h;refine zAv ⟨ofL [(3,.orow 0)],ofH [(0,.row 63 8 ((List.map zAi) l6))],1⟩ ?_ (fun σ' hle=>?_)
 ·refine zAl (zAF (X:=Nat×Int×(List zO8)) (fun y=>match y with | (k,x4,l5)=>⟨ofL [(3,.orow 0),(6,.s (.sl 8 ((List.map zAi) l1))),(7,.s (.int .i64 (l1.length:Int))),(8,.s (.int .i64 x4))],ofH [(0,.row 63 8 ((List.map zAi) l5))],1⟩) (fun y=>zC0 n l1 y.1 y.2.1 y.2.2=some l6) (fun y=>y.1) (n,0,[]) hl ?_ ?_)
  ·exact(Le.rnm [(0,0)] _ _ _ ⟨rfl,rfl,rfl,rfl,trivial⟩ ⟨rfl,⟨_,rfl,rfl⟩,trivial⟩)
  ·rintro⟨k,x4,l5⟩ h;cases k with
   | zero=>cases h
   | succ k =>
    replace h:zC0 n l1 (k+1) x4 l5=some l6:=h;rw[zC0]at h;refine zYe [] [] rfl ?_;show Tri ..;refine zAa ?_;refine zAh rfl h (fun hb h=>?_) (fun hb h=>?_)
    ·refine zAf ?_;show Tri ..;refine zAa ?_;refine zAl ?_;refine zYe [5] [10] rfl ?_;obtain⟨⟨e7A,e7U,e7T,e7Z,e7S,e7X,e7Y,e7B⟩,he7,h⟩:=zAc h;refine And.intro (zAB (fun _=>rfl) he7).1 ?_;intro r8 hr8;obtain rfl:[.int .i64 e7A,.sl 1 ((List.map (irow .i64)) e7U),.int .i64 e7T,.int .i64 e7Z,.sl 4 (Nd.encs e7S),.int .i64 e7X,.str e7Y,.str e7B]=r8:=(hr8.trans (zAB (fun _=>rfl) he7).2.1).symm;show Tri ..
     refine zAk (Le.giveBox 1 [.int .i64 e7A,.sl 1 ((List.map (irow .i64)) e7U),.int .i64 e7T,.int .i64 e7Z,.sl 4 (Nd.encs e7S),.int .i64 e7X,.str e7Y,.str e7B] rfl rfl) ?_;refine zAb [16] [15] rfl ?_;obtain⟨⟨y9A,y9U,y9T,y9Z,y9S,y9X,y9Y,y9B⟩,hy9,h⟩:=zAc h;refine⟨_,⟨_,_,_,hy9,rfl,rfl⟩,?_⟩
     intro r10 hr10;obtain rfl:(List.map zAi) [(y9A,y9U,y9T,y9Z,y9S,y9X,y9Y,y9B)]=r10:=(hr10.trans (by simp[List.map_append,List.map_take,List.map_drop,irow,brow,zAG,List.map_cons,List.map_nil,zAC,Nd.encs_eq,Nd.enc,CV.encs_eq,CV.enc,zAq,zAm,zAx,zAr,zAp,zAi,zAu,zAs,zAd,zAo,zAn,zAN,zBb])).symm;obtain⟨hq,h⟩:=zAK h
     refine And.intro (show(((List.map zAi) l5).length+((List.map zAi) [(y9A,y9U,y9T,y9Z,y9S,y9X,y9Y,y9B)]).length) * 112<=140737488355328/\((List.map zAi) l5).length+((List.map zAi) [(y9A,y9U,y9T,y9Z,y9S,y9X,y9Y,y9B)]).length<=9223372036854775807 from by simp only[List.length_append,List.length_cons,List.length_nil,List.length_map,rlen (fun _=>rfl)]at hq ⊢; omega) ?_;show Tri ..
     refine zAk (Le.rnm [(2,0)] [(3,.orow 0),(6,.s (.sl 8 ((List.map zAi) l1))),(7,.s (.int .i64 (l1.length:Int))),(8,.s (.int .i64 x4))] [(0,.row 63 8 ((List.map zAi) (l5++[(y9A,y9U,y9T,y9Z,y9S,y9X,y9Y,y9B)])))] 1 ⟨rfl,rfl,rfl,rfl,trivial⟩ ⟨rfl,⟨_,rfl,congrArg (Ob.row 63 8) (by simp[List.map_append,List.map_take,List.map_drop,irow,brow,zAG,List.map_cons,List.map_nil,zAC,Nd.encs_eq,Nd.enc,CV.encs_eq,CV.enc,zAq,zAm,zAx,zAr,zAp,zAi,zAu,zAs,zAd,zAo,zAn,zAN,zBb])⟩,trivial⟩) ?_
     refine zAb [] [] rfl ?_;refine⟨(k,IntKind.i64.wrap (x4+1),l5++[(y9A,y9U,y9T,y9Z,y9S,y9X,y9Y,y9B)]),h,(Le.rnm [(0,0)] _ _ _ ⟨rfl,rfl,rfl,rfl,trivial⟩ ⟨rfl,⟨_,rfl,rfl⟩,trivial⟩),Nat.lt_succ_self k⟩
    ·refine zAI ?_;cases h;exact(Le.rnm [(0,0)] _ _ _ ⟨rfl,trivial⟩ ⟨rfl,⟨_,rfl,rfl⟩,trivial⟩)
 ·show Tri ..;refine zAk hle ?_;refine zYe [] [] rfl ?_;show Tri ..;refine zAe ?_;have hy:=Option.some.inj h;subst hy;unfold zAw;exact⟨_,Le.refl _ _,0,rfl,rfl⟩
def zPi (xs:List AV) (r:Ret):Prop:=∃ (a0:zCu) (y0:zCu),zBK a0=some y0/\xs=[.agg ((zAs a0).map .s)]/\r = .val (.agg ((zAs y0).map .s))
def zFA:zAz:=zAy fun xs r=>zPi xs r
theorem zGT:PSound Tryz.prog 98 zFA:=by
 have gok:∀ f s,look? f [(134,zJB)]=some s->PSound Tryz.prog f s:=zAt (by
  simp only[List.forall_mem_cons]
  exact⟨zLC,by simp⟩)
 refine zAA tokW Tryz.call98 Tryz.func98 rfl (fun xs r h=>by obtain⟨_,_,_,rfl,_⟩:=h; show 1<=10; decide) 10 rfl ?_;rintro xs r w0 G0 ⟨⟨c1Ao,c1Ak⟩,y0,h,rfl,rfl⟩ _;rw[zBK]at h;refine zYe [2] [] rfl ?_;show Tri ..;refine zAa ?_;refine zAQ [] [] [7] rfl (by decide +kernel) ?_;obtain⟨y2,hy2,h⟩:=zAc h;refine⟨_,⟨_,_,hy2,rfl,rfl⟩,?_⟩
 obtain⟨y3,hy3,h⟩:=zAc h;refine⟨_,⟨_,_,hy3,rfl,rfl⟩,?_⟩
 show Tri ..;refine zAe ?_;have hy:=Option.some.inj h;subst hy;unfold zAw;exact⟨_,Le.refl _ _,rfl,rfl⟩
def zPj (n:Nat) (xs:List AV) (r:Ret):Prop:=∃ (a0:zRc) (y0:zRc),zC1 n a0=some y0/\xs=[.agg ((zAd a0).map .s)]/\r = .val (.agg ((zAd y0).map .s))
def zHn:zAz:=zAy fun xs r=>∃ n,zPj n xs r
theorem zJq:PSound Tryz.prog 95 zHn:=by
 have gok:∀ f s,look? f [(131,zOo),(98,zFA)]=some s->PSound Tryz.prog f s:=zAt (by
  simp only[List.forall_mem_cons]
  exact⟨zSN,zGT,by simp⟩)
 refine zAA tokW Tryz.call95 Tryz.func95 rfl (fun xs r h=>by obtain⟨n,_,_,_,rfl,_⟩:=h; show 1<=13; decide) 13 rfl ?_;rintro xs r w0 G0 ⟨n,⟨r1Aa,⟨r1Ab,r1Ac⟩,⟨r1Ad,r1Ae⟩⟩,y0,h,rfl,rfl⟩ _;rw[zC1]at h;refine zYe [2] [] rfl ?_;show Tri ..;refine zAa ?_;refine zAQ [] [] [10] rfl (by decide +kernel) ?_;obtain⟨y2,hy2,h⟩:=zAc h;refine⟨_,⟨_,_,_,hy2,rfl,rfl⟩,?_⟩
 obtain⟨⟨y3Ao,y3Ak⟩,hy3,h⟩:=zAc h;refine⟨_,⟨_,_,hy3,rfl,rfl⟩,?_⟩
 obtain⟨⟨y4Ao,y4Ak⟩,hy4,h⟩:=zAc h;refine⟨_,⟨_,_,hy4,rfl,rfl⟩,?_⟩
 show Tri ..;refine zAe ?_;have hy:=Option.some.inj h;subst hy;unfold zAw;exact⟨_,Le.refl _ _,rfl,rfl⟩
end Go.Proofs.YtgplhldfbkmmgaaGreat
