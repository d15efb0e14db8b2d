/-
  Joined out of: RfB, LibV, LibK, RwA, HzHA, HzHB.
-/
import Derived.Test.YtffhjiplcfncdaaGreatZd
set_option linter.unusedVariables false
set_option linter.unusedSimpArgs false
set_option maxHeartbeats 2000000
set_option maxRecDepth 100000
namespace Go.Abs
def TriX (c:Cx) (code:Code) (σ:St) (Φ:Exit->Act->World->Prop):Prop:=∀ G β a w,Conc c G β σ a w->code.wpIn (rF none) 2 c.P Φ a w
section
variable {c:Cx} {σ:St} {Φ:Exit->Act->World->Prop}
theorem zWm {x y:Code} (h:TriX c x σ (Exit.then (y.wpIn (rF none) 2 c.P Φ) Φ)):TriX c (.seq x y) σ Φ:=fun G β a w hc=>wpIn_seq (h G β a w hc)
theorem zTN {x:Code}{id:Nat} (h:TriX c x σ (Exit.inBlock id Φ)):TriX c (.block id x) σ Φ:=fun G β a w hc=>wpIn_block (h G β a w hc)
theorem zPi {x y:Code} (hro:c.ro=none) (h:Tri c x σ (fun e σ'=>e = .normal/\TriX c y σ' Φ)):TriX c (.seq x y) σ Φ:=fun G β a w hc=>by
 unfold Tri at h;rw[hro]at h;refine wpIn_seq (wpIn_mono (h G β a w hc) ?_)
 rintro e a' w' ⟨e',G',β',σ',rfl,⟨rfl,hq⟩,hc'⟩
 exact hq G' β' a' w' hc'
theorem zTO (hro:c.ro=none) (hds:c.ds=[]){tg p1 p2 fid sz:Nat}{rows:List (List S)}{assign body:Code}
  (hit:zN7 c.P fid sz) (hcall:∀ args w,(callFunc fid args).run c.P w = .ok (.enter fid args) w) (he:σ.env tg = .clo fid [.s (.pt [.sl sz rows])]) (hrl:∀ r∈rows,r.length=sz) (hlen:rows.length<=4611686018427387904)
  (E:Nat->(Nat->Option Ob)×Nat) (hE:E 0=(σ.hp,σ.nx)) (m:Nat) (hm:∀ t,(σ.env t).lt m=true) (hm0:c.n0<=m) (hmE:∀ i,m<=(E i).2) (hp1:p1<c.N) (hp2:p2<c.N)
  (hround:∀ i j row,i+j+1=rows.length->rows[j]? = some row->∀ l w X G B,Rl w X l->Tri (rcx c.P c.N m l w X G B) assign (zR9 σ p1 p2 j row (E i)) (fun e σ1=>e = .normal/\∀ w X G B,Rl w X l ->
   Tri (rcx c.P c.N m l w X G B) body σ1 (fun e σ2=>e = .normal/\∃ σ3,Le (rcx c.P c.N m l w X G B) σ2 σ3/\σ3.hp=(E (i+1)).1/\σ3.nx=(E (i+1)).2)))
  (hdone:∀ D w2 X G2 G' β' a2,Sw c (lcx c.P c.N c.n0 w2 X G2 c.B0 D) D->Conc (lcx c.P c.N c.n0 w2 X G2 c.B0 D) G' β' ⟨σ.env,(E rows.length).1,(E rows.length).2⟩ a2 w2->Φ .normal a2 w2) (hfid:Nat.ble 1048576 fid=false:=by rfl) :
  TriX c (.rangeFunc (.tmp tg) #[p1,p2] assign body) σ Φ:=fun G β a w hc=>zWq hc hro hds hit hcall he hrl hlen E hE m hm hm0 hmE hp1 hp2 hround hfid hdone
end
theorem zUu {c c2:Cx}{D:Nat}{T:Nat->Option TI} (hT:TOk c2.P T){fn:Func}{r:Ret}{code:Code}{σ:St} (hsw:Sw c c2 D) (hX:∀ b,¬ c.X b) (hro:c2.ro=none) (hds:c2.ds=[{ target:=.collected D,args:=#[] }])
  (h:Tri c2 code σ (fun e σ'=>match e with | .exit _=>False | _=>zAA c2 T fn.results.toList r σ')) :
  TriX c2 code σ (bodyPostM (rF none) 2 c2.P fn fun e W'=>∃ v G',e = .returned v/\Ext c.G0 G' c.w0 W'/\RetAt G' c.w0 W' r v):=fun G β a w hc=>by
 unfold Tri at h;rw[hro]at h;refine wpIn_mono (h G β a w hc) ?_;rintro e a' w' ⟨e',G',β',σ',rfl,hq,hc'⟩
 have fin:zAA c2 T fn.results.toList r σ'->LeavesInM (rF none) 2 c2.P fn a'.tmps (fun e W'=>∃ v G',e = .returned v/\Ext c.G0 G' c.w0 W'/\RetAt G' c.w0 W' r v) a'.defers .returning w':=fun hq=>by
  unfold zAA at hq;obtain⟨σ2,hle,hr⟩:=hq;unfold Le at hle;obtain⟨G2,β2,hc2⟩:=hle G' β' a' w' hc';have hDl:D<c2.w0.heap.size:=(Array.getElem?_eq_some_iff.1 hsw.blk).1;have hD:w'.heap[D]? = some (.deferred (some [])):=(hc2.fr.old D hDl hsw.nX).trans hsw.blk;have hnG:¬ G2 D:=fun h=>(hc2.new D h).elim hsw.nG (fun h=>h.elim hsw.nX (fun h=>by omega))
  have hnO:¬ ownB β2 σ2.hp D:=hc2.not_own hD rfl;rw[hc'.defers,hds]
  refine⟨by simp,.inl ⟨_,_,rfl,run_takeDeferred hD,?_⟩⟩
  generalize hW:w'.putObj D (.deferred none)=W;have oth:∀ b,b ≠ D->W.heap[b]? = w'.heap[b]?:=fun b hb=>by rw[← hW]; exact World.putObj_heap_other hb
  have sz:W.heap.size=w'.heap.size :=(by rw[← hW]; exact World.putObj_size);have hge:=hsw.ge;have hmine:∀ b,c2.mine b->c.w0.heap.size<=b:=fun b hb=>by
   rcases hb with hb | hb
   ·exact(hsw.mine b hb).elim (fun h=>absurd h (hX b)) id
   ·exact Nat.le_trans hsw.fr.size hb
  have hc3:Conc { P:=c2.P,w0:=W,X:=fun b=>c.w0.heap.size<=b,G0:=G2,N:=c2.N } G2 β2 ⟨σ2.env,σ2.hp,σ2.nx⟩ { a' with defers:=[] } W :=
   hc2.re (c2:={ P:=c2.P,w0:=W,X:=fun b=>c.w0.heap.size<=b,G0:=G2,N:=c2.N }) (fun b hb=>oth b fun h=>hnG (h ▸ hb)) (fun b hb=>oth b fun h=>hnO (h ▸ hb)) (by rw[sz]; exact Nat.le_refl _) rfl hc2.size hc2.env hc2.envlt
    (fun b ⟨k,ob,q1,q2⟩=>.inl (hmine b (row_block (hc2.hp k ob q1) b q2).2)) (fun b h=>h) (fun b h=>.inl h) (Fr.refl _ _) ⟨Nat.zero_le _,fun k hk=>by cases hk⟩
  have hext:Ext c.G0 G2 c.w0 W:=by
   refine⟨?_,?_,?_,?_,fun b hb=>?_,fun b hb=>hc2.sub b (hsw.sub b hb),fun b hb=>?_,fun b hb=>by rw[sz]; exact hc2.lt b hb⟩
   ·rw[← hW]; show w'.os=_; rw[hc2.fr.os]; exact hsw.fr.os
   ·rw[← hW]; show w'.tape=_; rw[hc2.fr.tape]; exact hsw.fr.tape
   ·rw[← hW]; show w'.output=_; rw[hc2.fr.output]; exact hsw.fr.output
   ·have h1:=hc2.fr.size; have h2:=hsw.fr.size; omega
   ·have h2:=hsw.fr.size;exact(oth b (by omega)).trans ((hc2.fr.old b (by omega) (fun h=>(hsw.mine b h).elim (hX b) (fun h=>by omega))).trans (hsw.fr.old b hb (hX b)))
   ·rcases hc2.new b hb with h | h
    ·exact(hsw.new b h).imp id (fun h=>h.elim (fun h=>absurd h (hX b)) id)
    ·exact .inr (hmine b h)
  unfold RetAt;split at hr
  ·rename_i x
   obtain⟨v,h1,h2⟩:=zGX (c:={ P:=c2.P,w0:=W,X:=fun b=>c.w0.heap.size<=b,G0:=G2,N:=c2.N }) hT hc3 hr.1;exact⟨v,h1,v,G2,rfl,hext,hr.2,AVal.pers hr.2 h2⟩
  ·rename_i e sz' rows
   obtain⟨k,hk1,hk2⟩:=hr;obtain⟨v,h1,h2⟩:=zGX (c:={ P:=c2.P,w0:=W,X:=fun b=>c.w0.heap.size<=b,G0:=G2,N:=c2.N }) hT hc3 hk1;refine⟨v,h1,v,G2,rfl,hext,?_⟩
   simp only[AVal]at h2;obtain⟨rfl,_⟩:=h2;obtain⟨q1,q2,q3⟩:=hc3.hp k _ hk2;refine⟨q1,q2,q3.imp id ?_⟩
   rintro⟨b,cap,cur,g1,g2,g3,g4,g5,g6,g7⟩
   refine⟨b,cap,cur,g1,g2,g3,g4,g5,g6.elim id (fun h=>?_),g7⟩
   have h:W.heap.size<=b:=h;have:=(Array.getElem?_eq_some_iff.1 g4).1
   omega
 cases e' with
 | normal=>exact fin hq
 | ret=>exact fin hq
 | exit id=>exact hq.elim
theorem zW1 {P:Program}{f:Nat}{fn:Func}{code:Code}{s:zAE} (hcall:∀ args w,(callFunc f args).run P w = .ok (.enter f args) w)
  (hf:P.funcs[f]? = some fn) (hb:fn.body=some code) (hn:∀ xs r,s.spec xs r->xs.length<=fn.ntmps)
  (N:Nat) (hN:fn.ntmps=N)
  (h:∀ xs r w0 G0,s.spec xs r->AV.persAll xs=true->TriX (zFh P w0 G0 N) code (start xs) (bodyPostM (rF none) 2 P fn fun e W'=>∃ v G',e = .returned v/\Ext G0 G' w0 W'/\RetAt G' w0 W' r v)) (hown:s.own=none:=by rfl) (hheap:s.heap=none:=by rfl):PSound P f s:=by
 subst hN;refine⟨hcall,fun G w xs vs r hlt hgl hp hv hpre=>?_,fun R hR=>(by rw[hown]at hR; cases hR),fun R hR=>(by rw[hheap]at hR; cases hR)⟩
 have hlen:=hv.length;have hxn:=hn xs r hpre;have hc:Conc (zFh P w G fn.ntmps) G (fun _=>.tuple #[]) (start xs) { tmps:=vs.toArray++Array.replicate (fn.ntmps - vs.toArray.size) undef,defers:=[] } w:={
  defers:=rfl
  size:=by simp only[Array.size_append,List.size_toArray,Array.size_replicate]; show _=fn.ntmps; omega
  env:=fun t=>by
   simp only[start]
   by_cases ht:t<xs.length
   ·obtain⟨v,h1,h2⟩:=hv.get (i:=t) (x:=xs[t]) (List.getElem?_eq_getElem ht)
    have e1:xs.getD t .junk=xs[t] :=(by simp[List.getElem?_eq_getElem ht]);have e2:(vs.toArray++Array.replicate (fn.ntmps - vs.toArray.size) undef).getD t undef=v:=by
     rw[Array.getD_eq_getD_getElem?,Array.getElem?_append_left (by simpa [hlen] using ht)]
     simp[h1]
    rw[e1,e2]; exact h2
   ·have:xs.getD t .junk = .junk :=(by simp[List.getElem?_eq_none (by omega:xs.length<=t)]);rw[this]; simp only[AVal]
  envlt:=fun t=>by
   simp only[start]
   by_cases ht:t<xs.length
   ·have e1:xs.getD t .junk=xs[t] :=(by simp[List.getElem?_eq_getElem ht]);rw[e1]; exact zBw (AV.persAll_lt hp) (List.getElem?_eq_getElem ht)
   ·have:xs.getD t .junk = .junk :=(by simp[List.getElem?_eq_none (by omega:xs.length<=t)]);rw[this]; rfl
  hp:=fun k ob hk=>by simp[start]at hk
  hplt:=fun k ob hk=>by simp[start]at hk
  inj:=fun k k' ob ob' hk=>by simp[start]at hk
  lt:=hlt
  sub:=fun b hb=>hb
  new:=fun b hb=>.inl hb
  fr:=Fr.refl _ _
  stay:=⟨Nat.le_refl _,fun k hk=>by cases hk⟩
  glob:=hgl }
 exact callsIn_wide.1 (callsIn_of_wp_marks hf hb trivial (h xs r w G hpre hp G _ _ w hc))
theorem zMl {a:Act}{d:Option Nat}{v:Value}{t:Nat} (h:d ≠ some t):(a.put d v).tmps.getD t undef=a.tmps.getD t undef:=by
 cases d with
 | none=>rfl
 | some d =>
  have hdt:d ≠ t:=fun e=>h (by rw[e])
  simp only[Act.put,Array.getD_eq_getD_getElem?]
  rw[Array.getElem?_setIfInBounds_ne hdt]
theorem zXG {P:Program}{W:World}{G:Nat->Prop}{β:Nat->Value}{N:Nat}{a:Act}{env:Nat->AV} (hd:a.defers=[]) (hs:a.tmps.size=N) (hl:∀ b,G b->b<W.heap.size) (hg:GlobOk G W) (he:∀ t,AVal G W β (env t) (a.tmps.getD t undef)) (hlt:∀ t,(env t).lt 0=true) :
  Conc (zFh P W G N) G β ⟨env,fun _=>none,0⟩ a W:={
 defers:=hd
 size:=hs
 env:=he
 envlt:=hlt
 hp:=fun k ob hk=>by cases hk
 hplt:=fun k ob hk=>by cases hk
 inj:=fun k k' ob ob' hk=>by cases hk
 lt:=hl
 sub:=fun b hb=>hb
 new:=fun b hb=>.inl hb
 fr:=Fr.refl _ _
 stay:=⟨Nat.le_refl _,fun k hk=>by cases hk⟩
 glob:=hg }
def evP (T:Nat->Option TI) (N:Nat) (ts:List Nat):List Oper->St->(St->Prop)->Prop
 | [],σ,K=>K σ
 | o::os,σ,K =>
  match o.dst,o.guard,zOE o&&zOF o with
  | some d,none,true=>match Nat.blt d N&&zQx d ts with
   | true=>match zCE T false o σ.env with
    | some (φ,x)=>andO φ (evP T N ts os (σ.put (some d) x) K)
    | none=>False
   | false=>False
  | _,_,_=>False
theorem zLX {P:Program}{W0:World}{G0:Nat->Prop}{T:Nat->Option TI} (hT:TOk P T){N n:Nat}{ops rest:List Oper}{K:St->Prop}{Q:Exit->Act->World->Prop}{ts:List Nat}{v0:Nat->Value}
  (hr:∀ σ G β a w,K σ->Conc (zFh P W0 G0 N) G β σ a w->w.heap.size=W0.heap.size->(∀ t∈ts,a.tmps.getD t undef=v0 t)->wpListIn Fence.wide n P ops.toArray Q rest a w) :
  ∀ (l:List Oper) (σ:St) (G:Nat->Prop) (β:Nat->Value) (a:Act) (w:World),evP T N ts l σ K->Conc (zFh P W0 G0 N) G β σ a w->w.heap.size=W0.heap.size->(∀ t∈ts,a.tmps.getD t undef=v0 t)->wpListIn Fence.wide n P ops.toArray Q (l++rest) a w
 | [],σ,G,β,a,w,h,hc,hs,ht=>hr σ G β a w h hc hs ht
 | o::os,σ,G,β,a,w,h,hc,hs,ht=>by
  unfold evP at h;split at h
  ·rename_i d hd hg hnn
   simp only[Bool.and_eq_true]at hnn;split at h
   ·rename_i hdN
    simp only[Bool.and_eq_true]at hdN;have hdN1:d<N:=Nat.le_of_ble_eq_true hdN.1;have hdts:=zF3 hdN.2;split at h
    ·rename_i φ x hp
     obtain⟨hφ,h⟩:=zLg h;rw[List.cons_append]
     unfold wpListIn;rw[if_pos (by simp[Region.wanted,hg])]
     refine zVQ (ro:=none) (K:=fun a' w'=>wpListIn Fence.wide n P ops.toArray Q (os++rest) a' w') (fun c e=>?_) (fun _ _ h=>h) ?_
     ·have:=hnn.2;unfold zOF at this;rw[e]at this;cases this
     ·refine zUN (c:=zFh P W0 G0 N) hT hc hp hφ fun G' w' v he hna hv=>?_
      have hww:=hna hnn.1;subst hww;rw[hd]
      have hput:=(hc.ext he).put (d:=some d) (fun t e=>by cases e; exact hdN1) hv (zSR hc.envlt hp)
      refine zLX hT hr os _ G' β _ _ h hput hs fun t htt=>?_
      rw[zMl (fun e=>hdts (by cases e; exact htt))]
      exact ht t htt
    ·exact h.elim
   ·exact h.elim
  ·exact h.elim
theorem zSu {P:Program}{W0:World}{G0:Nat->Prop}{T:Nat->Option TI} (hT:TOk P T){N n:Nat}{ops l:List Oper} (m:Nat){K:St->Prop}{Q:Exit->Act->World->Prop} (ts:List Nat){σ:St}{G:Nat->Prop}{β:Nat->Value}{a:Act}{w:World}
  (h:evP T N ts (l.take m) σ K) (hc:Conc (zFh P W0 G0 N) G β σ a w) (hs:w.heap.size=W0.heap.size)
  (hr:∀ σ G β a' w,K σ->Conc (zFh P W0 G0 N) G β σ a' w->w.heap.size=W0.heap.size->(∀ t∈ts,a'.tmps.getD t undef=a.tmps.getD t undef)->wpListIn Fence.wide n P ops.toArray Q (l.drop m) a' w):wpListIn Fence.wide n P ops.toArray Q l a w:=by
 have:=zLX (v0:=fun t=>a.tmps.getD t undef) hT hr (l.take m) σ G β a w h hc hs (fun _ _=>rfl)
 rwa [List.take_append_drop]at this
theorem zOw {P:Program}{W0:World}{G0:Nat->Prop}{T:Nat->Option TI} (hT:TOk P T){N n:Nat}{ops l:List Oper}{K:St->Prop}{Q:Exit->Act->World->Prop} (ts:List Nat){σ:St}{G:Nat->Prop}{β:Nat->Value}{a:Act}{w:World}
  (h:evP T N ts l σ K) (hc:Conc (zFh P W0 G0 N) G β σ a w) (hs:w.heap.size=W0.heap.size)
  (hr:∀ σ G β a' w,K σ->Conc (zFh P W0 G0 N) G β σ a' w->w.heap.size=W0.heap.size->(∀ t∈ts,a'.tmps.getD t undef=a.tmps.getD t undef)->Q .normal a' w):wpListIn Fence.wide n P ops.toArray Q l a w:=by
 have:=zLX (rest:=[]) (v0:=fun t=>a.tmps.getD t undef) (ops:=ops) (n:=n) (Q:=Q) hT hr l σ G β a w h hc hs (fun _ _=>rfl)
 rwa [List.append_nil]at this
theorem zUG {G:Nat->Prop}{w:World}{β:Nat->Value}{a:Act}:∀ {L:List (Nat×AV)},(∀ p∈L,AVal G w β p.2 (a.tmps.getD p.1 undef))->∀ t,AVal G w β (ofL L t) (a.tmps.getD t undef)
 | [],_,t=>by simp only[ofL,AVal]
 | (s,x)::r,h,t=>by
  simp only[ofL]
  cases e:Nat.beq t s with
  | true=>obtain rfl:=Nat.eq_of_beq_eq_true e; exact h _ List.mem_cons_self
  | false=>exact zUG (fun p hp=>h p (List.mem_cons_of_mem _ hp)) t
theorem zTk {P:Program}{W:World}{G:Nat->Prop}{N:Nat}{a:Act} (L:List (Nat×AV)) (hd:a.defers=[]) (hs:a.tmps.size=N) (hl:∀ b,G b->b<W.heap.size) (hg:GlobOk G W) (hL:ltL 0 L=true) (he:∀ p∈L,AVal G W (fun _=>.tuple #[]) p.2 (a.tmps.getD p.1 undef)) :
  Conc (zFh P W G N) G (fun _=>.tuple #[]) ⟨ofL L,fun _=>none,0⟩ a W:=zXG hd hs hl hg (zUG he) (zLj hL)
theorem zKZ {n:Nat}{P:Program}{ops:Array Oper}{Q:Exit->Act->World->Prop}{o:Oper}{rest:List Oper}{a:Act}{w:World} (hg:o.guard=none) (h:o.wpIn Fence.wide n P a w (wpListIn Fence.wide n P ops Q rest) Q):wpListIn Fence.wide n P ops Q (o::rest) a w:=by
 unfold wpListIn;rw[if_pos (by simp[Region.wanted,hg])]
 exact h
theorem zWr {P:Program}{o:Oper}{f x y:Operand}{ts:Array TypeId}{l:Nat}{a:Act}{w:World}{K:Act->World->Prop}{Q:Exit->Act->World->Prop}{R:Ending->World->Prop}{u:Value} (ho:o.op = .call { callee:=.value f,args:=#[x,y],argTypes:=ts })
  (hf:a.eval f = .func (.yield l) #[] #[]) (hY:YieldAt Fence.wide 0 P l #[a.eval x,a.eval y] w R) (hR:∀ e w',R e w'->e = .returned u/\K (a.put o.dst u) w'):o.wpIn Fence.wide 1 P a w K Q:=by
 obtain⟨fn,tmps,assign,body,hy,hr⟩:=hY;refine⟨fun _ _=>trivial,?_⟩
 rw[Oper.semAt_eq _ _ _ (by rw[ho]; intro c e; cases e)]
 have:(execOp a.eval o).run P w = .ok (.round l fn tmps assign body) w:=by
  simp[execOp,ho,resolve,hf,Deferred.ofValue,invoke,hy]
 rw[this]
 refine⟨fun h=>(by cases h),hr.mono fun e w' he=>?_⟩
 obtain⟨rfl,h⟩:=hR e w' he;exact h
theorem Conc.back {P:Program}{W:World}{G G':Nat->Prop}{N:Nat}{β:Nat->Value}{σ:St}{a:Act}{w:World} (hc:Conc (zFh P W G N) G' β σ a w) (hs:w.heap.size=W.heap.size):(∀ b,G' b->G b)/\∀ b,b<W.heap.size->w.heap[b]? = W.heap[b]? :=
 ⟨fun b hb=>(hc.new b hb).elim id (fun h=>h.elim False.elim (fun h=>by have:=hc.lt b hb; have h:W.heap.size<=b:=h; omega)),fun b hb=>hc.fr.old b hb (fun h=>h)⟩
end Go.Abs
namespace Go.Proofs.YtffhjiplcfncdaaGreat
open Go.Abs
def zJe (xs:List AV) (r:Ret):Prop:=∃ rows,xs=[.s (.sl 8 rows)]/\r = .val (.clo 92 [.s (.pt [.sl 8 rows])])
set_option maxHeartbeats 600000 in
theorem zMU:PSound Tryz.prog 60 (zAF zJe):=by
 have gok:∀ f s,look? f []=some s->PSound Tryz.prog f s:=zAC (by simp)
 refine zAG tokW Tryz.call60 Tryz.func60 rfl (fun xs r h=>by obtain⟨_,rfl,_⟩:=h; show 1<=4; decide) 4 rfl ?_;rintro xs r w0 G0 ⟨rows,rfl,rfl⟩ _;refine zXL [] [] rfl ?_;show Tri ..;refine zXL [] [] rfl ?_;show Tri ..;refine zAk ?_;unfold zAA;exact⟨_,Le.refl _ _,rfl,rfl⟩
theorem zOx (a:Act) (t:Nat):a.eval (.tmp t)=a.tmps.getD t undef:=rfl
theorem zXI {α:Type}:∀ {l:List α},l.length=8->∃ a b c d e f g h,l=[a,b,c,d,e,f,g,h]
 | [a,b,c,d,e,f,g,h],_=>⟨a,b,c,d,e,f,g,h,rfl⟩
theorem zWK:zN7 Tryz.prog 92 8:=by
 intro G w0 v rows hlt hgl hv hrl hlen l J W hsz hk hJ hY h0;have hrep:∀ w:World,(∀ b,G b->w.heap[b]? = w0.heap[b]?)->Rep G w (.pt [.sl 8 rows]) v:=fun w hw=>hv.keep ⟨fun _ h=>h,hw⟩
 have hlt':∀ w:World,w0.heap.size<=w.heap.size->∀ b,G b->b<w.heap.size:=fun w hw b hb=>Nat.lt_of_lt_of_le (hlt b hb) hw
 have hgl':∀ w:World,(∀ b,G b->w.heap[b]? = w0.heap[b]?)->GlobOk G w:=fun w hw=>hgl.keep ⟨fun _ h=>h,hw⟩
 have step:∀ {N:Nat} {G':Nat->Prop} {β:Nat->Value} {σ:St} {a:Act} {wa wb:World} (i:Nat),Conc (zFh Tryz.prog wa G N) G' β σ a wb->wb.heap.size=wa.heap.size->J i wa->w0.heap.size<=wa.heap.size->(∀ b,G b->wa.heap[b]? = w0.heap[b]?) ->
   J i wb/\w0.heap.size<=wb.heap.size/\(∀ b,G b->wb.heap[b]? = w0.heap[b]?):=fun {N G' β σ a wa wb} i hc hs hj h1 h2=>by
  obtain⟨g1,g2⟩:=hc.back hs;exact⟨hJ i wa wb hj ⟨hc.fr.os,hc.fr.tape,hc.fr.output,hc.fr.size,g2⟩,by rw[hs]; exact h1,fun b hb=>(g2 b (hlt' wa h1 b hb)).trans (h2 b hb)⟩
 let St:Nat->Act->World->Prop:=fun i a w=>a.defers=[]/\a.tmps.size=19/\a.tmps.getD 0 undef = .func (.yield l) #[] #[]/\a.tmps.getD 1 undef=v/\a.tmps.getD 3 undef = .int .i64 ((rows.length:Int) - 1 - i)/\J i w/\w0.heap.size<=w.heap.size/\(∀ b,G b->w.heap[b]? = w0.heap[b]?)
 refine callsIn_of_wp Tryz.func92 rfl trivial ?_;generalize ha:({ tmps:=#[Value.func (.yield l) #[] #[],v]++Array.replicate _ undef,defers:=[] }:Act)=a;have a0:a.tmps.getD 0 undef = .func (.yield l) #[] #[] :=(by rw[← ha]; rfl);have a1:a.tmps.getD 1 undef=v :=(by rw[← ha]; rfl);have az:a.tmps.size=19 :=(by rw[← ha]; rfl);have ad:a.defers=[]:=by rw[← ha]
 clear ha
 refine wpIn_seq ?_;refine wpIn_region_lit ?_;refine zOw tokW (N:=19) (K:=fun σ=>σ.env 3 = .s (.int .i64 (IntKind.i64.wrap ((rows.length:Int) - 1)))) [0,1] ?_ (zTk (G:=G) [(1,.s (.pt [.sl 8 rows]))] ad az (hlt' W hsz) (hgl' W hk) rfl (fun p hp=>by
  obtain rfl:=List.mem_singleton.1 hp;dsimp only;rw[a1]
  simp only[AVal]
  exact hrep W hk)) rfl ?_
 ·show _=_
  rfl
 intro σ1 G1 β1 b w1 hK hc hs hfr;have b0:=(hfr 0 (by simp)).trans a0;have b1:=(hfr 1 (by simp)).trans a1;have b3:=hc.env 3;rw[hK]at b3;simp only[AVal,Rep]at b3;rw[wrap64_in (n:=(rows.length:Int) - 1) (by omega) (by omega)]at b3;have hst:=step 0 hc hs h0 hsz hk;have hS:St 0 b w1:=⟨hc.defers,hc.size,b0,b1,by rw[b3]; congr 1; omega,hst⟩
 clear hst b0 b1 b3 hK hfr hc hs a0 a1 az ad
 refine wpIn_block ?_;refine wpIn_loop (fun a w=>∃ i,i<=rows.length/\St i a w) (fun a _=>match a.tmps.getD 3 undef with | .int _ z=>(z+1).toNat | _=>0) ⟨0,Nat.zero_le _,hS⟩ ?_;rintro a w ⟨i,hi,ad,az,a0,a1,a3,hj,hw1,hw2⟩
 refine wpIn_seq ?_;refine wpIn_seq ?_;refine wpIn_region_lit ?_;refine zOw tokW (N:=19) (K:=fun σ=>σ.env 8 = .s (.bool (decide (0<=(rows.length:Int) - 1 - i)))) [0,1,3] ?_ (zTk (G:=G) [(3,.s (.int .i64 ((rows.length:Int) - 1 - i)))] ad az (hlt' w hw1) (hgl' w hw2) rfl (fun p hp=>by
  obtain rfl:=List.mem_singleton.1 hp;dsimp only;rw[a3]
  simp[AVal,Rep])) rfl ?_
 ·show _=_
  rfl
 intro σ1 G1 β1 b w1 hK hc hs hfr;have b0:=(hfr 0 (by simp)).trans a0;have b1:=(hfr 1 (by simp)).trans a1;have b3:=(hfr 3 (by simp)).trans a3;have b8:=hc.env 8;rw[hK]at b8;simp only[AVal,Rep]at b8;obtain⟨hj1,hw3,hw4⟩:=step i hc hs hj hw1 hw2;have bd:b.defers=[]:=hc.defers;have bs:b.tmps.size=19:=hc.size
 clear hc hK hfr hs a0 a1 ad az hj hw1 hw2
 refine wpIn_cond_split (t:=decide (0<=(rows.length:Int) - 1 - i)) b8 (fun hb=>?_) (fun hb=>?_)
 ·have hb:=of_decide_eq_true hb;refine wpIn_skip ?_;obtain⟨j,hij⟩:∃ j,i+j+1=rows.length:=⟨rows.length - 1 - i,by omega⟩
  have hz:(rows.length:Int) - 1 - i=(j:Int) :=(by omega);rw[hz]at b3;have hjl:j<rows.length :=(by omega);have hrow:rows[j]? = some rows[j]:=List.getElem?_eq_getElem hjl;have hr8:=hrl _ (List.getElem_mem hjl)
  have hgd:rows.getD ((j:Int).toNat) []=rows[j] :=(by rw[Int.toNat_natCast,List.getD_eq_getElem?_getD,hrow]; rfl);generalize rows[j]=row at hrow hr8 hgd;refine wpIn_seq ?_;refine wpIn_block ?_;refine wpIn_seq ?_;refine wpIn_region_lit ?_;refine zKZ rfl ?_;refine zVQ (ro:=none) (K:=fun a' w'=>a'=b.put (some 11) (.func (.yield l) #[] #[])/\w'=w1) (by intro c e; cases e) ?_ (zBe (v:=.func (.yield l) #[] #[]) (w':=w1) (by simp[execOp,zOx,b0]) ⟨rfl,rfl⟩)
  rintro a' w' ⟨ha',hw'⟩
  rw[ha',hw']
  clear ha' hw' a' w'
  have c0:(b.put (some 11) (.func (.yield l) #[] #[])).tmps.getD 0 undef = .func (.yield l) #[] #[]:=(zMl (by decide)).trans b0;have c1:(b.put (some 11) (.func (.yield l) #[] #[])).tmps.getD 1 undef=v:=(zMl (by decide)).trans b1;have c3:(b.put (some 11) (.func (.yield l) #[] #[])).tmps.getD 3 undef = .int .i64 (j:Int):=(zMl (by decide)).trans b3;have c11:(b.put (some 11) (.func (.yield l) #[] #[])).tmps.getD 11 undef = .func (.yield l) #[] #[]:=by
   simp only[Act.put]
   rw[zLh (by rw[bs]; decide),if_pos rfl]
  have cd:(b.put (some 11) (.func (.yield l) #[] #[])).defers=[]:=(put_defers ..).trans bd;have cs:(b.put (some 11) (.func (.yield l) #[] #[])).tmps.size=19:=(zO6 ..).trans bs;generalize b.put (some 11) (.func (.yield l) #[] #[])=c at c0 c1 c3 c11 cd cs
  clear b0 b1 b3 b8 bd bs
  refine zSu tokW (N:=19) 4 (K:=fun σ=>σ.env 12 = .s (.int .i64 (j:Int))/\σ.env 15 = .s (.pt (rows.getD ((j:Int).toNat) []))) [0,1,3,11] ?_ (zTk (G:=G) [(1,.s (.pt [.sl 8 rows])),(3,.s (.int .i64 (j:Int)))] cd cs (hlt' w1 hw3) (hgl' w1 hw4) rfl (fun p hp=>by
   rcases List.mem_cons.1 hp with rfl | hp
   ·dsimp only;rw[c1]
    simp only[AVal]
    exact hrep w1 hw4
   ·obtain rfl:=List.mem_singleton.1 hp;dsimp only;rw[c3]
    simp[AVal,Rep])) rfl ?_
  ·exact⟨⟨by omega,by omega⟩,rfl,rfl⟩
  intro σ2 G2 β2 d w2 hK hc hs hfr;have d0:=(hfr 0 (by simp)).trans c0;have d1:=(hfr 1 (by simp)).trans c1;have d3:=(hfr 3 (by simp)).trans c3;have d11:=(hfr 11 (by simp)).trans c11;have d12:=hc.env 12;have d15:=hc.env 15;obtain⟨hgb,_⟩:=hc.back hs;rw[hK.1]at d12;rw[hK.2,hgd]at d15;simp only[AVal,Rep]at d12;have d15:=d15.keep (⟨hgb,fun _ _=>rfl⟩:Keep G2 G w2 w2)
  simp only[AVal]at d15;obtain⟨hj2,hw5,hw6⟩:=step i hc hs hj1 hw3 hw4;have dd:d.defers=[]:=hc.defers;have ds:d.tmps.size=19:=hc.size
  clear hc hK hfr hs c0 c1 c3 c11 cd cs hj1 hw3 hw4 hgb
  obtain⟨r1,r2,r3,r4,r5,r6,r7,r8,rfl⟩:=zXI hr8;refine zSu tokW (N:=19) 1 (K:=fun σ=>σ.env 16 = .agg ([r1,r2,r3,r4,r5,r6,r7,r8].map .s)) [0,1,3,11,12] ?_ (zTk (G:=G) [(15,.s (.pt [r1,r2,r3,r4,r5,r6,r7,r8]))] dd ds (hlt' w2 hw5) (hgl' w2 hw6) rfl (fun p hp=>by
   obtain rfl:=List.mem_singleton.1 hp;dsimp only;simp only[AVal]
   exact d15)) rfl ?_
  ·show _=_
   rfl
  intro σ3 G3 β3 e w3 hK hc hs hfr;have e0:=(hfr 0 (by simp)).trans d0;have e1:=(hfr 1 (by simp)).trans d1;have e3:=(hfr 3 (by simp)).trans d3;have e11:=(hfr 11 (by simp)).trans d11;have e12:=(hfr 12 (by simp)).trans d12;have e16:=hc.env 16;obtain⟨hgb,_⟩:=hc.back hs;rw[hK]at e16;have e16:=e16.keep (⟨hgb,fun _ _=>rfl⟩:Keep G3 G w3 w3)
  obtain⟨hj3,hw7,hw8⟩:=step i hc hs hj2 hw5 hw6;have ed:e.defers=[]:=hc.defers;have es:e.tmps.size=19:=hc.size
  clear hc hK hfr hs d0 d1 d3 d11 d12 d15 dd ds hj2 hw5 hw6 hgb
  refine zKZ rfl ?_;have hYY:=hY i j _ (e.tmps.getD 16 undef) w3 hij hrow hj3 hw7 hw8 (fun β=>e16.beta (n:=0) (fun k hk=>by cases hk) (zRH _))
  refine zWr (u:=.bool true) (f:=.tmp 11) (x:=.tmp 12) (y:=.tmp 16) (l:=l) rfl e11 (by rw[zOx,zOx,e12]; exact hYY) ?_;rintro ee w4 ⟨rfl,hj4,hw9,hw10⟩
  refine⟨rfl,?_⟩
  have f0:(e.put (some 17) (.bool true)).tmps.getD 0 undef = .func (.yield l) #[] #[]:=(zMl (by decide)).trans e0;have f1:(e.put (some 17) (.bool true)).tmps.getD 1 undef=v:=(zMl (by decide)).trans e1;have f3:(e.put (some 17) (.bool true)).tmps.getD 3 undef = .int .i64 (j:Int):=(zMl (by decide)).trans e3;have f17:(e.put (some 17) (.bool true)).tmps.getD 17 undef = .bool true:=by
   simp only[Act.put]
   rw[zLh (by rw[es]; decide),if_pos rfl]
  have fd:(e.put (some 17) (.bool true)).defers=[]:=(put_defers ..).trans ed;have fs:(e.put (some 17) (.bool true)).tmps.size=19:=(zO6 ..).trans es;show wpListIn _ _ _ _ _ _ (e.put (some 17) (.bool true)) _;generalize e.put (some 17) (.bool true)=f at f0 f1 f3 f17 fd fs
  clear e0 e1 e3 e11 e12 e16 ed es hj3 hw7 hw8 hYY
  refine zOw tokW (N:=19) (K:=fun σ=>σ.env 18 = .s (.bool false)) [0,1,3] ?_ (zTk (G:=G) [(17,.s (.bool true))] fd fs (hlt' w4 hw9) (hgl' w4 hw10) rfl (fun p hp=>by
   obtain rfl:=List.mem_singleton.1 hp;dsimp only;rw[f17]
   simp[AVal,Rep])) rfl ?_
  ·show _=_
   rfl
  intro σ5 G5 β5 g w5 hK hc hs hfr;have g0:=(hfr 0 (by simp)).trans f0;have g1:=(hfr 1 (by simp)).trans f1;have g3:=(hfr 3 (by simp)).trans f3;have g18:=hc.env 18;rw[hK]at g18;simp only[AVal,Rep]at g18;obtain⟨hj5,hw11,hw12⟩:=step (i+1) hc hs hj4 hw9 hw10;have gd:g.defers=[]:=hc.defers;have gs:g.tmps.size=19:=hc.size
  clear hc hK hfr hs f0 f1 f3 f17 fd fs hj4 hw9 hw10
  refine wpIn_cond_false g18 ?_;refine wpIn_skip ?_;refine wpIn_region_lit ?_;refine zOw tokW (N:=19) (K:=fun σ=>σ.env 3 = .s (.int .i64 (IntKind.i64.wrap ((j:Int) - 1)))) [0,1] ?_ (zTk (G:=G) [(3,.s (.int .i64 (j:Int)))] gd gs (hlt' w5 hw11) (hgl' w5 hw12) rfl (fun p hp=>by
   obtain rfl:=List.mem_singleton.1 hp;dsimp only;rw[g3]
   simp[AVal,Rep])) rfl ?_
  ·show _=_
   rfl
  intro σ6 G6 β6 h w6 hK hc hs hfr;have h0':=(hfr 0 (by simp)).trans g0;have h1':=(hfr 1 (by simp)).trans g1;have h3':=hc.env 3;rw[hK]at h3';simp only[AVal,Rep]at h3';rw[wrap64_in (n:=(j:Int) - 1) (by omega) (by omega)]at h3';have hst:=step (i+1) hc hs hj5 hw11 hw12;refine⟨⟨i+1,by omega,hc.defers,hc.size,h0',h1',by rw[h3']; congr 1; omega,hst⟩,?_⟩
  rw[h3',a3]
  show((j:Int) - 1+1).toNat<((rows.length:Int) - 1 - i+1).toNat
  omega
 ·have hb:=of_decide_eq_false hb;refine wpIn_exit ?_;obtain rfl:i=rows.length :=(by omega);simp only[Exit.then,Exit.inBlock,if_true]
  exact⟨bd,_,results_none rfl _ _ _,⟨_,rfl⟩,hj1⟩
theorem zW9 {c:Cx}{σ σ':Go.Abs.St}{x:Code}{Φ:Exit->Act->World->Prop} (hle:Le c σ σ') (h:TriX c x σ' Φ):TriX c x σ Φ:=fun G β a w hc=>by
 unfold Le at hle;obtain⟨G',β',h'⟩:=hle G β a w hc;exact h G' β' a w h'
theorem zIy {n:Nat}{ops:List zO8}:∀ {N:Nat}{y0:List zO8},zBh n ops N=some y0->∀ i,i<N ->
  ∃ acc o y,zBh n ops i=some acc/\ops[ops.length - 1 - i]? = some o/\zBX n o=some y/\acc.length+1<=4294967296/\zBh n ops (i+1)=some (acc++[y])
 | 0,_,_,i,hi=>by omega
 | N+1,y0,h,i,hi=>by
  have h':=h;unfold zBh at h;obtain⟨acc,h1,h⟩:=zAc h;obtain⟨o,h2,h⟩:=zAc h;obtain⟨y,h3,h⟩:=zAc h;obtain⟨h4,h5⟩:=zAJ h
  by_cases e:i=N
  ·subst e;exact⟨acc,o,y,h1,h2,h3,h4,h'.trans h5.symm⟩
  ·exact zIy h1 i (by omega)
def zK1 (n:Nat) (xs:List AV) (r:Ret):Prop:=∃ (a0:List zO8) (y0:List zO8),zCk n a0=some y0/\xs=[.s (.sl 8 ((List.map zAl) a0))]/\r = .val (.s (.sl 8 ((List.map zAl) y0)))
def zHg:zAE:=zAF fun xs r=>∃ n,zK1 n xs r
theorem zJ7:PSound Tryz.prog 34 zHg:=by
 have gok:∀ f s,look? f [(60,zAF zJe),(61,zJl)]=some s->PSound Tryz.prog f s:=zAC (by
  simp only[List.forall_mem_cons]
  exact⟨zMU,zMW,by simp⟩)
 refine zW1 Tryz.call34 Tryz.func34 rfl (fun xs r h=>by obtain⟨n,_,_,_,rfl,_⟩:=h; show 1<=16; decide) 16 rfl ?_;rintro xs r w0 G0 ⟨n,ops,y0,h,rfl,rfl⟩ _;rw[zCk]at h;obtain⟨hl,h⟩:=zAJ h;obtain⟨acc,hacc⟩:∃ acc:Nat->List zO8,acc=fun i=>(zBh n ops i).getD []:=⟨_,rfl⟩
 have hfin:acc ops.length=y0 :=(by rw[hacc]; dsimp only; rw[h]; rfl);have h0:acc 0=[] :=(by rw[hacc]; rfl);have hst:∀ i,i<ops.length->∃ o y,ops[ops.length - 1 - i]? = some o/\zBX n o=some y/\(acc i).length+1<=4294967296/\acc (i+1)=acc i++[y]:=fun i hi=>by
  obtain⟨a,o,y,h1,h2,h3,h4,h5⟩:=zIy h i hi;rw[hacc]
  exact⟨o,y,h2,h3,by dsimp only; rw[h1]; exact h4,by dsimp only; rw[h1,h5]; rfl⟩
 clear hacc
 refine zPi rfl ?_;refine zAb [] [] rfl ?_;refine⟨rfl,?_⟩
 refine zPi rfl ?_;refine zAb [3] [] rfl ?_;refine⟨rfl,?_⟩
 refine zWm ?_;refine zPi rfl ?_;refine zAb [] [] rfl ?_;refine⟨_,⟨_,rfl,rfl⟩,?_⟩
 refine⟨rfl,?_⟩
 refine zW9 (Le.trans (Le.takeNil 0 0 65 rfl rfl (by decide)) (Le.rnm [(0,0),(1,1)] [(3,.op 0 0),(7,.clo 92 [.s (.pt [.sl 8 ((List.map zAl) ops)])])] [(0,.box 26 [.orow 1]),(1,.row 65 8 [])] 2 ⟨rfl,rfl,trivial⟩ ⟨rfl,⟨_,rfl,rfl⟩,rfl,⟨_,rfl,rfl⟩,trivial⟩)) ?_;refine zTN ?_;refine zTO rfl rfl (sz:=8) (rows:=(List.map zAl) ops) zWK Tryz.call92 rfl (fun r hr=>by obtain⟨o,_,rfl⟩:=List.mem_map.1 hr; rfl) (by rw[List.length_map]; omega)
  (fun i=>(ofH [(0,.box 26 [.orow 1]),(1,.row 65 8 ((List.map zAl) (acc i)))],2)) (by dsimp only; rw[h0]; rfl) 1 (zLj rfl) (Nat.zero_le _) (fun _=>by show 1<=2; decide) (by show 8<16; decide) (by show 9<16; decide) ?_ ?_
 ·intro i j row hij hrow l w X G B _;rw[List.length_map]at hij;obtain⟨o,y,h1,h2,h3,h4⟩:=hst i (by omega)
  rw[show ops.length - 1 - i=j by omega]at h1;rw[List.getElem?_map,h1]at hrow;obtain rfl:=Option.some.inj hrow;obtain⟨op_kind,op_row,op_at,op_n,op_nodes,op_slot,op_old,op_text⟩:=o;refine zAb [5] [] rfl ?_;refine⟨rfl,fun w X G B _=>?_⟩
  refine zAw ?_;refine zJT (by exact tokW) (by exact gok) (by exact mixed) [] [] [0,1,4,5] rfl (by decide +kernel) ?_;refine⟨_,⟨n,_,_,h2,rfl,rfl⟩,?_⟩
  obtain⟨z_kind,z_row,z_at,z_n,z_nodes,z_slot,z_old,z_text⟩:=y;refine And.intro (by simp only[List.length_map,List.length_cons,List.length_nil]; omega) ?_;refine⟨rfl,_,Le.rename [(0,0),(3,1)] [] [(0,.box 26 [.orow 1]),(1,.row 65 8 ((List.map zAl) (acc (i+1))))] 2 trivial ⟨rfl,⟨_,rfl,rfl⟩,rfl,⟨_,rfl,by rw[h4,List.map_append]; rfl⟩,trivial⟩ rfl rfl rfl rfl rfl,rfl,rfl⟩
 ·intro D w2 X G2 G' β' a2 hsw hc;rw[List.length_map,hfin]at hc;show(Code.seq _ _).wpIn _ _ _ _ a2 w2;refine zUu (c:=zFh Tryz.prog w0 G0 16) tokW hsw (fun _ h=>h) rfl rfl ?_ G' β' a2 w2 hc;refine zXL [] [] rfl ?_;show Tri ..;refine zAk ?_;unfold zAA;exact⟨_,Le.giveRow 1 (e:=65) (sz:=8) (rows:=(List.map zAl) y0) rfl,rfl,rfl⟩
end Go.Proofs.YtffhjiplcfncdaaGreat
namespace Go.Abs
variable {c:Cx} {σ:St}
theorem Le.ofA (k:Nat){e sz:Nat}{rows:List (List AV)} (rs:List (List S)) (hk:σ.hp k=some (.arow e sz rows)) (hs:zGY rows=some rs):Le c σ (zFl σ k (.row e sz rs)):=by
 unfold Le;intro G β a w hc;obtain⟨s1,s2,s3⟩:=zNW hs;have hget:∀ {j o},(zFl σ k (.row e sz rs)).hp j=some o->(j=k/\o = .row e sz rs)∨(j ≠ k/\σ.hp j=some o):=fun {j o} h=>by
  simp only[zFl]at h;cases hq:Nat.beq j k with
  | true=>rw[hq,cond_true]at h; cases h; exact .inl ⟨Nat.eq_of_beq_eq_true hq,rfl⟩
  | false=>rw[hq,cond_false]at h; exact .inr ⟨Nat.ne_of_beq_eq_false hq,h⟩
 have hget':∀ {j o},(zFl σ k (.row e sz rs)).hp j=some o->∃ o',σ.hp j=some o':=fun {j o} h=>by
  rcases hget h with ⟨rfl,_⟩ | ⟨_,h⟩
  ·exact⟨_,hk⟩
  ·exact⟨_,h⟩
 refine⟨G,β,{ hc with hp:=fun j o hj=>?_,hplt:=fun j o hj=>?_,inj:=fun j j' o o' hj hj'=>(let ⟨_,h1⟩:=hget' hj; let ⟨_,h2⟩:=hget' hj'; hc.inj j j' _ _ h1 h2) }⟩
 ·rcases hget hj with ⟨rfl,rfl⟩ | ⟨_,h⟩
  ·obtain⟨hlen,hsz,ho⟩:=hc.hp j _ hk;refine⟨fun r hr=>s3 sz hlen r hr,hsz,ho.imp (fun h=>⟨h.1,by have:=h.2; subst this; exact List.length_eq_zero_iff.1 (by simpa using s2.symm)⟩) ?_⟩
   rintro⟨b,cap,cur,h1,h2,h3,h4,h5,h6,h7⟩
   refine⟨b,cap,cur,by rw[← s2]; exact h1,by rw[← s2]; exact h2,h3,h4,h5,h6,fun i s hi=>?_⟩
   have hm:(rows.flatten.map AV.sc)[i]? = some (some s) :=(by rw[s1,List.getElem?_map,hi]; rfl);rw[List.getElem?_map]at hm;obtain⟨x,hx,hxs⟩:=Option.map_eq_some_iff.1 hm;obtain⟨u,hu,hr,_⟩:=h7 i x hx;exact⟨u,hu,AV.sc_rep hxs hr⟩
  ·exact hc.hp j o h
 ·rcases hget hj with ⟨rfl,rfl⟩ | ⟨_,h⟩
  ·exact⟨(hc.hplt j _ hk).1,rfl⟩
  ·exact hc.hplt j o h
theorem zU8:∀ r:List S,zKh (r.map AV.s)=some r
 | []=>rfl
 | x::r=>by simp[zKh,AV.sc,zU8 r]
theorem zSU:∀ rows:List (List S),zGY (rows.map (·.map AV.s))=some rows
 | []=>rfl
 | r::rows=>by simp[zGY,zU8 r,zSU rows]
theorem zJR:∀ {a b:List (List AV)}{x y:List (List S)},zGY a=some x->zGY b=some y->zGY (a++b)=some (x++y)
 | [],b,x,y,h,h'=>by
  simp only[zGY,Option.some.injEq]at h;subst h;exact h'
 | r::a,b,x,y,h,h'=>by
  simp only[zGY]at h;split at h
  ·rename_i z zs h1 h2
   cases h;simp[zGY,h1,zJR h2 h']
  ·cases h
theorem zSy {k:Nat}{r:AV}{p:Nat->AV}:∀ l:List S,AV.frzAll k r p (l.map AV.s)=l.map AV.s
 | []=>rfl
 | x::l=>by simp[AV.frzAll,AV.frz,zSy l]
theorem zTn {k:Nat}{r:AV}{p:Nat->AV} (rows:List (List S)):(rows.map (·.map AV.s)).map (AV.frzAll k r p)=rows.map (·.map AV.s):=by
 rw[List.map_map]
 exact List.map_congr_left fun l _=>zSy l
end Go.Abs
namespace Go.Proofs.YtffhjiplcfncdaaGreat
open Go.Abs
def zAd (p:zRc):List S:=[.sl 8 ((List.map zAl) p.1),.sl 1 ((List.map (irow .i64)) p.2.1.1),.sl 1 ((List.map (irow .i64)) p.2.1.2),.sl 1 ((List.map (irow .i64)) p.2.2.1),.sl 1 ((List.map (irow .i64)) p.2.2.2)]
def zAg:(Nd×Nd×List zRc×Int)->List S
| ⟨⟨p_origin_kind,p_origin_text,p_origin_cols,p_origin_kids⟩,⟨p_tree_kind,p_tree_text,p_tree_cols,p_tree_kids⟩,p_records,p_done⟩=>[.int .i64 p_origin_kind,.str p_origin_text,.int .i64 p_origin_cols,.sl 4 (Nd.encs p_origin_kids),.int .i64 p_tree_kind,.str p_tree_text,.int .i64 p_tree_cols,.sl 4 (Nd.encs p_tree_kids),.sl 5 ((List.map zAd) p_records),.int .i64 p_done]
def zOd (n:Nat) (xs:List AV) (os:List Ob) (x:AV) (os':List (Option Ob)):Prop:=∃ (a0:Nd) (y0:Option (Nd×Nd×List zRc×Int)) (y1:Int),zDD n a0=some (y0,y1)/\xs=[.agg ((Nd.enc a0).map .s)]/\os=[]/\x = .tup [(match y0 with | none=>.s .np | some _=>.op 0 0),.s (.int .i64 y1)]/\os'=(match y0 with | none=>[] | some ⟨⟨o_origin_kind,o_origin_text,o_origin_cols,o_origin_kids⟩,⟨o_tree_kind,o_tree_text,o_tree_cols,o_tree_kids⟩,o_records,o_done⟩=>[some (.box 71 [.s (.int .i64 o_origin_kind),.s (.str o_origin_text),.s (.int .i64 o_origin_cols),.s (.sl 4 (Nd.encs o_origin_kids)),.s (.int .i64 o_tree_kind),.s (.str o_tree_text),.s (.int .i64 o_tree_cols),.s (.sl 4 (Nd.encs o_tree_kids)),.orow 1,.s (.int .i64 o_done)]),some (.row 31 5 ((List.map zAd) o_records))])
def zG1:zAE:=zD8 (fun xs os x os'=>∃ n,zOd n xs os x os')
theorem zIK:PSound Tryz.prog 20 zG1:=by
 have gok:∀ f s,look? f [(38,zDf),(29,zDe)]=some s->PSound Tryz.prog f s:=zAC (by
  simp only[List.forall_mem_cons]
  exact⟨zDN,zDv,by simp⟩)
 refine PSound.withNil (zGT tokW Tryz.call20 Tryz.func20 rfl (fun xs os x os' h=>by obtain⟨n,_,_,_,_,rfl,rfl,_,rfl⟩:=h; exact⟨by show 1<=13; decide,Nat.zero_le _⟩) 13 rfl ?_) _;rintro xs os x os' w0 G0 B0 ⟨n,⟨n1A,n1C,n1D,n1B⟩,y0,y1,h,rfl,rfl,rfl,rfl⟩ _;rw[zDD]at h;refine zXL [] [] rfl ?_;show Tri ..;refine zAa ?_;refine zXL [] [] rfl ?_;obtain⟨y2,hy2,h⟩:=zAc h;refine⟨_,⟨_,_,_,hy2,rfl,rfl⟩,?_⟩
 show Tri ..;refine zAq rfl h (fun hb h=>?_) (fun hb h=>?_)
 ·refine zXL [] [] rfl ?_;show Tri ..;refine zAk ?_;obtain⟨hj1,hk1⟩:=pij h;subst hj1 hk1;unfold zB0;exact⟨_,(Le.rnm [] [(2,.s (.np)),(3,.s (.int .i64 1))] [] 0 ⟨rfl,rfl,trivial⟩ trivial),rfl,rfl,trivial⟩
 ·refine zAn ?_;show Tri ..;refine zAa ?_;refine zC1 [12] [] [5] [] rfl (by decide +kernel) ?_;obtain⟨⟨y3A,y3C,y3D,y3B⟩,hy3,h⟩:=zAc h;refine⟨_,⟨_,_,hy3,rfl,rfl⟩,?_⟩
  obtain⟨⟨y4A,y4C,y4D,y4B⟩,hy4,h⟩:=zAc h;refine⟨_,⟨_,_,hy4,rfl,rfl⟩,?_⟩
  show Tri ..;refine zAs (Le.trans (Le.rnm [(0,0)] [(2,.op 0 0),(3,.s (.int .i64 0))] [(0,.box 71 [.s (.int .i64 y3A),.s (.str y3C),.s (.int .i64 y3D),.s (.sl 4 (Nd.encs y3B)),.s (.int .i64 y4A),.s (.str y4C),.s (.int .i64 y4D),.s (.sl 4 (Nd.encs y4B)),.nl 5,.s (.int .i64 0)])] 1 ⟨rfl,rfl,trivial⟩ ⟨rfl,⟨_,rfl,rfl⟩,trivial⟩) (Le.takeNil 0 8 31 rfl rfl (by decide))) ?_;refine zAk ?_;obtain⟨hj1,hk1⟩:=pij h;subst hj1 hk1;unfold zB0
  exact⟨_,(Le.rnm [(0,0),(1,1)] [(2,.op 0 0),(3,.s (.int .i64 0))] [(0,.box 71 [.s (.int .i64 y3A),.s (.str y3C),.s (.int .i64 y3D),.s (.sl 4 (Nd.encs y3B)),.s (.int .i64 y4A),.s (.str y4C),.s (.int .i64 y4D),.s (.sl 4 (Nd.encs y4B)),.orow 1,.s (.int .i64 0)]),(1,.row 31 5 ((List.map zAd) []))] 2 ⟨rfl,rfl,trivial⟩ ⟨rfl,⟨_,rfl,rfl⟩,rfl,⟨_,rfl,rfl⟩,trivial⟩),rfl,rfl,rfl,rfl,rfl,rfl,trivial⟩
def zSZ (n:Nat) (xs:List AV) (r:Ret):Prop:=∃ (a0:List zO8) (y0:List zO8),zIe n a0=some y0/\xs=[.s (.sl 8 ((List.map zAl) a0))]/\r = .row 65 8 ((List.map zAl) y0)
def zNd:zAE:=zAF fun xs r=>∃ n,zSZ n xs r
theorem zRM:PSound Tryz.prog 59 zNd:=by
 have gok:∀ f s,look? f [(91,zLv)]=some s->PSound Tryz.prog f s:=zAC (by
  simp only[List.forall_mem_cons]
  exact⟨zNJ,by simp⟩)
 refine zAG tokW Tryz.call59 Tryz.func59 rfl (fun xs r h=>by obtain⟨n,_,_,_,rfl,_⟩:=h; show 1<=19; decide) 19 rfl ?_;rintro xs r w0 G0 ⟨n,l1,y0,h,rfl,rfl⟩ _;rw[zIe]at h;refine zXL [2] [] rfl ?_;show Tri ..;refine zAs (Le.rnm [] [(0,.s (.sl 8 ((List.map zAl) l1)))] [] 0 ⟨rfl,trivial⟩ trivial) ?_;refine zXL [3] [] rfl ?_;show Tri ..
 refine zAs (Le.rnm [(0,0)] [(0,.s (.sl 8 ((List.map zAl) l1))),(3,.orow 0)] [(0,.row 65 8 ((List.map zAl) []))] 1 ⟨rfl,rfl,trivial⟩ ⟨rfl,⟨_,rfl,congrArg (Ob.row 65 8) (by simp[List.map_append,List.map_take,List.map_drop,irow,brow,zAB,List.map_cons,List.map_nil,zAy,Nd.encs_eq,Nd.enc,zAi,zAh,zAv,zAo,zAj,zAl,zAd,zAg])⟩,trivial⟩) ?_;refine zAa ?_;refine zXL [] [7] rfl ?_;intro n2 hn2;obtain rfl:(l1.length:Int)=n2:=(hn2.trans (congrArg (fun m:Nat=>(m:Int)) (rlen (fun _=>rfl) l1))).symm;show Tri ..
 obtain⟨l6,hl,h⟩:=zAc h;refine zAz ⟨ofL [(3,.orow 0)],ofH [(0,.row 65 8 ((List.map zAl) l6))],1⟩ ?_ (fun σ' hle=>?_)
 ·refine zAw (zAL (X:=Nat×Int×(List zO8)) (fun y=>match y with | (k,x4,l5)=>⟨ofL [(3,.orow 0),(6,.s (.sl 8 ((List.map zAl) l1))),(7,.s (.int .i64 (l1.length:Int))),(8,.s (.int .i64 x4))],ofH [(0,.row 65 8 ((List.map zAl) l5))],1⟩) (fun y=>zCR n l1 y.1 y.2.1 y.2.2=some l6) (fun y=>y.1) (n,0,[]) hl ?_ ?_)
  ·exact(Le.rnm [(0,0)] _ _ _ ⟨rfl,rfl,rfl,rfl,trivial⟩ ⟨rfl,⟨_,rfl,rfl⟩,trivial⟩)
  ·rintro⟨k,x4,l5⟩ h;cases k with
   | zero=>cases h
   | succ k =>
    replace h:zCR n l1 (k+1) x4 l5=some l6:=h;rw[zCR]at h;refine zXL [] [] rfl ?_;show Tri ..;refine zAa ?_;refine zAq rfl h (fun hb h=>?_) (fun hb h=>?_)
    ·refine zAn ?_;show Tri ..;refine zAa ?_;refine zAw ?_;refine zXL [5] [10] rfl ?_;obtain⟨⟨e7A,e7E,e7F,e7S,e7R,e7W,e7X,e7C⟩,he7,h⟩:=zAc h;refine And.intro (zAD (fun _=>rfl) he7).1 ?_;intro r8 hr8;obtain rfl:[.int .i64 e7A,.sl 1 ((List.map (irow .i64)) e7E),.int .i64 e7F,.int .i64 e7S,.sl 4 (Nd.encs e7R),.int .i64 e7W,.str e7X,.str e7C]=r8:=(hr8.trans (zAD (fun _=>rfl) he7).2.1).symm;show Tri ..
     refine zAs (Le.giveBox 1 [.int .i64 e7A,.sl 1 ((List.map (irow .i64)) e7E),.int .i64 e7F,.int .i64 e7S,.sl 4 (Nd.encs e7R),.int .i64 e7W,.str e7X,.str e7C] rfl rfl) ?_;refine zAb [16] [15] rfl ?_;obtain⟨⟨y9A,y9E,y9F,y9S,y9R,y9W,y9X,y9C⟩,hy9,h⟩:=zAc h;refine⟨_,⟨_,_,_,hy9,rfl,rfl⟩,?_⟩
     intro r10 hr10;obtain rfl:(List.map zAl) [(y9A,y9E,y9F,y9S,y9R,y9W,y9X,y9C)]=r10:=(hr10.trans (by simp[List.map_append,List.map_take,List.map_drop,irow,brow,zAB,List.map_cons,List.map_nil,zAy,Nd.encs_eq,Nd.enc,zAi,zAh,zAv,zAo,zAj,zAl,zAd,zAg])).symm;obtain⟨hq,h⟩:=zAJ h
     refine And.intro (show(((List.map zAl) l5).length+((List.map zAl) [(y9A,y9E,y9F,y9S,y9R,y9W,y9X,y9C)]).length) * 112<=140737488355328/\((List.map zAl) l5).length+((List.map zAl) [(y9A,y9E,y9F,y9S,y9R,y9W,y9X,y9C)]).length<=9223372036854775807 from by simp only[List.length_append,List.length_cons,List.length_nil,List.length_map,rlen (fun _=>rfl)]at hq ⊢; omega) ?_;show Tri ..
     refine zAs (Le.rnm [(2,0)] [(3,.orow 0),(6,.s (.sl 8 ((List.map zAl) l1))),(7,.s (.int .i64 (l1.length:Int))),(8,.s (.int .i64 x4))] [(0,.row 65 8 ((List.map zAl) (l5++[(y9A,y9E,y9F,y9S,y9R,y9W,y9X,y9C)])))] 1 ⟨rfl,rfl,rfl,rfl,trivial⟩ ⟨rfl,⟨_,rfl,congrArg (Ob.row 65 8) (by simp[List.map_append,List.map_take,List.map_drop,irow,brow,zAB,List.map_cons,List.map_nil,zAy,Nd.encs_eq,Nd.enc,zAi,zAh,zAv,zAo,zAj,zAl,zAd,zAg])⟩,trivial⟩) ?_;refine zAb [] [] rfl ?_
     refine⟨(k,IntKind.i64.wrap (x4+1),l5++[(y9A,y9E,y9F,y9S,y9R,y9W,y9X,y9C)]),h,(Le.rnm [(0,0)] _ _ _ ⟨rfl,rfl,rfl,rfl,trivial⟩ ⟨rfl,⟨_,rfl,rfl⟩,trivial⟩),Nat.lt_succ_self k⟩
    ·refine zAP ?_;cases h;exact(Le.rnm [(0,0)] _ _ _ ⟨rfl,trivial⟩ ⟨rfl,⟨_,rfl,rfl⟩,trivial⟩)
 ·show Tri ..;refine zAs hle ?_;refine zXL [] [] rfl ?_;show Tri ..;refine zAk ?_;have hy:=Option.some.inj h;subst hy;unfold zAA;exact⟨_,Le.refl _ _,0,rfl,rfl⟩
def zAp (p:zCu):List S:=[.sl 1 ((List.map (irow .i64)) p.1),.sl 1 ((List.map (irow .i64)) p.2)]
def zN9 (xs:List AV) (r:Ret):Prop:=∃ (a0:zCu) (y0:zCu),zBK a0=some y0/\xs=[.agg ((zAp a0).map .s)]/\r = .val (.agg ((zAp y0).map .s))
def zFr:zAE:=zAF fun xs r=>zN9 xs r
theorem zGy:PSound Tryz.prog 35 zFr:=by
 have gok:∀ f s,look? f [(62,zIU)]=some s->PSound Tryz.prog f s:=zAC (by
  simp only[List.forall_mem_cons]
  exact⟨zKM,by simp⟩)
 refine zAG tokW Tryz.call35 Tryz.func35 rfl (fun xs r h=>by obtain⟨_,_,_,rfl,_⟩:=h; show 1<=10; decide) 10 rfl ?_;rintro xs r w0 G0 ⟨⟨c1Q,c1V⟩,y0,h,rfl,rfl⟩ _;rw[zBK]at h;refine zXL [2] [] rfl ?_;show Tri ..;refine zAa ?_;refine zAO [] [] [7] rfl (by decide +kernel) ?_;obtain⟨y2,hy2,h⟩:=zAc h;refine⟨_,⟨_,_,hy2,rfl,rfl⟩,?_⟩
 obtain⟨y3,hy3,h⟩:=zAc h;refine⟨_,⟨_,_,hy3,rfl,rfl⟩,?_⟩
 show Tri ..;refine zAk ?_;have hy:=Option.some.inj h;subst hy;unfold zAA;exact⟨_,Le.refl _ _,rfl,rfl⟩
def zOa (n:Nat) (xs:List AV) (r:Ret):Prop:=∃ (a0:zRc) (y0:zRc),zDB n a0=some y0/\xs=[.agg ((zAd a0).map .s)]/\r = .val (.agg ((zAd y0).map .s))
def zG0:zAE:=zAF fun xs r=>∃ n,zOa n xs r
theorem zIJ:PSound Tryz.prog 32 zG0:=by
 have gok:∀ f s,look? f [(59,zNd),(35,zFr)]=some s->PSound Tryz.prog f s:=zAC (by
  simp only[List.forall_mem_cons]
  exact⟨zRM,zGy,by simp⟩)
 refine zAG tokW Tryz.call32 Tryz.func32 rfl (fun xs r h=>by obtain⟨n,_,_,_,rfl,_⟩:=h; show 1<=13; decide) 13 rfl ?_;rintro xs r w0 G0 ⟨n,⟨r1Aa,⟨r1Ac,r1Ad⟩,⟨r1Ae,r1Af⟩⟩,y0,h,rfl,rfl⟩ _;rw[zDB]at h;refine zXL [2] [] rfl ?_;show Tri ..;refine zAa ?_;refine zAO [] [] [10] rfl (by decide +kernel) ?_;obtain⟨y2,hy2,h⟩:=zAc h;refine⟨_,⟨_,_,_,hy2,rfl,rfl⟩,?_⟩
 obtain⟨⟨y3Q,y3V⟩,hy3,h⟩:=zAc h;refine⟨_,⟨_,_,hy3,rfl,rfl⟩,?_⟩
 obtain⟨⟨y4Q,y4V⟩,hy4,h⟩:=zAc h;refine⟨_,⟨_,_,hy4,rfl,rfl⟩,?_⟩
 show Tri ..;refine zAk ?_;have hy:=Option.some.inj h;subst hy;unfold zAA;exact⟨_,Le.refl _ _,rfl,rfl⟩
def zIn (n:Nat) (xs:List AV) (os:List Ob) (x:AV) (os':List (Option Ob)):Prop:=∃ (a0I:Int) (a0J:List UInt8) (a0K:Int) (a0L:List Nd) (a0M:Int) (a0N:List UInt8) (a0O:Int) (a0P:List Nd) (a0H:List zRc) (a0G:Int) (a1:zRc) (y0:Int) (z0I:Int) (z0J:List UInt8) (z0K:Int) (z0L:List Nd) (z0M:Int) (z0N:List UInt8) (z0O:Int) (z0P:List Nd) (z0H:List zRc) (z0G:Int),zA5 n (Nd.mk a0I a0J a0K a0L,Nd.mk a0M a0N a0O a0P,a0H,a0G) a1=some (y0,(Nd.mk z0I z0J z0K z0L,Nd.mk z0M z0N z0O z0P,z0H,z0G))/\xs=[.op 0 0,.agg ((zAd a1).map .s)]/\os=[.box 71 [.s (.int .i64 a0I),.s (.str a0J),.s (.int .i64 a0K),.s (.sl 4 (Nd.encs a0L)),.s (.int .i64 a0M),.s (.str a0N),.s (.int .i64 a0O),.s (.sl 4 (Nd.encs a0P)),.orow 1,.s (.int .i64 a0G)],.row 31 5 ((List.map zAd) a0H)]/\x = .s (.int .i64 y0)/\os'=[some (.box 71 [.s (.int .i64 z0I),.s (.str z0J),.s (.int .i64 z0K),.s (.sl 4 (Nd.encs z0L)),.s (.int .i64 z0M),.s (.str z0N),.s (.int .i64 z0O),.s (.sl 4 (Nd.encs z0P)),.orow 2,.s (.int .i64 z0G)]),none,some (.row 31 5 ((List.map zAd) z0H))]
def zDS:zAE:=zD8 (fun xs os x os'=>∃ n,zIn n xs os x os')
theorem zFg:PSound Tryz.prog 12 zDS:=by
 have gok:∀ f s,look? f [(31,zEq),(32,zG0)]=some s->PSound Tryz.prog f s:=zAC (by
  simp only[List.forall_mem_cons]
  exact⟨zFj,zIJ,by simp⟩)
 refine PSound.withNil (zGT tokW Tryz.call12 Tryz.func12 rfl (fun xs os x os' h=>by obtain⟨n,_,_,_,_,_,_,_,_,_,_,_,_,_,_,_,_,_,_,_,_,_,_,_,rfl,rfl,_,rfl⟩:=h; exact⟨by show 2<=57; decide,by show 2<=3; decide⟩) 57 rfl ?_) _;rintro xs os x os' w0 G0 B0 ⟨n,o1I,o1J,o1K,o1L,o1M,o1N,o1O,o1P,o1H,o1G,⟨r2Aa,⟨r2Ac,r2Ad⟩,⟨r2Ae,r2Af⟩⟩,y0,z0I,z0J,z0K,z0L,z0M,z0N,z0O,z0P,z0H,z0G,h,rfl,rfl,rfl,rfl⟩ _
 rw[zA5]at h;refine zXL [] [] rfl ?_;show Tri ..;refine zAa ?_;refine zXL [] [] rfl ?_;show Tri ..;refine zAN rfl (fun h=>by cases h) (fun _=>?_)
 refine zAn ?_;show Tri ..;refine zAa ?_;refine zC1 [5] [] [3,11,12] [3] rfl (by decide +kernel) ?_;obtain⟨⟨⟨y3A,y3C,y3D,y3B⟩,y4,y5⟩,hy3,h⟩:=zAc h;refine⟨_,⟨_,_,_,_,_,_,hy3,rfl,rfl⟩,?_⟩
 show Tri ..;refine zAs (Le.giveBox 2 [.int .i64 y3A,.str y3C,.int .i64 y3D,.sl 4 (Nd.encs y3B)] rfl rfl) ?_;refine zAa ?_;refine zXL [] [] rfl ?_;show Tri ..;refine zAq rfl h (fun hb h=>?_) (fun hb h=>?_)
 ·refine zXL [] [] rfl ?_;show Tri ..;refine zAk ?_;have hj0:=Option.some.inj h;obtain⟨hv0,hw0⟩:=Prod.mk.inj hj0;subst hv0;obtain⟨he1T,hr1T⟩:=Prod.mk.inj hw0;obtain⟨he1U,hr1U⟩:=Prod.mk.inj hr1T;obtain⟨he1Y,he1Z⟩:=Prod.mk.inj hr1U;obtain⟨he2T,he2U,he2Y,he2Z⟩:=Nd.mk.inj he1T;subst he2T;subst he2U;subst he2Y;subst he2Z;obtain⟨he3T,he3U,he3Y,he3Z⟩:=Nd.mk.inj he1U;subst he3T;subst he3U;subst he3Y;subst he3Z;subst he1Y;subst he1Z;unfold zB0
  exact⟨_,(Le.rnm [(0,0),(1,2)] [(4,.s (.int .i64 y5))] [(0,.box 71 [.s (.int .i64 o1I),.s (.str o1J),.s (.int .i64 o1K),.s (.sl 4 (Nd.encs o1L)),.s (.int .i64 o1M),.s (.str o1N),.s (.int .i64 o1O),.s (.sl 4 (Nd.encs o1P)),.orow 2,.s (.int .i64 o1G)]),(2,.row 31 5 ((List.map zAd) o1H))] 3 ⟨rfl,trivial⟩ ⟨rfl,⟨_,rfl,rfl⟩,rfl,⟨_,rfl,rfl⟩,trivial⟩),rfl,rfl,rfl,rfl,rfl,rfl,trivial⟩
 ·refine zAn ?_;show Tri ..;refine zAa ?_;refine zXL [] [] rfl ?_;show Tri ..;refine zAq rfl h (fun hb h=>?_) (fun hb h=>?_)
  ·refine zXL [] [] rfl ?_;show Tri ..;refine zAk ?_;have hj0:=Option.some.inj h;obtain⟨hv0,hw0⟩:=Prod.mk.inj hj0;subst hv0;obtain⟨he1T,hr1T⟩:=Prod.mk.inj hw0;obtain⟨he1U,hr1U⟩:=Prod.mk.inj hr1T;obtain⟨he1Y,he1Z⟩:=Prod.mk.inj hr1U;obtain⟨he2T,he2U,he2Y,he2Z⟩:=Nd.mk.inj he1T;subst he2T;subst he2U;subst he2Y;subst he2Z;obtain⟨he3T,he3U,he3Y,he3Z⟩:=Nd.mk.inj he1U;subst he3T;subst he3U;subst he3Y;subst he3Z;subst he1Y;subst he1Z;unfold zB0
   exact⟨_,(Le.rnm [(0,0),(1,2)] [(4,.s (.int .i64 6))] [(0,.box 71 [.s (.int .i64 o1I),.s (.str o1J),.s (.int .i64 o1K),.s (.sl 4 (Nd.encs o1L)),.s (.int .i64 o1M),.s (.str o1N),.s (.int .i64 o1O),.s (.sl 4 (Nd.encs o1P)),.orow 2,.s (.int .i64 o1G)]),(2,.row 31 5 ((List.map zAd) o1H))] 3 ⟨rfl,trivial⟩ ⟨rfl,⟨_,rfl,rfl⟩,rfl,⟨_,rfl,rfl⟩,trivial⟩),rfl,rfl,rfl,rfl,rfl,rfl,trivial⟩
  ·refine zAn ?_;show Tri ..;refine zAa ?_;refine zAO [38,42] [41] [4,8,9,13,16] rfl (by decide +kernel) ?_;obtain⟨hq,h⟩:=zAJ h;refine And.intro ⟨hq.1,Int.le_trans hq.2 (Int.ofNat_le.2 (Nat.le_of_eq (rlen (fun _=>rfl) _).symm))⟩ ?_;obtain⟨⟨y6Aa,⟨y6Ac,y6Ad⟩,⟨y6Ae,y6Af⟩⟩,hy6,h⟩:=zAc h;refine⟨_,⟨_,_,_,hy6,rfl,rfl⟩,?_⟩
   intro r7 hr7;obtain rfl:(List.map zAd) [(y6Aa,(y6Ac,y6Ad),(y6Ae,y6Af))]=r7:=(hr7.trans (by simp[List.map_append,List.map_take,List.map_drop,irow,brow,zAB,List.map_cons,List.map_nil,zAy,Nd.encs_eq,Nd.enc,zAi,zAh,zAv,zAo,zAj,zAl,zAd,zAg,zAp])).symm;obtain⟨hq,h⟩:=zAJ h
   refine And.intro (show(((((List.map zAd) o1H)).take o1G.toNat).length+((List.map zAd) [(y6Aa,(y6Ac,y6Ad),(y6Ae,y6Af))]).length) * 120<=140737488355328/\((((List.map zAd) o1H)).take o1G.toNat).length+((List.map zAd) [(y6Aa,(y6Ac,y6Ad),(y6Ae,y6Af))]).length<=9223372036854775807 from by simp only[List.length_append,List.length_cons,List.length_nil,List.length_map,List.length_take,rlen (fun _=>rfl)]at hq ⊢; omega) ?_;show Tri ..
   refine zAs (Le.rnm [(0,0),(4,2)] [(0,.op 0 0),(5,.s (.pt [.int .i64 y3A,.str y3C,.int .i64 y3D,.sl 4 (Nd.encs y3B)]))] [(0,.box 71 [.s (.int .i64 o1I),.s (.str o1J),.s (.int .i64 o1K),.s (.sl 4 (Nd.encs o1L)),.s (.int .i64 o1M),.s (.str o1N),.s (.int .i64 o1O),.s (.sl 4 (Nd.encs o1P)),.orow 2,.s (.int .i64 o1G)]),(2,.row 31 5 ((List.map zAd) ((o1H.take o1G.toNat)++[(y6Aa,(y6Ac,y6Ad),(y6Ae,y6Af))])))] 3 ⟨rfl,rfl,trivial⟩ ⟨rfl,⟨_,rfl,rfl⟩,rfl,⟨_,rfl,congrArg (Ob.row 31 5) (by simp[List.map_append,List.map_take,List.map_drop,irow,brow,zAB,List.map_cons,List.map_nil,zAy,Nd.encs_eq,Nd.enc,zAi,zAh,zAv,zAo,zAj,zAl,zAd,zAg,zAp])⟩,trivial⟩) ?_
   refine zAa ?_;refine zAO [] [] [6,10,13] rfl (by decide +kernel) ?_;show Tri ..;refine zXL [] [] rfl ?_;show Tri ..;refine zAk ?_;have hj0:=Option.some.inj h;obtain⟨hv0,hw0⟩:=Prod.mk.inj hj0;subst hv0;obtain⟨he1T,hr1T⟩:=Prod.mk.inj hw0;obtain⟨he1U,hr1U⟩:=Prod.mk.inj hr1T;obtain⟨he1Y,he1Z⟩:=Prod.mk.inj hr1U;obtain⟨he2T,he2U,he2Y,he2Z⟩:=Nd.mk.inj he1T;subst he2T;subst he2U;subst he2Y;subst he2Z;obtain⟨he3T,he3U,he3Y,he3Z⟩:=Nd.mk.inj he1U;subst he3T;subst he3U;subst he3Y;subst he3Z;subst he1Y;subst he1Z;unfold zB0
   exact⟨_,(Le.rnm [(0,0),(2,2)] [(4,.s (.int .i64 0))] [(0,.box 71 [.s (.int .i64 o1I),.s (.str o1J),.s (.int .i64 o1K),.s (.sl 4 (Nd.encs o1L)),.s (.int .i64 y3A),.s (.str y3C),.s (.int .i64 y3D),.s (.sl 4 (Nd.encs y3B)),.orow 2,.s (.int .i64 (IntKind.i64.wrap (o1G+1)))]),(2,.row 31 5 ((List.map zAd) ((o1H.take o1G.toNat)++[(y6Aa,(y6Ac,y6Ad),(y6Ae,y6Af))])))] 3 ⟨rfl,trivial⟩ ⟨rfl,⟨_,rfl,rfl⟩,rfl,⟨_,rfl,rfl⟩,trivial⟩),rfl,rfl,rfl,rfl,rfl,rfl,trivial⟩
def zHm (xs:List AV) (os:List Ob) (x:AV) (os':List (Option Ob)):Prop:=∃ (a0I:Int) (a0J:List UInt8) (a0K:Int) (a0L:List Nd) (a0M:Int) (a0N:List UInt8) (a0O:Int) (a0P:List Nd) (a0H:List zRc) (a0G:Int) (y0:Nd) (z0I:Int) (z0J:List UInt8) (z0K:Int) (z0L:List Nd) (z0M:Int) (z0N:List UInt8) (z0O:Int) (z0P:List Nd) (z0H:List zRc) (z0G:Int),zAQ (Nd.mk a0I a0J a0K a0L,Nd.mk a0M a0N a0O a0P,a0H,a0G)=some (y0,(Nd.mk z0I z0J z0K z0L,Nd.mk z0M z0N z0O z0P,z0H,z0G))/\xs=[.op 0 0]/\os=[.box 71 [.s (.int .i64 a0I),.s (.str a0J),.s (.int .i64 a0K),.s (.sl 4 (Nd.encs a0L)),.s (.int .i64 a0M),.s (.str a0N),.s (.int .i64 a0O),.s (.sl 4 (Nd.encs a0P)),.orow 1,.s (.int .i64 a0G)],.row 31 5 ((List.map zAd) a0H)]/\x = .agg ((Nd.enc y0).map .s)/\os'=[some (.box 71 [.s (.int .i64 z0I),.s (.str z0J),.s (.int .i64 z0K),.s (.sl 4 (Nd.encs z0L)),.s (.int .i64 z0M),.s (.str z0N),.s (.int .i64 z0O),.s (.sl 4 (Nd.encs z0P)),.orow 2,.s (.int .i64 z0G)]),none,some (.row 31 5 ((List.map zAd) z0H))]
def zCg:zAE:=zD8 (fun xs os x os'=>zHm xs os x os')
theorem zC0:PSound Tryz.prog 10 zCg:=by
 have gok:∀ f s,look? f [(29,zDe)]=some s->PSound Tryz.prog f s:=zAC (by
  simp only[List.forall_mem_cons]
  exact⟨zDv,by simp⟩)
 refine PSound.withNil (zGT tokW Tryz.call10 Tryz.func10 rfl (fun xs os x os' h=>by obtain⟨_,_,_,_,_,_,_,_,_,_,_,_,_,_,_,_,_,_,_,_,_,_,rfl,rfl,_,rfl⟩:=h; exact⟨by show 1<=11; decide,by show 2<=3; decide⟩) 11 rfl ?_) _;rintro xs os x os' w0 G0 B0 ⟨o1I,o1J,o1K,o1L,o1M,o1N,o1O,o1P,o1H,o1G,y0,z0I,z0J,z0K,z0L,z0M,z0N,z0O,z0P,z0H,z0G,h,rfl,rfl,rfl,rfl⟩ _;rw[zAQ]at h;refine zXL [2] [] rfl ?_;show Tri ..
 refine zAa ?_;refine zXL [] [] rfl ?_;show Tri ..;refine zAN rfl (fun h=>by cases h) (fun _=>?_)
 refine zAn ?_;show Tri ..;refine zXL [] [] rfl ?_;obtain⟨⟨y2A,y2C,y2D,y2B⟩,hy2,h⟩:=zAc h;refine⟨_,⟨_,_,hy2,rfl,rfl⟩,?_⟩
 show Tri ..;refine zAk ?_;have hj0:=Option.some.inj h;obtain⟨hv0,hw0⟩:=Prod.mk.inj hj0;subst hv0;obtain⟨he1T,hr1T⟩:=Prod.mk.inj hw0;obtain⟨he1U,hr1U⟩:=Prod.mk.inj hr1T;obtain⟨he1Y,he1Z⟩:=Prod.mk.inj hr1U;obtain⟨he2T,he2U,he2Y,he2Z⟩:=Nd.mk.inj he1T;subst he2T;subst he2U;subst he2Y;subst he2Z;obtain⟨he3T,he3U,he3Y,he3Z⟩:=Nd.mk.inj he1U;subst he3T;subst he3U;subst he3Y;subst he3Z;subst he1Y;subst he1Z;unfold zB0
 exact⟨_,(Le.rnm [(0,0),(1,2),(2,3)] [(2,.op 3 0)] [(0,.box 71 [.s (.int .i64 o1I),.s (.str o1J),.s (.int .i64 o1K),.s (.sl 4 (Nd.encs o1L)),.s (.int .i64 o1M),.s (.str o1N),.s (.int .i64 o1O),.s (.sl 4 (Nd.encs o1P)),.orow 2,.s (.int .i64 o1G)]),(2,.row 31 5 ((List.map zAd) o1H)),(3,.box 24 [.s (.int .i64 y2A),.s (.str y2C),.s (.int .i64 y2D),.s (.sl 4 (Nd.encs y2B))])] 4 ⟨rfl,trivial⟩ ⟨rfl,⟨_,rfl,rfl⟩,rfl,⟨_,rfl,rfl⟩,rfl,⟨_,rfl,rfl⟩,trivial⟩),rfl,rfl,rfl,rfl,rfl,rfl,trivial⟩
def zHn (n:Nat) (xs:List AV) (os:List Ob) (x:AV) (os':List (Option Ob)):Prop:=∃ (a0I:Int) (a0J:List UInt8) (a0K:Int) (a0L:List Nd) (a0M:Int) (a0N:List UInt8) (a0O:Int) (a0P:List Nd) (a0H:List zRc) (a0G:Int) (y0:zCu) (y1:Int) (z0I:Int) (z0J:List UInt8) (z0K:Int) (z0L:List Nd) (z0M:Int) (z0N:List UInt8) (z0O:Int) (z0P:List Nd) (z0H:List zRc) (z0G:Int),zAU n (Nd.mk a0I a0J a0K a0L,Nd.mk a0M a0N a0O a0P,a0H,a0G)=some (y0,y1,(Nd.mk z0I z0J z0K z0L,Nd.mk z0M z0N z0O z0P,z0H,z0G))/\xs=[.op 0 0]/\os=[.box 71 [.s (.int .i64 a0I),.s (.str a0J),.s (.int .i64 a0K),.s (.sl 4 (Nd.encs a0L)),.s (.int .i64 a0M),.s (.str a0N),.s (.int .i64 a0O),.s (.sl 4 (Nd.encs a0P)),.orow 1,.s (.int .i64 a0G)],.row 31 5 ((List.map zAd) a0H)]/\x = .tup [.agg ((zAp y0).map .s),.s (.int .i64 y1)]/\os'=[some (.box 71 [.s (.int .i64 z0I),.s (.str z0J),.s (.int .i64 z0K),.s (.sl 4 (Nd.encs z0L)),.s (.int .i64 z0M),.s (.str z0N),.s (.int .i64 z0O),.s (.sl 4 (Nd.encs z0P)),.orow 2,.s (.int .i64 z0G)]),none,some (.row 31 5 ((List.map zAd) z0H))]
def zBF:zAE:=zD8 (fun xs os x os'=>∃ n,zHn n xs os x os')
theorem zBZ:PSound Tryz.prog 14 zBF:=by
 have gok:∀ f s,look? f [(34,zHg),(31,zEq),(35,zFr)]=some s->PSound Tryz.prog f s:=zAC (by
  simp only[List.forall_mem_cons]
  exact⟨zJ7,zFj,zGy,by simp⟩)
 refine PSound.withNil (zGT tokW Tryz.call14 Tryz.func14 rfl (fun xs os x os' h=>by obtain⟨n,_,_,_,_,_,_,_,_,_,_,_,_,_,_,_,_,_,_,_,_,_,_,_,rfl,rfl,_,rfl⟩:=h; exact⟨by show 1<=59; decide,by show 2<=3; decide⟩) 59 rfl ?_) _;rintro xs os x os' w0 G0 B0 ⟨n,o1I,o1J,o1K,o1L,o1M,o1N,o1O,o1P,o1H,o1G,y0,y1,z0I,z0J,z0K,z0L,z0M,z0N,z0O,z0P,z0H,z0G,h,rfl,rfl,rfl,rfl⟩ _;rw[zAU]at h;refine zXL [2] [] rfl ?_
 show Tri ..;refine zAa ?_;refine zXL [] [] rfl ?_;show Tri ..;refine zAN rfl (fun h=>by cases h) (fun _=>?_)
 refine zAn ?_;show Tri ..;refine zAa ?_;refine zXL [] [] rfl ?_;show Tri ..;refine zAq rfl h (fun hb h=>?_) (fun hb h=>?_)
 ·refine zXL [] [] rfl ?_;show Tri ..;refine zAk ?_;have hj0:=Option.some.inj h;obtain⟨hv0,hw0⟩:=Prod.mk.inj hj0;subst hv0;obtain⟨hv1,hw1⟩:=Prod.mk.inj hw0;subst hv1;obtain⟨he1T,hr1T⟩:=Prod.mk.inj hw1;obtain⟨he1U,hr1U⟩:=Prod.mk.inj hr1T;obtain⟨he1Y,he1Z⟩:=Prod.mk.inj hr1U;obtain⟨he2T,he2U,he2Y,he2Z⟩:=Nd.mk.inj he1T;subst he2T;subst he2U;subst he2Y;subst he2Z;obtain⟨he3T,he3U,he3Y,he3Z⟩:=Nd.mk.inj he1U;subst he3T;subst he3U;subst he3Y;subst he3Z;subst he1Y;subst he1Z;unfold zB0
  exact⟨_,(Le.rnm [(0,0),(1,2),(2,3)] [(2,.op 3 0),(3,.s (.int .i64 8))] [(0,.box 71 [.s (.int .i64 o1I),.s (.str o1J),.s (.int .i64 o1K),.s (.sl 4 (Nd.encs o1L)),.s (.int .i64 o1M),.s (.str o1N),.s (.int .i64 o1O),.s (.sl 4 (Nd.encs o1P)),.orow 2,.s (.int .i64 o1G)]),(2,.row 31 5 ((List.map zAd) o1H)),(3,.box 29 [.nl 1,.nl 1])] 4 ⟨rfl,rfl,trivial⟩ ⟨rfl,⟨_,rfl,rfl⟩,rfl,⟨_,rfl,rfl⟩,rfl,⟨_,rfl,rfl⟩,trivial⟩),rfl,rfl,rfl,rfl,rfl,rfl,trivial⟩
 ·refine zAn ?_;show Tri ..;refine zAa ?_;refine zC1 [4] [] [3,7,9,10,11,12] [3,7,9,10] rfl (by decide +kernel) ?_;obtain⟨⟨e2Aa,⟨e2Ac,e2Ad⟩,⟨e2Ae,e2Af⟩⟩,he2,h⟩:=zAc h;refine And.intro (zAD (fun _=>rfl) he2).1 ?_;refine And.intro (zAD (fun _=>rfl) he2).2.2 ?_;refine⟨_,(zAD (fun _=>rfl) he2).2.1,?_⟩
  show Tri ..;refine zAs (Le.giveBox 3 [.sl 8 ((List.map zAl) e2Aa),.sl 1 ((List.map (irow .i64)) e2Ac),.sl 1 ((List.map (irow .i64)) e2Ad),.sl 1 ((List.map (irow .i64)) e2Ae),.sl 1 ((List.map (irow .i64)) e2Af)] rfl rfl) ?_;refine zAa ?_;refine zC1 [5] [] [3,12,13] [3] rfl (by decide +kernel) ?_;obtain⟨y3,hy3,h⟩:=zAc h;refine⟨_,⟨_,_,_,hy3,rfl,rfl⟩,?_⟩
  obtain⟨⟨⟨y4A,y4C,y4D,y4B⟩,y5,y6⟩,hy4,h⟩:=zAc h;refine⟨_,⟨_,_,_,_,_,_,hy4,rfl,rfl⟩,?_⟩
  show Tri ..;refine zAs (Le.giveBox 4 [.int .i64 y4A,.str y4C,.int .i64 y4D,.sl 4 (Nd.encs y4B)] rfl rfl) ?_;refine zAa ?_;refine zXL [] [] rfl ?_;show Tri ..;refine zAq rfl h (fun hb h=>?_) (fun hb h=>?_)
  ·refine zXL [] [] rfl ?_;show Tri ..;refine zAk ?_;have hj0:=Option.some.inj h;obtain⟨hv0,hw0⟩:=Prod.mk.inj hj0;subst hv0;obtain⟨hv1,hw1⟩:=Prod.mk.inj hw0;subst hv1;obtain⟨he1T,hr1T⟩:=Prod.mk.inj hw1;obtain⟨he1U,hr1U⟩:=Prod.mk.inj hr1T;obtain⟨he1Y,he1Z⟩:=Prod.mk.inj hr1U;obtain⟨he2T,he2U,he2Y,he2Z⟩:=Nd.mk.inj he1T;subst he2T;subst he2U;subst he2Y;subst he2Z;obtain⟨he3T,he3U,he3Y,he3Z⟩:=Nd.mk.inj he1U;subst he3T;subst he3U;subst he3Y;subst he3Z;subst he1Y;subst he1Z;unfold zB0
   exact⟨_,(Le.rnm [(0,0),(1,2),(2,3)] [(2,.op 3 0),(3,.s (.int .i64 y6))] [(0,.box 71 [.s (.int .i64 o1I),.s (.str o1J),.s (.int .i64 o1K),.s (.sl 4 (Nd.encs o1L)),.s (.int .i64 o1M),.s (.str o1N),.s (.int .i64 o1O),.s (.sl 4 (Nd.encs o1P)),.orow 2,.s (.int .i64 o1G)]),(2,.row 31 5 ((List.map zAd) o1H)),(3,.box 29 [.nl 1,.nl 1])] 4 ⟨rfl,rfl,trivial⟩ ⟨rfl,⟨_,rfl,rfl⟩,rfl,⟨_,rfl,rfl⟩,rfl,⟨_,rfl,rfl⟩,trivial⟩),rfl,rfl,rfl,rfl,rfl,rfl,trivial⟩
  ·refine zAn ?_;show Tri ..;refine zAa ?_;refine zAO [] [] [6,10,13] rfl (by decide +kernel) ?_;show Tri ..;refine zXL [] [] rfl ?_;obtain⟨⟨y7Q,y7V⟩,hy7,h⟩:=zAc h;refine⟨_,⟨_,_,hy7,rfl,rfl⟩,?_⟩
   show Tri ..;refine zAk ?_;have hj0:=Option.some.inj h;obtain⟨hv0,hw0⟩:=Prod.mk.inj hj0;subst hv0;obtain⟨hv1,hw1⟩:=Prod.mk.inj hw0;subst hv1;obtain⟨he1T,hr1T⟩:=Prod.mk.inj hw1;obtain⟨he1U,hr1U⟩:=Prod.mk.inj hr1T;obtain⟨he1Y,he1Z⟩:=Prod.mk.inj hr1U;obtain⟨he2T,he2U,he2Y,he2Z⟩:=Nd.mk.inj he1T;subst he2T;subst he2U;subst he2Y;subst he2Z;obtain⟨he3T,he3U,he3Y,he3Z⟩:=Nd.mk.inj he1U;subst he3T;subst he3U;subst he3Y;subst he3Z;subst he1Y;subst he1Z;unfold zB0
   exact⟨_,(Le.rnm [(0,0),(1,2),(2,3)] [(2,.op 3 0),(3,.s (.int .i64 0))] [(0,.box 71 [.s (.int .i64 o1I),.s (.str o1J),.s (.int .i64 o1K),.s (.sl 4 (Nd.encs o1L)),.s (.int .i64 y4A),.s (.str y4C),.s (.int .i64 y4D),.s (.sl 4 (Nd.encs y4B)),.orow 2,.s (.int .i64 (IntKind.i64.wrap (o1G - 1)))]),(2,.row 31 5 ((List.map zAd) o1H)),(3,.box 29 [.s (.sl 1 ((List.map (irow .i64)) y7Q)),.s (.sl 1 ((List.map (irow .i64)) y7V))])] 4 ⟨rfl,rfl,trivial⟩ ⟨rfl,⟨_,rfl,rfl⟩,rfl,⟨_,rfl,rfl⟩,rfl,⟨_,rfl,rfl⟩,trivial⟩),rfl,rfl,rfl,rfl,rfl,rfl,trivial⟩
def zJf (n:Nat) (xs:List AV) (os:List Ob) (x:AV) (os':List (Option Ob)):Prop:=∃ (a0:List zRc) (y0:List zRc),zEs n a0=some y0/\xs=[.orow 0]/\os=[.row 31 5 ((List.map zAd) a0)]/\x = .orow 1/\os'=[some (.row 31 5 ((List.map zAd) a0)),some (.row 31 5 ((List.map zAd) y0))]
def zGe:zAE:=zD8 (fun xs os x os'=>∃ n,zJf n xs os x os')
theorem zI6:PSound Tryz.prog 37 zGe:=by
 have gok:∀ f s,look? f [(32,zG0)]=some s->PSound Tryz.prog f s:=zAC (by
  simp only[List.forall_mem_cons]
  exact⟨zIJ,by simp⟩)
 refine PSound.withNil (zGT tokW Tryz.call37 Tryz.func37 rfl (fun xs os x os' h=>by obtain⟨n,_,_,_,rfl,rfl,_,rfl⟩:=h; exact⟨by show 1<=19; decide,by show 1<=2; decide⟩) 19 rfl ?_) _;rintro xs os x os' w0 G0 B0 ⟨n,o1,y0,h,rfl,rfl,rfl,rfl⟩ _;rw[zEs]at h;refine zXL [2] [] rfl ?_;show Tri ..;refine zAs (Le.rnm [(0,0)] [(0,.orow 0)] [(0,.row 31 5 ((List.map zAd) o1))] 1 ⟨rfl,trivial⟩ ⟨rfl,⟨_,rfl,rfl⟩,trivial⟩) ?_;refine zXL [3] [] rfl ?_;show Tri ..
 refine zAs (Le.rnm [(0,0),(1,1)] [(0,.orow 0),(3,.orow 1)] [(0,.row 31 5 ((List.map zAd) o1)),(1,.row 31 5 ((List.map zAd) []))] 2 ⟨rfl,rfl,trivial⟩ ⟨rfl,⟨_,rfl,rfl⟩,rfl,⟨_,rfl,congrArg (Ob.row 31 5) (by simp[List.map_append,List.map_take,List.map_drop,irow,brow,zAB,List.map_cons,List.map_nil,zAy,Nd.encs_eq,Nd.enc,zAi,zAh,zAv,zAo,zAj,zAl,zAd,zAg,zAp])⟩,trivial⟩) ?_;refine zAa ?_;refine zXL [] [7] rfl ?_;intro n2 hn2
 obtain rfl:(o1.length:Int)=n2:=(hn2.trans (congrArg (fun m:Nat=>(m:Int)) (rlen (fun _=>rfl) o1))).symm;show Tri ..;obtain⟨l6,hl,h⟩:=zAc h;refine zAz ⟨ofL [(3,.orow 1)],ofH [(0,.row 31 5 ((List.map zAd) o1)),(1,.row 31 5 ((List.map zAd) l6))],2⟩ ?_ (fun σ' hle=>?_)
 ·refine zAw (zAL (X:=Nat×Int×(List zRc)) (fun y=>match y with | (k,x4,l5)=>⟨ofL [(3,.orow 1),(6,.orow 0),(7,.s (.int .i64 (o1.length:Int))),(8,.s (.int .i64 x4))],ofH [(0,.row 31 5 ((List.map zAd) o1)),(1,.row 31 5 ((List.map zAd) l5))],2⟩) (fun y=>zBL n o1 y.1 y.2.1 y.2.2=some l6) (fun y=>y.1) (n,0,[]) hl ?_ ?_)
  ·exact(Le.rnm [(0,0),(1,1)] _ _ _ ⟨rfl,rfl,rfl,rfl,trivial⟩ ⟨rfl,⟨_,rfl,rfl⟩,rfl,⟨_,rfl,rfl⟩,trivial⟩)
  ·rintro⟨k,x4,l5⟩ h;cases k with
   | zero=>cases h
   | succ k =>
    replace h:zBL n o1 (k+1) x4 l5=some l6:=h;rw[zBL]at h;refine zXL [] [] rfl ?_;show Tri ..;refine zAa ?_;refine zAq rfl h (fun hb h=>?_) (fun hb h=>?_)
    ·refine zAn ?_;show Tri ..;refine zAa ?_;refine zAw ?_;refine zXL [5] [] rfl ?_;obtain⟨⟨e7Aa,⟨e7Ac,e7Ad⟩,⟨e7Ae,e7Af⟩⟩,he7,h⟩:=zAc h;refine And.intro (zAD (fun _=>rfl) he7).1 ?_;refine And.intro (zAD (fun _=>rfl) he7).2.2 ?_;refine⟨_,(zAD (fun _=>rfl) he7).2.1,?_⟩
     show Tri ..;refine zAs (Le.giveBox 2 [.sl 8 ((List.map zAl) e7Aa),.sl 1 ((List.map (irow .i64)) e7Ac),.sl 1 ((List.map (irow .i64)) e7Ad),.sl 1 ((List.map (irow .i64)) e7Ae),.sl 1 ((List.map (irow .i64)) e7Af)] rfl rfl) ?_;refine zAb [16] [15] rfl ?_;obtain⟨⟨y8Aa,⟨y8Ac,y8Ad⟩,⟨y8Ae,y8Af⟩⟩,hy8,h⟩:=zAc h;refine⟨_,⟨_,_,_,hy8,rfl,rfl⟩,?_⟩
     intro r9 hr9;obtain rfl:(List.map zAd) [(y8Aa,(y8Ac,y8Ad),(y8Ae,y8Af))]=r9:=(hr9.trans (by simp[List.map_append,List.map_take,List.map_drop,irow,brow,zAB,List.map_cons,List.map_nil,zAy,Nd.encs_eq,Nd.enc,zAi,zAh,zAv,zAo,zAj,zAl,zAd,zAg,zAp])).symm;obtain⟨hq,h⟩:=zAJ h
     refine And.intro (show(((List.map zAd) l5).length+((List.map zAd) [(y8Aa,(y8Ac,y8Ad),(y8Ae,y8Af))]).length) * 120<=140737488355328/\((List.map zAd) l5).length+((List.map zAd) [(y8Aa,(y8Ac,y8Ad),(y8Ae,y8Af))]).length<=9223372036854775807 from by simp only[List.length_append,List.length_cons,List.length_nil,List.length_map,rlen (fun _=>rfl)]at hq ⊢; omega) ?_;show Tri ..
     refine zAs (Le.rnm [(0,0),(3,1)] [(3,.orow 1),(6,.orow 0),(7,.s (.int .i64 (o1.length:Int))),(8,.s (.int .i64 x4))] [(0,.row 31 5 ((List.map zAd) o1)),(1,.row 31 5 ((List.map zAd) (l5++[(y8Aa,(y8Ac,y8Ad),(y8Ae,y8Af))])))] 2 ⟨rfl,rfl,rfl,rfl,trivial⟩ ⟨rfl,⟨_,rfl,rfl⟩,rfl,⟨_,rfl,congrArg (Ob.row 31 5) (by simp[List.map_append,List.map_take,List.map_drop,irow,brow,zAB,List.map_cons,List.map_nil,zAy,Nd.encs_eq,Nd.enc,zAi,zAh,zAv,zAo,zAj,zAl,zAd,zAg,zAp])⟩,trivial⟩) ?_
     refine zAb [] [] rfl ?_;refine⟨(k,IntKind.i64.wrap (x4+1),l5++[(y8Aa,(y8Ac,y8Ad),(y8Ae,y8Af))]),h,(Le.rnm [(0,0),(1,1)] _ _ _ ⟨rfl,rfl,rfl,rfl,trivial⟩ ⟨rfl,⟨_,rfl,rfl⟩,rfl,⟨_,rfl,rfl⟩,trivial⟩),Nat.lt_succ_self k⟩
    ·refine zAP ?_;cases h;exact(Le.rnm [(0,0),(1,1)] _ _ _ ⟨rfl,trivial⟩ ⟨rfl,⟨_,rfl,rfl⟩,rfl,⟨_,rfl,rfl⟩,trivial⟩)
 ·show Tri ..;refine zAs hle ?_;refine zXL [] [] rfl ?_;show Tri ..;refine zAk ?_;have hy:=Option.some.inj h;subst hy;unfold zB0;exact⟨_,(Le.rnm [(0,0),(1,1)] [(2,.orow 1)] [(0,.row 31 5 ((List.map zAd) o1)),(1,.row 31 5 ((List.map zAd) l6))] 2 ⟨rfl,trivial⟩ ⟨rfl,⟨_,rfl,rfl⟩,rfl,⟨_,rfl,rfl⟩,trivial⟩),rfl,rfl,rfl,rfl,rfl,rfl,trivial⟩
def zGq (n:Nat) (xs:List AV) (os:List Ob) (x:AV) (os':List (Option Ob)):Prop:=∃ (a0I:Int) (a0J:List UInt8) (a0K:Int) (a0L:List Nd) (a0M:Int) (a0N:List UInt8) (a0O:Int) (a0P:List Nd) (a0H:List zRc) (a0G:Int) (y0:List zRc) (z0I:Int) (z0J:List UInt8) (z0K:Int) (z0L:List Nd) (z0M:Int) (z0N:List UInt8) (z0O:Int) (z0P:List Nd) (z0H:List zRc) (z0G:Int),zCy n (Nd.mk a0I a0J a0K a0L,Nd.mk a0M a0N a0O a0P,a0H,a0G)=some (y0,(Nd.mk z0I z0J z0K z0L,Nd.mk z0M z0N z0O z0P,z0H,z0G))/\xs=[.op 0 0]/\os=[.box 71 [.s (.int .i64 a0I),.s (.str a0J),.s (.int .i64 a0K),.s (.sl 4 (Nd.encs a0L)),.s (.int .i64 a0M),.s (.str a0N),.s (.int .i64 a0O),.s (.sl 4 (Nd.encs a0P)),.orow 1,.s (.int .i64 a0G)],.row 31 5 ((List.map zAd) a0H)]/\x = .s (.sl 5 ((List.map zAd) y0))/\os'=[some (.box 71 [.s (.int .i64 z0I),.s (.str z0J),.s (.int .i64 z0K),.s (.sl 4 (Nd.encs z0L)),.s (.int .i64 z0M),.s (.str z0N),.s (.int .i64 z0O),.s (.sl 4 (Nd.encs z0P)),.orow 2,.s (.int .i64 z0G)]),none,some (.row 31 5 ((List.map zAd) z0H))]
def zDV:zAE:=zD8 (fun xs os x os'=>∃ n,zGq n xs os x os')
theorem zGd:PSound Tryz.prog 17 zDV:=by
 have gok:∀ f s,look? f [(37,zGe)]=some s->PSound Tryz.prog f s:=zAC (by
  simp only[List.forall_mem_cons]
  exact⟨zI6,by simp⟩)
 refine PSound.withNil (zGT tokW Tryz.call17 Tryz.func17 rfl (fun xs os x os' h=>by obtain⟨n,_,_,_,_,_,_,_,_,_,_,_,_,_,_,_,_,_,_,_,_,_,_,rfl,rfl,_,rfl⟩:=h; exact⟨by show 1<=10; decide,by show 2<=3; decide⟩) 10 rfl ?_) _;rintro xs os x os' w0 G0 B0 ⟨n,o1I,o1J,o1K,o1L,o1M,o1N,o1O,o1P,o1H,o1G,y0,z0I,z0J,z0K,z0L,z0M,z0N,z0O,z0P,z0H,z0G,h,rfl,rfl,rfl,rfl⟩ _;rw[zCy]at h;refine zXL [] [] rfl ?_;show Tri ..
 refine zAa ?_;refine zXL [] [] rfl ?_;show Tri ..;refine zAN rfl (fun h=>by cases h) (fun _=>?_)
 refine zAn ?_;show Tri ..;refine zXL [] [] rfl ?_;obtain⟨y2,hy2,h⟩:=zAc h;refine⟨_,_,⟨_,_,_,hy2,rfl,rfl,rfl,rfl⟩,?_⟩
 show Tri ..;refine zAk ?_;have hj0:=Option.some.inj h;obtain⟨hv0,hw0⟩:=Prod.mk.inj hj0;subst hv0;obtain⟨he1T,hr1T⟩:=Prod.mk.inj hw0;obtain⟨he1U,hr1U⟩:=Prod.mk.inj hr1T;obtain⟨he1Y,he1Z⟩:=Prod.mk.inj hr1U;obtain⟨he2T,he2U,he2Y,he2Z⟩:=Nd.mk.inj he1T;subst he2T;subst he2U;subst he2Y;subst he2Z;obtain⟨he3T,he3U,he3Y,he3Z⟩:=Nd.mk.inj he1U;subst he3T;subst he3U;subst he3Y;subst he3Z;subst he1Y;subst he1Z;unfold zB0
 exact⟨_,(Le.trans (Le.rnm [(0,0),(1,2),(2,3)] [(2,.orow 3)] [(0,.box 71 [.s (.int .i64 o1I),.s (.str o1J),.s (.int .i64 o1K),.s (.sl 4 (Nd.encs o1L)),.s (.int .i64 o1M),.s (.str o1N),.s (.int .i64 o1O),.s (.sl 4 (Nd.encs o1P)),.orow 2,.s (.int .i64 o1G)]),(2,.row 31 5 ((List.map zAd) o1H)),(3,.row 31 5 ((List.map zAd) y2))] 4 ⟨rfl,trivial⟩ ⟨rfl,⟨_,rfl,rfl⟩,rfl,⟨_,rfl,rfl⟩,rfl,⟨_,rfl,rfl⟩,trivial⟩) (Le.giveRow 3 rfl)),rfl,rfl,rfl,rfl,rfl,rfl,trivial⟩
def zRe (n:Nat) (xs:List AV) (r:Ret):Prop:=∃ (y0:Bool),zEJ n=some y0/\xs=[]/\r = .val (.s (.bool y0))
def zLw:zAE:=zAF fun xs r=>∃ n,zRe n xs r
theorem zQz:PSound Tryz.prog 7 zLw:=by
 have gok:∀ f s,look? f [(20,zG1),(12,zDS),(10,zCg),(14,zBF),(17,zDV)]=some s->PSound Tryz.prog f s:=zAC (by
  simp only[List.forall_mem_cons]
  exact⟨zIK,zFg,zC0,zBZ,zGd,by simp⟩)
 refine zAG tokW Tryz.call7 Tryz.func7 rfl (fun xs r h=>by obtain⟨n,_,_,rfl,_⟩:=h; show 0<=57; decide) 57 rfl ?_;rintro xs r w0 G0 ⟨n,y0,h,rfl,rfl⟩ _;rw[zEJ]at h;refine zXL [] [] rfl ?_;show Tri ..;refine zXL [] [] rfl ?_;obtain⟨⟨y1,y2⟩,hy1,h⟩:=zAc h;cases y1 with
 | none =>
  obtain⟨hq,h⟩:=zAJ h;subst hq;refine⟨_,_,⟨_,_,_,_,hy1,rfl,rfl,rfl,rfl⟩,?_⟩
  show Tri ..;refine zAs (Le.rnm [] [(1,.s (.np)),(2,.s (.int .i64 1))] [] 0 ⟨rfl,rfl,trivial⟩ trivial) ?_;refine zAa ?_;refine zXL [] [] rfl ?_;show Tri ..;refine zAN rfl (fun _=>?_) (fun h=>by cases h)
  refine zXL [] [] rfl ?_;show Tri ..;refine zAk ?_;have hy:=Option.some.inj h;subst hy;unfold zAA;exact⟨_,Le.refl _ _,rfl,rfl⟩
 | some w3 =>
  obtain⟨⟨w3I,w3J,w3K,w3L⟩,⟨w3M,w3N,w3O,w3P⟩,w3H,w3G⟩:=w3;obtain⟨hq,h⟩:=zAJ h;subst hq;refine⟨_,_,⟨_,_,_,_,hy1,rfl,rfl,rfl,rfl⟩,?_⟩
  show Tri ..;refine zAs (Le.rnm [(0,0),(1,1)] [(1,.op 0 0),(2,.s (.int .i64 0))] [(0,.box 71 [.s (.int .i64 w3I),.s (.str w3J),.s (.int .i64 w3K),.s (.sl 4 (Nd.encs w3L)),.s (.int .i64 w3M),.s (.str w3N),.s (.int .i64 w3O),.s (.sl 4 (Nd.encs w3P)),.orow 1,.s (.int .i64 w3G)]),(1,.row 31 5 ((List.map zAd) w3H))] 2 ⟨rfl,rfl,trivial⟩ ⟨rfl,⟨_,rfl,rfl⟩,rfl,⟨_,rfl,rfl⟩,trivial⟩) ?_;refine zAa ?_;refine zXL [] [] rfl ?_;show Tri ..;refine zAN rfl (fun h=>by cases h) (fun _=>?_)
  refine zAn ?_;show Tri ..;refine zXL [] [20,22] rfl ?_;intro r4 hr4;obtain rfl:Nd.encs [Nd.mk 2 [120] 0 []]=r4:=(hr4.trans (by simp[List.map_append,List.map_take,List.map_drop,irow,brow,zAB,List.map_cons,List.map_nil,zAy,Nd.encs_eq,Nd.enc,zAi,zAh,zAv,zAo,zAj,zAl,zAd,zAg,zAp])).symm;intro r5 hr5
  obtain rfl:(List.map zAl) [(1,[],0,0,[Nd.mk 2 [120] 0 []],0,[],[])]=r5:=(hr5.trans (by simp[List.map_append,List.map_take,List.map_drop,irow,brow,zAB,List.map_cons,List.map_nil,zAy,Nd.encs_eq,Nd.enc,zAi,zAh,zAv,zAo,zAj,zAl,zAd,zAg,zAp])).symm;obtain⟨⟨y6,⟨⟨w7I,w7J,w7K,w7L⟩,⟨w7M,w7N,w7O,w7P⟩,w7H,w7G⟩⟩,hy6,h⟩:=zAc h;refine⟨_,_,⟨_,_,_,_,_,_,_,_,_,_,_,_,_,_,_,_,_,_,_,_,_,_,_,hy6,rfl,rfl,rfl,rfl⟩,?_⟩
  show Tri ..;refine zAs (Le.rnm [(0,0),(2,1)] [(1,.op 0 0),(3,.s (.int .i64 y6))] [(0,.box 71 [.s (.int .i64 w7I),.s (.str w7J),.s (.int .i64 w7K),.s (.sl 4 (Nd.encs w7L)),.s (.int .i64 w7M),.s (.str w7N),.s (.int .i64 w7O),.s (.sl 4 (Nd.encs w7P)),.orow 1,.s (.int .i64 w7G)]),(1,.row 31 5 ((List.map zAd) w7H))] 2 ⟨rfl,rfl,trivial⟩ ⟨rfl,⟨_,rfl,rfl⟩,rfl,⟨_,rfl,rfl⟩,trivial⟩) ?_;refine zXL [] [28] rfl ?_
  obtain⟨⟨⟨y8A,y8C,y8D,y8B⟩,⟨⟨w9I,w9J,w9K,w9L⟩,⟨w9M,w9N,w9O,w9P⟩,w9H,w9G⟩⟩,hy8,h⟩:=zAc h;refine⟨_,_,⟨_,_,_,_,_,_,_,_,_,_,_,_,_,_,_,_,_,_,_,_,_,hy8,rfl,rfl,rfl,rfl⟩,?_⟩
  intro n10 hn10;obtain rfl:(y8B.length:Int)=n10:=(hn10.trans (congrArg (fun m:Nat=>(m:Int)) (rlen Nd.encs_eq y8B))).symm;show Tri ..
  refine zAs (Le.rnm [(0,0),(2,1)] [(1,.op 0 0),(3,.s (.int .i64 y6)),(4,.s (.int .i64 (y8B.length:Int)))] [(0,.box 71 [.s (.int .i64 w9I),.s (.str w9J),.s (.int .i64 w9K),.s (.sl 4 (Nd.encs w9L)),.s (.int .i64 w9M),.s (.str w9N),.s (.int .i64 w9O),.s (.sl 4 (Nd.encs w9P)),.orow 1,.s (.int .i64 w9G)]),(1,.row 31 5 ((List.map zAd) w9H))] 2 ⟨rfl,rfl,rfl,trivial⟩ ⟨rfl,⟨_,rfl,rfl⟩,rfl,⟨_,rfl,rfl⟩,trivial⟩) ?_;refine zXL [5] [] rfl ?_
  obtain⟨⟨⟨y11Q,y11V⟩,y12,⟨⟨w13I,w13J,w13K,w13L⟩,⟨w13M,w13N,w13O,w13P⟩,w13H,w13G⟩⟩,hy11,h⟩:=zAc h;refine⟨_,_,⟨_,_,_,_,_,_,_,_,_,_,_,_,_,_,_,_,_,_,_,_,_,_,_,hy11,rfl,rfl,rfl,rfl⟩,?_⟩
  show Tri ..;refine zAs (Le.giveBox 3 [.sl 1 ((List.map (irow .i64)) y11Q),.sl 1 ((List.map (irow .i64)) y11V)] rfl rfl) ?_;refine zAa ?_;obtain⟨x14,hj,h⟩:=zAc h;refine zAz ⟨ofL [(0,.s (.bool x14))],fun _=>none,0⟩ ?_ (fun σ' hle=>?_)
  ·replace h:=hj;refine zAb [] [36,40,44,48,51,54] rfl ?_;intro b hb;cases b with
   | true =>
    replace h:=zAI hb.symm h;intro b hb;cases b with
    | true =>
     replace h:=zAI hb.symm h;intro b hb;cases b with
     | true =>
      replace h:=zAI hb.symm h;obtain⟨⟨⟨y15A,y15C,y15D,y15B⟩,⟨⟨w16I,w16J,w16K,w16L⟩,⟨w16M,w16N,w16O,w16P⟩,w16H,w16G⟩⟩,hy15,h⟩:=zAc h;refine⟨_,_,⟨_,_,_,_,_,_,_,_,_,_,_,_,_,_,_,_,_,_,_,_,_,hy15,rfl,rfl,rfl,rfl⟩,?_⟩
      intro n17 hn17;obtain rfl:(y15B.length:Int)=n17:=(hn17.trans (congrArg (fun m:Nat=>(m:Int)) (rlen Nd.encs_eq y15B))).symm;intro b hb;cases b with
      | true =>
       replace h:=zAI hb.symm h;obtain⟨⟨y18,⟨⟨w19I,w19J,w19K,w19L⟩,⟨w19M,w19N,w19O,w19P⟩,w19H,w19G⟩⟩,hy18,h⟩:=zAc h;refine⟨_,_,⟨_,_,_,_,_,_,_,_,_,_,_,_,_,_,_,_,_,_,_,_,_,_,hy18,rfl,rfl,rfl,rfl⟩,?_⟩
       intro n20 hn20;obtain rfl:(y18.length:Int)=n20:=(hn20.trans (congrArg (fun m:Nat=>(m:Int)) (rlen (fun _=>rfl) y18))).symm;cases h;exact(Le.rnm [] _ [] 0 ⟨rfl,trivial⟩ trivial)
      | false =>
       replace h:=zAH hb.symm h;cases h;exact(Le.rnm [] _ [] 0 ⟨rfl,trivial⟩ trivial)
     | false =>
      replace h:=zAH hb.symm h;intro b hb;subst hb;cases h;exact(Le.rnm [] _ [] 0 ⟨rfl,trivial⟩ trivial)
    | false =>
     replace h:=zAH hb.symm h;intro b hb;subst hb;intro b hb;subst hb;cases h;exact(Le.rnm [] _ [] 0 ⟨rfl,trivial⟩ trivial)
   | false =>
    replace h:=zAH hb.symm h;intro b hb;subst hb;intro b hb;subst hb;intro b hb;subst hb;cases h;exact(Le.rnm [] _ [] 0 ⟨rfl,trivial⟩ trivial)
  ·show Tri ..;refine zAs hle ?_;refine zAk ?_;have hy:=Option.some.inj h;subst hy;unfold zAA;exact⟨_,Le.refl _ _,rfl,rfl⟩
def zRi (xs:List AV) (r:Ret):Prop:=∃ (a0:List Nd) (y0:Nd),zBd a0=some y0/\xs=[.s (.sl 4 (Nd.encs a0))]/\r = .val (.agg ((Nd.enc y0).map .s))
def zCO:zAE:=zAF fun xs r=>zRi xs r
theorem zCN:PSound Tryz.prog 48 zCO:=by
 have gok:=@gok0 Tryz.prog;refine zAG tokW Tryz.call48 Tryz.func48 rfl (fun xs r h=>by obtain⟨_,_,_,rfl,_⟩:=h; show 1<=5; decide) 5 rfl ?_;rintro xs r w0 G0 ⟨l1,y0,h,rfl,rfl⟩ _;rw[zBd]at h;refine zXL [2] [] rfl ?_;show Tri ..;refine zXL [] [] rfl ?_;show Tri ..;refine zAk ?_;have hy:=Option.some.inj h;subst hy;unfold zAA;exact⟨_,Le.refl _ _,rfl,rfl⟩
def zGF (n:Nat) (xs:List AV) (r:Ret):Prop:=∃ (a0:Nd) (a1:Int) (y0:Int),zDJ n a0 a1=some y0/\xs=[.agg ((Nd.enc a0).map .s),.s (.int .i64 a1)]/\r = .val (.s (.int .i64 y0))
theorem zPg (n:Nat) (ih:PSound Tryz.prog 49 (zAF (zGF n))):PSound Tryz.prog 49 (zAF (zGF (n+1))):=by
 have gok:∀ f s,look? f [(49,zAF (zGF n))]=some s->PSound Tryz.prog f s:=zAC (by
  simp only[List.forall_mem_cons]
  exact⟨ih,by simp⟩)
 refine zAG tokW Tryz.call49 Tryz.func49 rfl (fun xs r h=>by obtain⟨_,_,_,_,rfl,_⟩:=h; show 2<=27; decide) 27 rfl ?_;rintro xs r w0 G0 ⟨⟨n1A,n1C,n1D,n1B⟩,most2,y0,h,rfl,rfl⟩ _;rw[zDJ]at h;refine zXL [] [] rfl ?_;show Tri ..;refine zXL [] [] rfl ?_;show Tri ..;refine zAa ?_;refine zXL [] [] rfl ?_;show Tri ..;obtain⟨most5,hl,h⟩:=zAc h;refine zAz ⟨ofL [(1,.s (.int .i64 most5))],fun _=>none,0⟩ ?_ (fun σ' hle=>?_)
 ·refine zAw (zAL (X:=Nat×Int×Int) (fun y=>match y with | (k,most3,i4)=>⟨ofL [(1,.s (.int .i64 most3)),(2,.s (.pt [.int .i64 n1A,.str n1C,.int .i64 n1D,.sl 4 (Nd.encs n1B)])),(5,.s (.int .i64 i4))],fun _=>none,0⟩) (fun y=>zCp (zDJ n) n1B y.1 y.2.1 y.2.2=some most5) (fun y=>y.1) (n,IntKind.i64.wrap (most2 - 1),0) hl ?_ ?_)
  ·exact(Le.forget _ ⟨rfl,rfl,rfl,trivial⟩)
  ·rintro⟨k,most3,i4⟩ h;cases k with
   | zero=>cases h
   | succ k =>
    replace h:zCp (zDJ n) n1B (k+1) most3 i4=some most5:=h;rw[zCp]at h;refine zAa ?_;refine zAa ?_;obtain⟨x6,hj,h⟩:=zAc h;refine zAz ⟨ofL [(1,.s (.int .i64 most3)),(2,.s (.pt [.int .i64 n1A,.str n1C,.int .i64 n1D,.sl 4 (Nd.encs n1B)])),(5,.s (.int .i64 i4)),(16,.s (.bool x6))],fun _=>none,0⟩ ?_ (fun σ' hle=>?_)
    ·replace h:=hj;refine zAb [] [11,13] rfl ?_;intro n7 hn7;obtain rfl:(n1B.length:Int)=n7:=(hn7.trans (congrArg (fun m:Nat=>(m:Int)) (rlen Nd.encs_eq n1B))).symm;intro b hb;cases b with
     | true =>
      replace h:=zAI hb.symm h;cases h;exact(Le.forget _ ⟨rfl,rfl,rfl,rfl,trivial⟩)
     | false =>
      replace h:=zAH hb.symm h;cases h;exact(Le.forget _ ⟨rfl,rfl,rfl,rfl,trivial⟩)
    ·show Tri ..;refine zAs hle ?_;refine zAq rfl h (fun hb h=>?_) (fun hb h=>?_)
     ·refine zAn ?_;show Tri ..;refine zAa ?_;refine zAw ?_;refine zAb [] [22] rfl ?_;obtain⟨⟨e8A,e8C,e8D,e8B⟩,he8,h⟩:=zAc h;refine And.intro (zAD Nd.encs_eq he8).1 ?_;intro r9 hr9;obtain rfl:[.int .i64 e8A,.str e8C,.int .i64 e8D,.sl 4 (Nd.encs e8B)]=r9:=(hr9.trans (zAD Nd.encs_eq he8).2.1).symm;obtain⟨y10,hy10,h⟩:=zAc h;refine⟨_,⟨_,_,_,hy10,rfl,rfl⟩,?_⟩
      show Tri ..;refine zAb [] [] rfl ?_;refine⟨(k,y10,IntKind.i64.wrap (i4+1)),h,(Le.forget _ ⟨rfl,rfl,rfl,trivial⟩),Nat.lt_succ_self k⟩
     ·refine zAP ?_;cases h;exact(Le.forget _ ⟨rfl,trivial⟩)
 ·show Tri ..;refine zAs hle ?_;refine zXL [] [] rfl ?_;show Tri ..;refine zAk ?_;have hy:=Option.some.inj h;subst hy;unfold zAA;exact⟨_,Le.refl _ _,rfl,rfl⟩
theorem zPZ:∀ n,PSound Tryz.prog 49 (zAF (zGF n)):=by
 intro n
 induction n with
 | zero=>exact zCC Tryz.call49 (fun xs r h=>by obtain⟨_,_,_,h,_⟩:=h; cases h)
 | succ n ih=>exact zPg n ih
def zNj:zAE:=zAF fun xs r=>∃ n,zGF n xs r
theorem zRS:PSound Tryz.prog 49 zNj:=zC9 zPZ
def zTZ (n:Nat) (xs:List AV) (r:Ret):Prop:=∃ (a0:Nd) (a1:Int) (y0:Bool),zFY n a0 a1=some y0/\xs=[.agg ((Nd.enc a0).map .s),.s (.int .i64 a1)]/\r = .val (.s (.bool y0))
def zJp:zAE:=zAF fun xs r=>∃ n,zTZ n xs r
theorem zKa:PSound Tryz.prog 28 zJp:=by
 have gok:∀ f s,look? f [(49,zNj)]=some s->PSound Tryz.prog f s:=zAC (by
  simp only[List.forall_mem_cons]
  exact⟨zRS,by simp⟩)
 refine zAG tokW Tryz.call28 Tryz.func28 rfl (fun xs r h=>by obtain⟨n,_,_,_,_,rfl,_⟩:=h; show 2<=9; decide) 9 rfl ?_;rintro xs r w0 G0 ⟨n,⟨n1A,n1C,n1D,n1B⟩,most2,y0,h,rfl,rfl⟩ _;rw[zFY]at h;refine zXL [] [] rfl ?_;show Tri ..;refine zXL [] [] rfl ?_;obtain⟨y3,hy3,h⟩:=zAc h;refine⟨_,⟨_,_,_,_,hy3,rfl,rfl⟩,?_⟩
 show Tri ..;refine zAk ?_;have hy:=Option.some.inj h;subst hy;unfold zAA;exact⟨_,Le.refl _ _,rfl,rfl⟩
def zAf (p:(Int×List Nd×Int×List UInt8×Bool)):List S:=[.int .i64 p.1,.sl 4 (Nd.encs p.2.1),.int .i64 p.2.2.1,.str p.2.2.2.1,.bool p.2.2.2.2]
def zT5 (n:Nat) (xs:List AV) (r:Ret):Prop:=∃ (a0:(Int×List Nd×Int×List UInt8×Bool)) (y0:Bool),zHS n a0=some y0/\xs=[.agg ((zAf a0).map .s)]/\r = .val (.s (.bool y0))
def zPS:zAE:=zAF fun xs r=>∃ n,zT5 n xs r
theorem zTD:PSound Tryz.prog 26 zPS:=by
 have gok:∀ f s,look? f [(48,zCO),(28,zJp)]=some s->PSound Tryz.prog f s:=zAC (by
  simp only[List.forall_mem_cons]
  exact⟨zCN,zKa,by simp⟩)
 refine zAG tokW Tryz.call26 Tryz.func26 rfl (fun xs r h=>by obtain⟨n,_,_,_,rfl,_⟩:=h; show 1<=13; decide) 13 rfl ?_;rintro xs r w0 G0 ⟨n,⟨x1A,x1Ai,x1W,x1C,x1Bh⟩,y0,h,rfl,rfl⟩ _;rw[zHS]at h;refine zXL [] [] rfl ?_;show Tri ..;refine zAa ?_;obtain⟨x2,hj,h⟩:=zAc h;refine zAz ⟨ofL [(2,.s (.bool x2))],fun _=>none,0⟩ ?_ (fun σ' hle=>?_)
 ·replace h:=hj;refine zAb [] [7] rfl ?_;obtain⟨⟨y3A,y3C,y3D,y3B⟩,hy3,h⟩:=zAc h;refine⟨_,⟨_,_,hy3,rfl,rfl⟩,?_⟩
  obtain⟨y4,hy4,h⟩:=zAc h;refine⟨_,⟨_,_,_,_,hy4,rfl,rfl⟩,?_⟩
  intro b hb;cases b with
  | true =>
   replace h:=zAI hb.symm h;cases h;exact(Le.forget _ ⟨rfl,trivial⟩)
  | false =>
   replace h:=zAH hb.symm h;cases h;exact(Le.forget _ ⟨rfl,trivial⟩)
 ·show Tri ..;refine zAs hle ?_;refine zAk ?_;have hy:=Option.some.inj h;subst hy;unfold zAA;exact⟨_,Le.refl _ _,rfl,rfl⟩
def zT3 (n:Nat) (xs:List AV) (r:Ret):Prop:=∃ (a0:zO8) (y0:Bool),zHP n a0=some y0/\xs=[.agg ((zAl a0).map .s)]/\r = .val (.s (.bool y0))
def zPP:zAE:=zAF fun xs r=>∃ n,zT3 n xs r
theorem zTA:PSound Tryz.prog 27 zPP:=by
 have gok:∀ f s,look? f [(48,zCO),(28,zJp)]=some s->PSound Tryz.prog f s:=zAC (by
  simp only[List.forall_mem_cons]
  exact⟨zCN,zKa,by simp⟩)
 refine zAG tokW Tryz.call27 Tryz.func27 rfl (fun xs r h=>by obtain⟨n,_,_,_,rfl,_⟩:=h; show 1<=13; decide) 13 rfl ?_;rintro xs r w0 G0 ⟨n,⟨op1A,op1E,op1F,op1S,op1R,op1W,op1X,op1C⟩,y0,h,rfl,rfl⟩ _;rw[zHP]at h;refine zXL [] [] rfl ?_;show Tri ..;refine zAa ?_;obtain⟨x2,hj,h⟩:=zAc h;refine zAz ⟨ofL [(2,.s (.bool x2))],fun _=>none,0⟩ ?_ (fun σ' hle=>?_)
 ·replace h:=hj;refine zAb [] [7,10] rfl ?_;obtain⟨⟨y3A,y3C,y3D,y3B⟩,hy3,h⟩:=zAc h;refine⟨_,⟨_,_,hy3,rfl,rfl⟩,?_⟩
  obtain⟨y4,hy4,h⟩:=zAc h;refine⟨_,⟨_,_,_,_,hy4,rfl,rfl⟩,?_⟩
  intro b hb;cases b with
  | true =>
   replace h:=zAI hb.symm h;intro n5 hn5;obtain rfl:(op1E.length:Int)=n5:=(hn5.trans (congrArg (fun m:Nat=>(m:Int)) (rlen (fun _=>rfl) op1E))).symm;cases h;exact(Le.forget _ ⟨rfl,trivial⟩)
  | false =>
   replace h:=zAH hb.symm h;cases h;exact(Le.forget _ ⟨rfl,trivial⟩)
 ·show Tri ..;refine zAs hle ?_;refine zAk ?_;have hy:=Option.some.inj h;subst hy;unfold zAA;exact⟨_,Le.refl _ _,rfl,rfl⟩
def zAe (p:(Int×zRc×zCu×(Int×List Nd×Int×List UInt8×Bool)×Int)):List S:=[.int .i64 p.1,.sl 8 ((List.map zAl) p.2.1.1),.sl 1 ((List.map (irow .i64)) p.2.1.2.1.1),.sl 1 ((List.map (irow .i64)) p.2.1.2.1.2),.sl 1 ((List.map (irow .i64)) p.2.1.2.2.1),.sl 1 ((List.map (irow .i64)) p.2.1.2.2.2),.sl 1 ((List.map (irow .i64)) p.2.2.1.1),.sl 1 ((List.map (irow .i64)) p.2.2.1.2),.int .i64 p.2.2.2.1.1,.sl 4 (Nd.encs p.2.2.2.1.2.1),.int .i64 p.2.2.2.1.2.2.1,.str p.2.2.2.1.2.2.2.1,.bool p.2.2.2.1.2.2.2.2,.int .i64 p.2.2.2.2]
def zTY (n:Nat) (xs:List AV) (r:Ret):Prop:=∃ (a0:Nd) (a1:List (Int×zRc×zCu×(Int×List Nd×Int×List UInt8×Bool)×Int)) (y0:Bool),zHO n a0 a1=some y0/\xs=[.agg ((Nd.enc a0).map .s),.s (.sl 14 ((List.map zAe) a1))]/\r = .val (.s (.bool y0))
def zPN:zAE:=zAF fun xs r=>∃ n,zTY n xs r
theorem zTy:PSound Tryz.prog 8 zPN:=by
 have gok:∀ f s,look? f [(26,zPS),(27,zPP),(28,zJp)]=some s->PSound Tryz.prog f s:=zAC (by
  simp only[List.forall_mem_cons]
  exact⟨zTD,zTA,zKa,by simp⟩)
 refine zAG tokW Tryz.call8 Tryz.func8 rfl (fun xs r h=>by obtain⟨n,_,_,_,_,rfl,_⟩:=h; show 2<=73; decide) 73 rfl ?_;rintro xs r w0 G0 ⟨n,⟨a1A,a1C,a1D,a1B⟩,a2,y0,h,rfl,rfl⟩ _;rw[zHO]at h;refine zXL [] [] rfl ?_;show Tri ..;refine zAa ?_;refine zXL [] [9] rfl ?_;intro n3 hn3;obtain rfl:(a2.length:Int)=n3:=(hn3.trans (congrArg (fun m:Nat=>(m:Int)) (rlen (fun _=>rfl) a2))).symm;show Tri ..;obtain⟨fl,hl,ho1⟩:=zAc h
 refine zBH (fl:=fl) (fun z=>match z with | _=>⟨ofL [(1,.s (.sl 14 ((List.map zAe) a2))),(2,.s (.pt [.int .i64 a1A,.str a1C,.int .i64 a1D,.sl 4 (Nd.encs a1B)]))],fun _=>none,0⟩) ?_ (fun z σ' hz hle=>?_)
 ·refine zAw (zAL (X:=Nat×Int) (fun y=>match y with | (k,x4)=>⟨ofL [(1,.s (.sl 14 ((List.map zAe) a2))),(2,.s (.pt [.int .i64 a1A,.str a1C,.int .i64 a1D,.sl 4 (Nd.encs a1B)])),(9,.s (.int .i64 (a2.length:Int))),(10,.s (.int .i64 x4))],fun _=>none,0⟩) (fun y=>zCK n a2 y.1 y.2=some fl) (fun y=>y.1) (n,0) hl ?_ ?_)
  ·exact(Le.forget _ ⟨rfl,rfl,rfl,rfl,trivial⟩)
  ·rintro⟨k,x4⟩ h;cases k with
   | zero=>cases h
   | succ k =>
    replace h:zCK n a2 (k+1) x4=some fl:=h;rw[zCK]at h;refine zXL [] [] rfl ?_;show Tri ..;refine zAa ?_;refine zAq rfl h (fun hb h=>?_) (fun hb h=>?_)
    ·refine zAn ?_;show Tri ..;refine zAa ?_;refine zAw ?_;refine zXL [] [] rfl ?_;show Tri ..;refine zAa ?_;refine zAa ?_;obtain⟨x5,hj,h⟩:=zAc h;refine zAz ⟨ofL [(1,.s (.sl 14 ((List.map zAe) a2))),(2,.s (.pt [.int .i64 a1A,.str a1C,.int .i64 a1D,.sl 4 (Nd.encs a1B)])),(5,.s (.int .i64 x4)),(9,.s (.int .i64 (a2.length:Int))),(10,.s (.int .i64 x4)),(49,.s (.bool x5))],fun _=>none,0⟩ ?_ (fun σ' hle=>?_)
     ·replace h:=hj;refine zAb [] [15,19,21,24,30,33,37,40,43,47] rfl ?_;obtain⟨⟨e6A,⟨e6At,⟨e6Bd,e6Be⟩,⟨e6Bf,e6Bg⟩⟩,⟨e6Aw,e6Ax⟩,⟨e6Ay,e6Az,e6Ba,e6Bb,e6Bc⟩,e6S⟩,he6,h⟩:=zAc h;refine And.intro (zAD (fun _=>rfl) he6).1 ?_;intro r7 hr7
      obtain rfl:[.int .i64 e6A,.sl 8 ((List.map zAl) e6At),.sl 1 ((List.map (irow .i64)) e6Bd),.sl 1 ((List.map (irow .i64)) e6Be),.sl 1 ((List.map (irow .i64)) e6Bf),.sl 1 ((List.map (irow .i64)) e6Bg),.sl 1 ((List.map (irow .i64)) e6Aw),.sl 1 ((List.map (irow .i64)) e6Ax),.int .i64 e6Ay,.sl 4 (Nd.encs e6Az),.int .i64 e6Ba,.str e6Bb,.bool e6Bc,.int .i64 e6S]=r7:=(hr7.trans (zAD (fun _=>rfl) he6).2.1).symm;intro n8 hn8
      obtain rfl:(e6At.length:Int)=n8:=(hn8.trans (congrArg (fun m:Nat=>(m:Int)) (rlen (fun _=>rfl) e6At))).symm;intro b hb;cases b with
      | true =>
       replace h:=zAI hb.symm h;intro b hb;subst hb;intro b hb;subst hb;cases h;exact(Le.forget _ ⟨rfl,rfl,rfl,rfl,rfl,rfl,trivial⟩)
      | false =>
       replace h:=zAH hb.symm h;obtain⟨⟨e9A,⟨e9At,⟨e9Bd,e9Be⟩,⟨e9Bf,e9Bg⟩⟩,⟨e9Aw,e9Ax⟩,⟨e9Ay,e9Az,e9Ba,e9Bb,e9Bc⟩,e9S⟩,he9,h⟩:=zAc h;refine And.intro (zAD (fun _=>rfl) he9).1 ?_;intro r10 hr10
       obtain rfl:[.int .i64 e9A,.sl 8 ((List.map zAl) e9At),.sl 1 ((List.map (irow .i64)) e9Bd),.sl 1 ((List.map (irow .i64)) e9Be),.sl 1 ((List.map (irow .i64)) e9Bf),.sl 1 ((List.map (irow .i64)) e9Bg),.sl 1 ((List.map (irow .i64)) e9Aw),.sl 1 ((List.map (irow .i64)) e9Ax),.int .i64 e9Ay,.sl 4 (Nd.encs e9Az),.int .i64 e9Ba,.str e9Bb,.bool e9Bc,.int .i64 e9S]=r10:=(hr10.trans (zAD (fun _=>rfl) he9).2.1).symm;obtain⟨y11,hy11,h⟩:=zAc h;refine⟨_,⟨_,_,_,hy11,rfl,rfl⟩,?_⟩
       intro b hb;cases b with
       | true =>
        replace h:=zAI hb.symm h;intro b hb;subst hb;cases h;exact(Le.forget _ ⟨rfl,rfl,rfl,rfl,rfl,rfl,trivial⟩)
       | false =>
        replace h:=zAH hb.symm h;obtain⟨⟨e12A,⟨e12At,⟨e12Bd,e12Be⟩,⟨e12Bf,e12Bg⟩⟩,⟨e12Aw,e12Ax⟩,⟨e12Ay,e12Az,e12Ba,e12Bb,e12Bc⟩,e12S⟩,he12,h⟩:=zAc h;refine And.intro (zAD (fun _=>rfl) he12).1 ?_;intro r13 hr13
        obtain rfl:[.int .i64 e12A,.sl 8 ((List.map zAl) e12At),.sl 1 ((List.map (irow .i64)) e12Bd),.sl 1 ((List.map (irow .i64)) e12Be),.sl 1 ((List.map (irow .i64)) e12Bf),.sl 1 ((List.map (irow .i64)) e12Bg),.sl 1 ((List.map (irow .i64)) e12Aw),.sl 1 ((List.map (irow .i64)) e12Ax),.int .i64 e12Ay,.sl 4 (Nd.encs e12Az),.int .i64 e12Ba,.str e12Bb,.bool e12Bc,.int .i64 e12S]=r13:=(hr13.trans (zAD (fun _=>rfl) he12).2.1).symm;intro n14 hn14
        obtain rfl:(e12Aw.length:Int)=n14:=(hn14.trans (congrArg (fun m:Nat=>(m:Int)) (rlen (fun _=>rfl) e12Aw))).symm;intro b hb;cases b with
        | true =>
         replace h:=zAI hb.symm h;cases h;exact(Le.forget _ ⟨rfl,rfl,rfl,rfl,rfl,rfl,trivial⟩)
        | false =>
         replace h:=zAH hb.symm h;obtain⟨⟨e15A,⟨e15At,⟨e15Bd,e15Be⟩,⟨e15Bf,e15Bg⟩⟩,⟨e15Aw,e15Ax⟩,⟨e15Ay,e15Az,e15Ba,e15Bb,e15Bc⟩,e15S⟩,he15,h⟩:=zAc h;refine And.intro (zAD (fun _=>rfl) he15).1 ?_;intro r16 hr16
         obtain rfl:[.int .i64 e15A,.sl 8 ((List.map zAl) e15At),.sl 1 ((List.map (irow .i64)) e15Bd),.sl 1 ((List.map (irow .i64)) e15Be),.sl 1 ((List.map (irow .i64)) e15Bf),.sl 1 ((List.map (irow .i64)) e15Bg),.sl 1 ((List.map (irow .i64)) e15Aw),.sl 1 ((List.map (irow .i64)) e15Ax),.int .i64 e15Ay,.sl 4 (Nd.encs e15Az),.int .i64 e15Ba,.str e15Bb,.bool e15Bc,.int .i64 e15S]=r16:=(hr16.trans (zAD (fun _=>rfl) he15).2.1).symm;intro n17 hn17
         obtain rfl:(e15Ax.length:Int)=n17:=(hn17.trans (congrArg (fun m:Nat=>(m:Int)) (rlen (fun _=>rfl) e15Ax))).symm;cases h;exact(Le.forget _ ⟨rfl,rfl,rfl,rfl,rfl,rfl,trivial⟩)
     ·show Tri ..;refine zAs hle ?_;refine zAq rfl h (fun hb h=>?_) (fun hb h=>?_)
      ·refine zXL [] [] rfl ?_;show Tri ..;refine zAk ?_;cases h;replace h:some _=some _:=ho1;have hy:=Option.some.inj h;subst hy;unfold zAA;exact⟨_,Le.refl _ _,rfl,rfl⟩
      ·refine zAn ?_;show Tri ..;refine zXL [] [52,56] rfl ?_;obtain⟨⟨e18A,⟨e18At,⟨e18Bd,e18Be⟩,⟨e18Bf,e18Bg⟩⟩,⟨e18Aw,e18Ax⟩,⟨e18Ay,e18Az,e18Ba,e18Bb,e18Bc⟩,e18S⟩,he18,h⟩:=zAc h;refine And.intro (zAD (fun _=>rfl) he18).1 ?_;intro r19 hr19
       obtain rfl:[.int .i64 e18A,.sl 8 ((List.map zAl) e18At),.sl 1 ((List.map (irow .i64)) e18Bd),.sl 1 ((List.map (irow .i64)) e18Be),.sl 1 ((List.map (irow .i64)) e18Bf),.sl 1 ((List.map (irow .i64)) e18Bg),.sl 1 ((List.map (irow .i64)) e18Aw),.sl 1 ((List.map (irow .i64)) e18Ax),.int .i64 e18Ay,.sl 4 (Nd.encs e18Az),.int .i64 e18Ba,.str e18Bb,.bool e18Bc,.int .i64 e18S]=r19:=(hr19.trans (zAD (fun _=>rfl) he18).2.1).symm;intro n20 hn20
       obtain rfl:(e18At.length:Int)=n20:=(hn20.trans (congrArg (fun m:Nat=>(m:Int)) (rlen (fun _=>rfl) e18At))).symm;show Tri ..;obtain⟨fl,hl,ho2⟩:=zAc h;refine zBH (fl:=fl) (fun z=>match z with | _=>⟨ofL [(1,.s (.sl 14 ((List.map zAe) a2))),(2,.s (.pt [.int .i64 a1A,.str a1C,.int .i64 a1D,.sl 4 (Nd.encs a1B)])),(9,.s (.int .i64 (a2.length:Int))),(10,.s (.int .i64 x4))],fun _=>none,0⟩) ?_ (fun z σ' hz hle=>?_)
       ·refine zAw (zAL (X:=Nat×Int) (fun y=>match y with | (k,x21)=>⟨ofL [(1,.s (.sl 14 ((List.map zAe) a2))),(2,.s (.pt [.int .i64 a1A,.str a1C,.int .i64 a1D,.sl 4 (Nd.encs a1B)])),(9,.s (.int .i64 (a2.length:Int))),(10,.s (.int .i64 x4)),(55,.s (.sl 8 ((List.map zAl) e18At))),(56,.s (.int .i64 (e18At.length:Int))),(57,.s (.int .i64 x21))],fun _=>none,0⟩) (fun y=>zDl n e18At y.1 y.2=some fl) (fun y=>y.1) (n,0) hl ?_ ?_)
        ·exact(Le.forget _ ⟨rfl,rfl,rfl,rfl,rfl,rfl,rfl,trivial⟩)
        ·rintro⟨k,x21⟩ h;cases k with
         | zero=>cases h
         | succ k =>
          replace h:zDl n e18At (k+1) x21=some fl:=h;rw[zDl]at h;refine zXL [] [] rfl ?_;show Tri ..;refine zAa ?_;refine zAq rfl h (fun hb h=>?_) (fun hb h=>?_)
          ·refine zAn ?_;show Tri ..;refine zAa ?_;refine zAw ?_;refine zXL [7] [59] rfl ?_;obtain⟨⟨e22A,e22E,e22F,e22S,e22R,e22W,e22X,e22C⟩,he22,h⟩:=zAc h;refine And.intro (zAD (fun _=>rfl) he22).1 ?_;intro r23 hr23;obtain rfl:[.int .i64 e22A,.sl 1 ((List.map (irow .i64)) e22E),.int .i64 e22F,.int .i64 e22S,.sl 4 (Nd.encs e22R),.int .i64 e22W,.str e22X,.str e22C]=r23:=(hr23.trans (zAD (fun _=>rfl) he22).2.1).symm;show Tri ..
           refine zAs (Le.giveBox 0 [.int .i64 e22A,.sl 1 ((List.map (irow .i64)) e22E),.int .i64 e22F,.int .i64 e22S,.sl 4 (Nd.encs e22R),.int .i64 e22W,.str e22X,.str e22C] rfl rfl) ?_;refine zXL [] [] rfl ?_;obtain⟨y24,hy24,h⟩:=zAc h;refine⟨_,⟨_,_,_,hy24,rfl,rfl⟩,?_⟩
           show Tri ..;refine zAq rfl h (fun hb h=>?_) (fun hb h=>?_)
           ·refine zXL [] [] rfl ?_;show Tri ..;refine zAk ?_;cases h;replace h:some _=some _:=ho2;cases h;replace h:some _=some _:=ho1;have hy:=Option.some.inj h;subst hy;unfold zAA;exact⟨_,Le.refl _ _,rfl,rfl⟩
           ·refine zAn ?_;show Tri ..;refine zAb [] [] rfl ?_;refine⟨(k,IntKind.i64.wrap (x21+1)),h,(Le.rnm [] _ [] 0 ⟨rfl,rfl,rfl,rfl,rfl,rfl,rfl,trivial⟩ trivial),Nat.lt_succ_self k⟩
          ·refine zAP ?_;cases h;exact⟨_,rfl,(Le.forget _ ⟨rfl,rfl,rfl,rfl,trivial⟩)⟩
       ·subst hz;obtain _:=z;replace h:=ho2;show Tri ..;refine zAs hle ?_;refine zAb [] [] rfl ?_;refine⟨(k,IntKind.i64.wrap (x4+1)),h,(Le.forget _ ⟨rfl,rfl,rfl,rfl,trivial⟩),Nat.lt_succ_self k⟩
    ·refine zAP ?_;cases h;exact⟨_,rfl,(Le.forget _ ⟨rfl,rfl,trivial⟩)⟩
 ·subst hz;obtain _:=z;replace h:=ho1;show Tri ..;refine zAs hle ?_;refine zAa ?_;obtain⟨x25,hj,h⟩:=zAc h;refine zAz ⟨ofL [(4,.s (.bool x25))],fun _=>none,0⟩ ?_ (fun σ' hle=>?_)
  ·replace h:=hj;refine zAb [] [68,70] rfl ?_;obtain⟨y26,hy26,h⟩:=zAc h;refine⟨_,⟨_,_,_,_,hy26,rfl,rfl⟩,?_⟩
   intro b hb;cases b with
   | true =>
    replace h:=zAI hb.symm h;intro n27 hn27;obtain rfl:(a2.length:Int)=n27:=(hn27.trans (congrArg (fun m:Nat=>(m:Int)) (rlen (fun _=>rfl) a2))).symm;cases h;exact(Le.forget _ ⟨rfl,trivial⟩)
   | false =>
    replace h:=zAH hb.symm h;cases h;exact(Le.forget _ ⟨rfl,trivial⟩)
  ·show Tri ..;refine zAs hle ?_;refine zAk ?_;have hy:=Option.some.inj h;subst hy;unfold zAA;exact⟨_,Le.refl _ _,rfl,rfl⟩
def zK4 (n:Nat) (xs:List AV) (r:Ret):Prop:=∃ (a0:List Nd) (y0:Bool),zBR n a0=some y0/\xs=[.s (.sl 4 (Nd.encs a0))]/\r = .val (.s (.bool y0))
def zD0:zAE:=zAF fun xs r=>∃ n,zK4 n xs r
theorem zER:PSound Tryz.prog 70 zD0:=by
 have gok:∀ f s,look? f [(48,zCO),(25,zCw)]=some s->PSound Tryz.prog f s:=zAC (by
  simp only[List.forall_mem_cons]
  exact⟨zCN,zCt,by simp⟩)
 refine zAG tokW Tryz.call70 Tryz.func70 rfl (fun xs r h=>by obtain⟨n,_,_,_,rfl,_⟩:=h; show 1<=6; decide) 6 rfl ?_;rintro xs r w0 G0 ⟨n,l1,y0,h,rfl,rfl⟩ _;rw[zBR]at h;refine zXL [] [] rfl ?_;show Tri ..;refine zXL [] [] rfl ?_;obtain⟨⟨y2A,y2C,y2D,y2B⟩,hy2,h⟩:=zAc h;refine⟨_,⟨_,_,hy2,rfl,rfl⟩,?_⟩
 obtain⟨y3,hy3,h⟩:=zAc h;refine⟨_,⟨_,_,_,hy3,rfl,rfl⟩,?_⟩
 show Tri ..;refine zAk ?_;have hy:=Option.some.inj h;subst hy;unfold zAA;exact⟨_,Le.refl _ _,rfl,rfl⟩
def zAx (p:List Int):List S:=[.sl 1 ((List.map (irow .i64)) p)]
def zHt (n:Nat) (xs:List AV) (r:Ret):Prop:=∃ (a0:Nd) (a1:List Int) (y0:List (List Int)),zDq n a0 a1=some y0/\xs=[.agg ((Nd.enc a0).map .s),.s (.sl 1 ((List.map (irow .i64)) a1))]/\r = .row 27 1 ((List.map zAx) y0)
theorem zQ1 (n:Nat) (ih:PSound Tryz.prog 152 (zAF (zHt n))):PSound Tryz.prog 152 (zAF (zHt (n+1))):=by
 have gok:∀ f s,look? f [(152,zAF (zHt n))]=some s->PSound Tryz.prog f s:=zAC (by
  simp only[List.forall_mem_cons]
  exact⟨ih,by simp⟩)
 refine zAG tokW Tryz.call152 Tryz.func152 rfl (fun xs r h=>by obtain⟨_,_,_,_,rfl,_⟩:=h; show 2<=60; decide) 60 rfl ?_;rintro xs r w0 G0 ⟨⟨row1A,row1C,row1D,row1B⟩,path2,y0,h,rfl,rfl⟩ _;rw[zDq]at h;refine zXL [4] [] rfl ?_;show Tri ..;refine zAs (Le.rnm [] [(1,.s (.sl 1 ((List.map (irow .i64)) path2))),(2,.s (.pt [.int .i64 row1A,.str row1C,.int .i64 row1D,.sl 4 (Nd.encs row1B)]))] [] 0 ⟨rfl,rfl,trivial⟩ trivial) ?_;refine zXL [5] [] rfl ?_;show Tri ..
 refine zAs (Le.rnm [(0,0)] [(1,.s (.sl 1 ((List.map (irow .i64)) path2))),(2,.s (.pt [.int .i64 row1A,.str row1C,.int .i64 row1D,.sl 4 (Nd.encs row1B)])),(5,.orow 0)] [(0,.row 27 1 ((List.map zAx) []))] 1 ⟨rfl,rfl,rfl,trivial⟩ ⟨rfl,⟨_,rfl,congrArg (Ob.row 27 1) (by simp[List.map_append,List.map_take,List.map_drop,irow,brow,zAB,List.map_cons,List.map_nil,zAy,Nd.encs_eq,Nd.enc,zAi,zAh,zAv,zAo,zAj,zAl,zAd,zAg,zAp,zAf,zAe,zAx])⟩,trivial⟩) ?_;refine zAa ?_
 refine zXL [] [] rfl ?_;show Tri ..;obtain⟨l6,hl,h⟩:=zAc h;refine zAz ⟨ofL [(5,.orow 0)],ofH [(0,.row 27 1 ((List.map zAx) l6))],1⟩ ?_ (fun σ' hle=>?_)
 ·refine zAw (zAL (X:=Nat×Int×(List (List Int))) (fun y=>match y with | (k,i4,l5)=>⟨ofL [(1,.s (.sl 1 ((List.map (irow .i64)) path2))),(2,.s (.pt [.int .i64 row1A,.str row1C,.int .i64 row1D,.sl 4 (Nd.encs row1B)])),(5,.orow 0),(6,.s (.int .i64 i4))],ofH [(0,.row 27 1 ((List.map zAx) l5))],1⟩) (fun y=>zDr (zDq n) n row1B path2 y.1 y.2.1 y.2.2=some l6) (fun y=>y.1) (n,0,[]) hl ?_ ?_)
  ·exact(Le.rnm [(0,0)] _ _ _ ⟨rfl,rfl,rfl,rfl,trivial⟩ ⟨rfl,⟨_,rfl,rfl⟩,trivial⟩)
  ·rintro⟨k,i4,l5⟩ h;cases k with
   | zero=>cases h
   | succ k =>
    replace h:zDr (zDq n) n row1B path2 (k+1) i4 l5=some l6:=h;rw[zDr]at h;refine zAa ?_;refine zXL [] [11] rfl ?_;intro n7 hn7;obtain rfl:(row1B.length:Int)=n7:=(hn7.trans (congrArg (fun m:Nat=>(m:Int)) (rlen Nd.encs_eq row1B))).symm;show Tri ..;refine zAq rfl h (fun hb h=>?_) (fun hb h=>?_)
    ·refine zAn ?_;show Tri ..;refine zAa ?_;refine zAw ?_;refine zAa ?_;refine zAs (Le.toA 0 rfl) ?_;obtain⟨y9,hy9,h⟩:=zAc h;obtain⟨hqp,hyq⟩:=zAJ hy9;replace hyq:=Option.some.inj hyq;rw[List.length_singleton]at hqp;refine zAb [16,18,21,22,23] [20] rfl ?_;refine And.intro (show((0:Nat)+((List.map (irow .i64)) path2).length) * 8<=140737488355328/\(0:Nat)+((List.map (irow .i64)) path2).length<=9223372036854775807 by rw[List.length_map]; omega) ?_;intro r8 hr8;have hl1:r8.length=1:=by rw[hr8]; rfl
     refine And.intro (show(([]++((List.map (irow .i64)) path2)).length+r8.length) * 8<=140737488355328/\([]++((List.map (irow .i64)) path2)).length+r8.length<=9223372036854775807 by rw[hl1,List.nil_append,List.length_map]; omega) ?_
     clear hl1
     obtain rfl:(List.map (irow .i64)) [i4]=r8:=(hr8.trans (by simp[List.map_append,List.map_take,List.map_drop,irow,brow,zAB,List.map_cons,List.map_nil,zAy,Nd.encs_eq,Nd.enc,zAi,zAh,zAv,zAo,zAj,zAl,zAd,zAg,zAp,zAf,zAe,zAx])).symm;obtain⟨hq,h⟩:=zAJ h
     refine And.intro (show((((List.map zAx) l5).map (·.map AV.s)).length+1) * 24<=140737488355328/\(((List.map zAx) l5).map (·.map AV.s)).length+1<=9223372036854775807 by rw[List.length_map,List.length_map]; simp only[List.length_cons,List.length_nil]at hq; omega) ?_;show Tri ..;refine zAs (Le.giveRow 3 rfl) ?_;refine zAs (Le.ofA 5 ((List.map zAx) (l5++[y9])) rfl (by rw[← hyq,List.map_append,List.map_append,zTn]; exact zJR (zSU _) (show some [[S.sl 1 ([]++(List.map (irow .i64)) path2++(List.map (irow .i64)) [i4])]]=some ((List.map zAx) [path2++[i4]]) by simp[zAx]))) ?_
     refine zAs (Le.rnm [(5,0)] [(1,.s (.sl 1 ((List.map (irow .i64)) path2))),(2,.s (.pt [.int .i64 row1A,.str row1C,.int .i64 row1D,.sl 4 (Nd.encs row1B)])),(5,.orow 0),(6,.s (.int .i64 i4))] [(0,.row 27 1 ((List.map zAx) (l5++[y9])))] 1 ⟨rfl,rfl,rfl,rfl,trivial⟩ ⟨rfl,⟨_,rfl,congrArg (Ob.row 27 1) (by simp[List.map_append,List.map_take,List.map_drop,irow,brow,zAB,List.map_cons,List.map_nil,zAy,Nd.encs_eq,Nd.enc,zAi,zAh,zAv,zAo,zAj,zAl,zAd,zAg,zAp,zAf,zAe,zAx])⟩,trivial⟩) ?_
     refine zAa ?_;refine zXL [] [27] rfl ?_;intro n11 hn11;obtain rfl:(row1B.length:Int)=n11:=(hn11.trans (congrArg (fun m:Nat=>(m:Int)) (rlen Nd.encs_eq row1B))).symm;show Tri ..;refine zAq rfl h (fun hb h=>?_) (fun hb h=>?_)
     ·refine zAP ?_;cases h;exact(Le.rnm [(0,0)] _ _ _ ⟨rfl,trivial⟩ ⟨rfl,⟨_,rfl,rfl⟩,trivial⟩)
     ·refine zAn ?_;show Tri ..;refine zXL [] [] rfl ?_;show Tri ..;obtain⟨l15,hl,h⟩:=zAc h;refine zAz ⟨ofL [(1,.s (.sl 1 ((List.map (irow .i64)) path2))),(2,.s (.pt [.int .i64 row1A,.str row1C,.int .i64 row1D,.sl 4 (Nd.encs row1B)])),(5,.orow 0),(6,.s (.int .i64 i4))],ofH [(0,.row 27 1 ((List.map zAx) l15))],1⟩ ?_ (fun σ' hle=>?_)
      ·refine zAw (zAL (X:=Nat×Int×(List (List Int))) (fun y=>match y with | (k,k13,l14)=>⟨ofL [(1,.s (.sl 1 ((List.map (irow .i64)) path2))),(2,.s (.pt [.int .i64 row1A,.str row1C,.int .i64 row1D,.sl 4 (Nd.encs row1B)])),(5,.orow 0),(6,.s (.int .i64 i4)),(7,.s (.int .i64 k13))],ofH [(0,.row 27 1 ((List.map zAx) l14))],1⟩) (fun y=>zDs (zDq n) row1B path2 i4 y.1 y.2.1 y.2.2=some l15) (fun y=>y.1) (n,0,l5++[y9]) hl ?_ ?_)
       ·exact(Le.rnm [(0,0)] _ _ _ ⟨rfl,rfl,rfl,rfl,rfl,trivial⟩ ⟨rfl,⟨_,rfl,rfl⟩,trivial⟩)
       ·rintro⟨k,k13,l14⟩ h;cases k with
        | zero=>cases h
        | succ k =>
         replace h:zDs (zDq n) row1B path2 i4 (k+1) k13 l14=some l15:=h;rw[zDs]at h;refine zAa ?_;refine zXL [] [33,36] rfl ?_;obtain⟨⟨e16A,e16C,e16D,e16B⟩,he16,h⟩:=zAc h;refine And.intro (zAD Nd.encs_eq he16).1 ?_;intro r17 hr17;obtain rfl:[.int .i64 e16A,.str e16C,.int .i64 e16D,.sl 4 (Nd.encs e16B)]=r17:=(hr17.trans (zAD Nd.encs_eq he16).2.1).symm;intro n18 hn18;obtain rfl:(e16B.length:Int)=n18:=(hn18.trans (congrArg (fun m:Nat=>(m:Int)) (rlen Nd.encs_eq e16B))).symm;show Tri ..;refine zAq rfl h (fun hb h=>?_) (fun hb h=>?_)
         ·refine zAn ?_;show Tri ..;refine zAa ?_;refine zAw ?_;refine zC1 [50,52,56,58] [44,48,55] [10,12,16,17,18] [] rfl (by decide +kernel) ?_;obtain⟨⟨e19A,e19C,e19D,e19B⟩,he19,h⟩:=zAc h;refine And.intro (zAD Nd.encs_eq he19).1 ?_;intro r20 hr20;obtain rfl:[.int .i64 e19A,.str e19C,.int .i64 e19D,.sl 4 (Nd.encs e19B)]=r20:=(hr20.trans (zAD Nd.encs_eq he19).2.1).symm;obtain⟨⟨e21A,e21C,e21D,e21B⟩,he21,h⟩:=zAc h;refine And.intro (zAD Nd.encs_eq he21).1 ?_;intro r22 hr22
          obtain rfl:[.int .i64 e21A,.str e21C,.int .i64 e21D,.sl 4 (Nd.encs e21B)]=r22:=(hr22.trans (zAD Nd.encs_eq he21).2.1).symm;obtain⟨hq,h⟩:=zAJ h;refine And.intro (show(([]:List (List S)).length+((List.map (irow .i64)) path2).length) * 8<=140737488355328/\([]:List (List S)).length+((List.map (irow .i64)) path2).length<=9223372036854775807 from by simp only[List.length_append,List.length_cons,List.length_nil,List.length_map,rlen (fun _=>rfl)]at hq ⊢; omega) ?_;intro r23 hr23;have hl2:r23.length=2 :=(by rw[hr23]; rfl);obtain⟨hq,h⟩:=zAJ h
          refine And.intro (show((([]:List (List S))++((List.map (irow .i64)) path2)).length+r23.length) * 8<=140737488355328/\(([]:List (List S))++((List.map (irow .i64)) path2)).length+r23.length<=9223372036854775807 from by rw[hl2]; simp only[List.length_append,List.length_cons,List.length_nil,List.length_map]at hq ⊢; omega) ?_
          clear hl2
          obtain rfl:(List.map (irow .i64)) [i4,k13]=r23:=(hr23.trans (by simp[List.map_append,List.map_take,List.map_drop,irow,brow,zAB,List.map_cons,List.map_nil,zAy,Nd.encs_eq,Nd.enc,zAi,zAh,zAv,zAo,zAj,zAl,zAd,zAg,zAp,zAf,zAe,zAx])).symm;obtain⟨y24,hy24,h⟩:=zAc h
          refine⟨_,⟨_,_,_,hy24,(congrArg (fun r=>[(AV.agg [.s (.int .i64 e21A),.s (.str e21C),.s (.int .i64 e21D),.s (.sl 4 (Nd.encs e21B))]),AV.s (.sl 1 r)]) (show([]++((List.map (irow .i64)) path2))++((List.map (irow .i64)) [i4,k13])=(List.map (irow .i64)) (path2++[i4,k13]) from(by simp[List.map_append,List.map_take,List.map_drop,irow,brow,zAB,List.map_cons,List.map_nil,zAy,Nd.encs_eq,Nd.enc,zAi,zAh,zAv,zAo,zAj,zAl,zAd,zAg,zAp,zAf,zAe,zAx]))),rfl⟩,?_⟩
          obtain⟨hq,h⟩:=zAJ h;refine And.intro (show(((List.map zAx) l14).length+((List.map zAx) y24).length) * 24<=140737488355328/\((List.map zAx) l14).length+((List.map zAx) y24).length<=9223372036854775807 from by simp only[List.length_append,List.length_cons,List.length_nil,List.length_map,rlen (fun _=>rfl)]at hq ⊢; omega) ?_;show Tri ..
          refine zAs (Le.rnm [(4,0)] [(1,.s (.sl 1 ((List.map (irow .i64)) path2))),(2,.s (.pt [.int .i64 row1A,.str row1C,.int .i64 row1D,.sl 4 (Nd.encs row1B)])),(5,.orow 0),(6,.s (.int .i64 i4)),(7,.s (.int .i64 k13))] [(0,.row 27 1 ((List.map zAx) (l14++y24)))] 1 ⟨rfl,rfl,rfl,rfl,rfl,trivial⟩ ⟨rfl,⟨_,rfl,congrArg (Ob.row 27 1) (by simp[List.map_append,List.map_take,List.map_drop,irow,brow,zAB,List.map_cons,List.map_nil,zAy,Nd.encs_eq,Nd.enc,zAi,zAh,zAv,zAo,zAj,zAl,zAd,zAg,zAp,zAf,zAe,zAx])⟩,trivial⟩) ?_
          refine zAb [] [] rfl ?_;refine⟨(k,IntKind.i64.wrap (k13+1),l14++y24),h,(Le.rnm [(0,0)] _ _ _ ⟨rfl,rfl,rfl,rfl,rfl,trivial⟩ ⟨rfl,⟨_,rfl,rfl⟩,trivial⟩),Nat.lt_succ_self k⟩
         ·refine zAP ?_;cases h;exact(Le.rnm [(0,0)] _ _ _ ⟨rfl,rfl,rfl,rfl,trivial⟩ ⟨rfl,⟨_,rfl,rfl⟩,trivial⟩)
      ·show Tri ..;refine zAs hle ?_;refine zAb [] [] rfl ?_;refine⟨(k,IntKind.i64.wrap (i4+1),l15),h,(Le.rnm [(0,0)] _ _ _ ⟨rfl,rfl,rfl,rfl,trivial⟩ ⟨rfl,⟨_,rfl,rfl⟩,trivial⟩),Nat.lt_succ_self k⟩
    ·refine zAP ?_;cases h;exact(Le.rnm [(0,0)] _ _ _ ⟨rfl,trivial⟩ ⟨rfl,⟨_,rfl,rfl⟩,trivial⟩)
 ·show Tri ..;refine zAs hle ?_;refine zXL [] [] rfl ?_;show Tri ..;refine zAk ?_;have hy:=Option.some.inj h;subst hy;unfold zAA;exact⟨_,Le.refl _ _,0,rfl,rfl⟩
theorem zRx:∀ n,PSound Tryz.prog 152 (zAF (zHt n)):=by
 intro n
 induction n with
 | zero=>exact zCC Tryz.call152 (fun xs r h=>by obtain⟨_,_,_,h,_⟩:=h; cases h)
 | succ n ih=>exact zQ1 n ih
def zPO:zAE:=zAF fun xs r=>∃ n,zHt n xs r
theorem zTz:PSound Tryz.prog 152 zPO:=zC9 zRx
def zT2 (n:Nat) (xs:List AV) (r:Ret):Prop:=∃ (a0:Nd) (y0:List (List Int)) (y1:Int),zGR n a0=some (y0,y1)/\xs=[.agg ((Nd.enc a0).map .s)]/\r = .val (.tup [.s (.sl 1 ((List.map zAx) y0)),.s (.int .i64 y1)])
def zLD:zAE:=zAF fun xs r=>∃ n,zT2 n xs r
theorem zNL:PSound Tryz.prog 139 zLD:=by
 have gok:∀ f s,look? f [(25,zCw),(152,zPO)]=some s->PSound Tryz.prog f s:=zAC (by
  simp only[List.forall_mem_cons]
  exact⟨zCt,zTz,by simp⟩)
 refine zAG tokW Tryz.call139 Tryz.func139 rfl (fun xs r h=>by obtain⟨n,_,_,_,_,rfl,_⟩:=h; show 1<=9; decide) 9 rfl ?_;rintro xs r w0 G0 ⟨n,⟨n1A,n1C,n1D,n1B⟩,y0,y1,h,rfl,rfl⟩ _;rw[zGR]at h;refine zXL [] [] rfl ?_;show Tri ..;refine zAa ?_;refine zXL [] [] rfl ?_;obtain⟨y2,hy2,h⟩:=zAc h;refine⟨_,⟨_,_,_,hy2,rfl,rfl⟩,?_⟩
 show Tri ..;refine zAq rfl h (fun hb h=>?_) (fun hb h=>?_)
 ·refine zXL [] [] rfl ?_;show Tri ..;refine zAk ?_;obtain⟨hj1,hk1⟩:=pij h;subst hj1 hk1;unfold zAA;exact⟨_,Le.refl _ _,rfl,rfl⟩
 ·refine zAn ?_;show Tri ..;refine zXL [] [] rfl ?_;obtain⟨y3,hy3,h⟩:=zAc h;refine⟨_,⟨_,_,_,_,hy3,rfl,rfl⟩,?_⟩
  show Tri ..;refine zAk ?_;obtain⟨hj1,hk1⟩:=pij h;subst hj1 hk1;unfold zAA;exact⟨_,Le.refl _ _,rfl,rfl⟩
def zOj (n:Nat) (xs:List AV) (r:Ret):Prop:=∃ (a0:List Int) (a1:List Int) (y0:Int),zEw n a0 a1=some y0/\xs=[.s (.sl 1 ((List.map (irow .i64)) a0)),.s (.sl 1 ((List.map (irow .i64)) a1))]/\r = .val (.s (.int .i64 y0))
def zJq:zAE:=zAF fun xs r=>∃ n,zOj n xs r
theorem zM0:PSound Tryz.prog 63 zJq:=by
 have gok:=@gok0 Tryz.prog;refine zAG tokW Tryz.call63 Tryz.func63 rfl (fun xs r h=>by obtain⟨n,_,_,_,_,rfl,_⟩:=h; show 2<=48; decide) 48 rfl ?_;rintro xs r w0 G0 ⟨n,a1,b2,y0,h,rfl,rfl⟩ _;rw[zEw]at h;refine zXL [] [] rfl ?_;show Tri ..;refine zAa ?_;refine zXL [] [] rfl ?_;show Tri ..;obtain⟨fl,hl,ho1⟩:=zAc h;refine zBH (fl:=fl) (fun z=>match z with | _=>⟨ofL [(0,.s (.sl 1 ((List.map (irow .i64)) a1))),(1,.s (.sl 1 ((List.map (irow .i64)) b2)))],fun _=>none,0⟩) ?_ (fun z σ' hz hle=>?_)
 ·refine zAw (zAL (X:=Nat×Int) (fun y=>match y with | (k,i3)=>⟨ofL [(0,.s (.sl 1 ((List.map (irow .i64)) a1))),(1,.s (.sl 1 ((List.map (irow .i64)) b2))),(5,.s (.int .i64 i3))],fun _=>none,0⟩) (fun y=>zBS a1 b2 y.1 y.2=some fl) (fun y=>y.1) (n,0) hl ?_ ?_)
  ·exact(Le.forget _ ⟨rfl,rfl,rfl,trivial⟩)
  ·rintro⟨k,i3⟩ h;cases k with
   | zero=>cases h
   | succ k =>
    replace h:zBS a1 b2 (k+1) i3=some fl:=h;rw[zBS]at h;refine zAa ?_;refine zAa ?_;obtain⟨x4,hj,h⟩:=zAc h;refine zAz ⟨ofL [(0,.s (.sl 1 ((List.map (irow .i64)) a1))),(1,.s (.sl 1 ((List.map (irow .i64)) b2))),(5,.s (.int .i64 i3)),(15,.s (.bool x4))],fun _=>none,0⟩ ?_ (fun σ' hle=>?_)
    ·replace h:=hj;refine zAb [] [8,10,13] rfl ?_;intro n5 hn5;obtain rfl:(a1.length:Int)=n5:=(hn5.trans (congrArg (fun m:Nat=>(m:Int)) (rlen (fun _=>rfl) a1))).symm;intro b hb;cases b with
     | true =>
      replace h:=zAI hb.symm h;intro n6 hn6;obtain rfl:(b2.length:Int)=n6:=(hn6.trans (congrArg (fun m:Nat=>(m:Int)) (rlen (fun _=>rfl) b2))).symm;cases h;exact(Le.forget _ ⟨rfl,rfl,rfl,rfl,trivial⟩)
     | false =>
      replace h:=zAH hb.symm h;cases h;exact(Le.forget _ ⟨rfl,rfl,rfl,rfl,trivial⟩)
    ·show Tri ..;refine zAs hle ?_;refine zAq rfl h (fun hb h=>?_) (fun hb h=>?_)
     ·refine zAn ?_;show Tri ..;refine zAa ?_;refine zAw ?_;refine zAa ?_;refine zAa ?_;refine zAO [] [20,24] [] rfl (by decide +kernel) ?_;obtain⟨e7,he7,h⟩:=zAc h;refine And.intro (zAD (fun _=>rfl) he7).1 ?_;intro r8 hr8;obtain rfl:[.int .i64 e7]=r8:=(hr8.trans (zAD (fun _=>rfl) he7).2.1).symm;obtain⟨e9,he9,h⟩:=zAc h;refine And.intro (zAD (fun _=>rfl) he9).1 ?_;intro r10 hr10;obtain rfl:[.int .i64 e9]=r10:=(hr10.trans (zAD (fun _=>rfl) he9).2.1).symm;show Tri ..;refine zAq rfl h (fun hb h=>?_) (fun hb h=>?_)
      ·refine zXL [] [] rfl ?_;show Tri ..;refine zAk ?_;cases h;replace h:some _=some _:=ho1;have hy:=Option.some.inj h;subst hy;unfold zAA;exact⟨_,Le.refl _ _,rfl,rfl⟩
      ·refine zAn ?_;show Tri ..;refine zAa ?_;refine zAO [] [29,33] [] rfl (by decide +kernel) ?_;obtain⟨e11,he11,h⟩:=zAc h;refine And.intro (zAD (fun _=>rfl) he11).1 ?_;intro r12 hr12;obtain rfl:[.int .i64 e11]=r12:=(hr12.trans (zAD (fun _=>rfl) he11).2.1).symm;obtain⟨e13,he13,h⟩:=zAc h;refine And.intro (zAD (fun _=>rfl) he13).1 ?_;intro r14 hr14;obtain rfl:[.int .i64 e13]=r14:=(hr14.trans (zAD (fun _=>rfl) he13).2.1).symm;show Tri ..;refine zAq rfl h (fun hb h=>?_) (fun hb h=>?_)
       ·refine zXL [] [] rfl ?_;show Tri ..;refine zAk ?_;cases h;replace h:some _=some _:=ho1;have hy:=Option.some.inj h;subst hy;unfold zAA;exact⟨_,Le.refl _ _,rfl,rfl⟩
       ·refine zAn ?_;show Tri ..;refine zAb [] [] rfl ?_;refine⟨(k,IntKind.i64.wrap (i3+1)),h,(Le.forget _ ⟨rfl,rfl,rfl,trivial⟩),Nat.lt_succ_self k⟩
     ·refine zAP ?_;cases h;exact⟨_,rfl,(Le.forget _ ⟨rfl,rfl,trivial⟩)⟩
 ·subst hz;obtain _:=z;replace h:=ho1;show Tri ..;refine zAs hle ?_;refine zAa ?_;refine zAw ?_;refine zXL [] [38,40] rfl ?_;intro n15 hn15;obtain rfl:(a1.length:Int)=n15:=(hn15.trans (congrArg (fun m:Nat=>(m:Int)) (rlen (fun _=>rfl) a1))).symm;intro n16 hn16;obtain rfl:(b2.length:Int)=n16:=(hn16.trans (congrArg (fun m:Nat=>(m:Int)) (rlen (fun _=>rfl) b2))).symm;show Tri ..;refine zAq rfl h (fun hb h=>?_) (fun hb h=>?_)
  ·refine zXL [] [] rfl ?_;show Tri ..;refine zAk ?_;have hy:=Option.some.inj h;subst hy;unfold zAA;exact⟨_,Le.refl _ _,rfl,rfl⟩
  ·refine zXL [] [44,46] rfl ?_;intro n17 hn17;obtain rfl:(a1.length:Int)=n17:=(hn17.trans (congrArg (fun m:Nat=>(m:Int)) (rlen (fun _=>rfl) a1))).symm;intro n18 hn18;obtain rfl:(b2.length:Int)=n18:=(hn18.trans (congrArg (fun m:Nat=>(m:Int)) (rlen (fun _=>rfl) b2))).symm;show Tri ..;refine zAq rfl h (fun hb h=>?_) (fun hb h=>?_)
   ·refine zXL [] [] rfl ?_;show Tri ..;refine zAk ?_;have hy:=Option.some.inj h;subst hy;unfold zAA;exact⟨_,Le.refl _ _,rfl,rfl⟩
   ·refine zAn ?_;show Tri ..;refine zXL [] [] rfl ?_;show Tri ..;refine zAk ?_;have hy:=Option.some.inj h;subst hy;unfold zAA;exact⟨_,Le.refl _ _,rfl,rfl⟩
def zRk (n:Nat) (xs:List AV) (r:Ret):Prop:=∃ (a0:Nd) (a1:List Int) (y0:Int) (y1:Int),zD2 n a0 a1=some (y0,y1)/\xs=[.agg ((Nd.enc a0).map .s),.s (.sl 1 ((List.map (irow .i64)) a1))]/\r = .val (.tup [.s (.int .i64 y0),.s (.int .i64 y1)])
def zIW:zAE:=zAF fun xs r=>∃ n,zRk n xs r
theorem zKO:PSound Tryz.prog 110 zIW:=by
 have gok:∀ f s,look? f [(139,zLD),(63,zJq)]=some s->PSound Tryz.prog f s:=zAC (by
  simp only[List.forall_mem_cons]
  exact⟨zNL,zM0,by simp⟩)
 refine zAG tokW Tryz.call110 Tryz.func110 rfl (fun xs r h=>by obtain⟨n,_,_,_,_,_,rfl,_⟩:=h; show 2<=31; decide) 31 rfl ?_;rintro xs r w0 G0 ⟨n,⟨n1A,n1C,n1D,n1B⟩,pos2,y0,y1,h,rfl,rfl⟩ _;rw[zD2]at h;refine zXL [] [] rfl ?_;show Tri ..;refine zXL [] [] rfl ?_;obtain⟨⟨y3,y4⟩,hy3,h⟩:=zAc h;refine⟨_,⟨_,_,_,_,hy3,rfl,rfl⟩,?_⟩
 show Tri ..;refine zAa ?_;refine zXL [] [] rfl ?_;show Tri ..;refine zAq rfl h (fun hb h=>?_) (fun hb h=>?_)
 ·refine zXL [] [] rfl ?_;show Tri ..;refine zAk ?_;obtain⟨hj1,hk1⟩:=pij h;subst hj1 hk1;unfold zAA;exact⟨_,Le.refl _ _,rfl,rfl⟩
 ·refine zAn ?_;show Tri ..;refine zAa ?_;refine zXL [] [] rfl ?_;show Tri ..;obtain⟨fl,hl,ho1⟩:=zAc h;refine zBH (fl:=fl) (fun z=>match z with | _=>⟨ofL [],fun _=>none,0⟩) ?_ (fun z σ' hz hle=>?_)
  ·refine zAw (zAL (X:=Nat×Int) (fun y=>match y with | (k,i5)=>⟨ofL [(1,.s (.sl 1 ((List.map (irow .i64)) pos2))),(6,.s (.sl 1 ((List.map zAx) y3))),(8,.s (.int .i64 i5))],fun _=>none,0⟩) (fun y=>zCB n pos2 y3 y.1 y.2=some fl) (fun y=>y.1) (n,0) hl ?_ ?_)
   ·exact(Le.forget _ ⟨rfl,rfl,rfl,trivial⟩)
   ·rintro⟨k,i5⟩ h;cases k with
    | zero=>cases h
    | succ k =>
     replace h:zCB n pos2 y3 (k+1) i5=some fl:=h;rw[zCB]at h;refine zAa ?_;refine zXL [] [19] rfl ?_;intro n6 hn6;obtain rfl:(y3.length:Int)=n6:=(hn6.trans (congrArg (fun m:Nat=>(m:Int)) (rlen (fun _=>rfl) y3))).symm;show Tri ..;refine zAq rfl h (fun hb h=>?_) (fun hb h=>?_)
     ·refine zAn ?_;show Tri ..;refine zAa ?_;refine zAw ?_;refine zXL [] [25] rfl ?_;obtain⟨e7,he7,h⟩:=zAc h;refine And.intro (zAD (fun _=>rfl) he7).1 ?_;intro r8 hr8;obtain rfl:[.sl 1 ((List.map (irow .i64)) e7)]=r8:=(hr8.trans (zAD (fun _=>rfl) he7).2.1).symm;obtain⟨y9,hy9,h⟩:=zAc h;refine⟨_,⟨_,_,_,_,hy9,rfl,rfl⟩,?_⟩
      show Tri ..;refine zAq rfl h (fun hb h=>?_) (fun hb h=>?_)
      ·refine zXL [] [] rfl ?_;show Tri ..;refine zAk ?_;cases h;replace h:some _=some _:=ho1;obtain⟨hj1,hk1⟩:=pij h;subst hj1 hk1;unfold zAA;exact⟨_,Le.refl _ _,rfl,rfl⟩
      ·refine zAn ?_;show Tri ..;refine zAb [] [] rfl ?_;refine⟨(k,IntKind.i64.wrap (i5+1)),h,(Le.forget _ ⟨rfl,rfl,rfl,trivial⟩),Nat.lt_succ_self k⟩
     ·refine zAP ?_;cases h;exact⟨_,rfl,(Le.forget _ trivial)⟩
  ·subst hz;obtain _:=z;replace h:=ho1;show Tri ..;refine zAs hle ?_;refine zXL [] [] rfl ?_;show Tri ..;refine zAk ?_;obtain⟨hj1,hk1⟩:=pij h;subst hj1 hk1;unfold zAA;exact⟨_,Le.refl _ _,rfl,rfl⟩
def zRl (n:Nat) (xs:List AV) (r:Ret):Prop:=∃ (a0:Nd) (a1:List Int) (y0:Bool),zEN n a0 a1=some y0/\xs=[.agg ((Nd.enc a0).map .s),.s (.sl 1 ((List.map (irow .i64)) a1))]/\r = .val (.s (.bool y0))
def zLE:zAE:=zAF fun xs r=>∃ n,zRl n xs r
theorem zQG:PSound Tryz.prog 150 zLE:=by
 have gok:∀ f s,look? f [(110,zIW)]=some s->PSound Tryz.prog f s:=zAC (by
  simp only[List.forall_mem_cons]
  exact⟨zKO,by simp⟩)
 refine zAG tokW Tryz.call150 Tryz.func150 rfl (fun xs r h=>by obtain⟨n,_,_,_,_,rfl,_⟩:=h; show 2<=15; decide) 15 rfl ?_;rintro xs r w0 G0 ⟨n,⟨n1A,n1C,n1D,n1B⟩,pos2,y0,h,rfl,rfl⟩ _;rw[zEN]at h;refine zXL [] [] rfl ?_;show Tri ..;refine zXL [] [] rfl ?_;obtain⟨⟨y3,y4⟩,hy3,h⟩:=zAc h;refine⟨_,⟨_,_,_,_,_,hy3,rfl,rfl⟩,?_⟩
 show Tri ..;refine zXL [] [] rfl ?_;show Tri ..;refine zAk ?_;have hy:=Option.some.inj h;subst hy;unfold zAA;exact⟨_,Le.refl _ _,rfl,rfl⟩
def zS7 (xs:List AV) (r:Ret):Prop:=∃ (a0:List Int) (a1:Int) (y0:Int) (y1:Int),zFE a0 a1=some (y0,y1)/\xs=[.s (.sl 1 ((List.map (irow .i64)) a0)),.s (.int .i64 a1)]/\r = .val (.tup [.s (.int .i64 y0),.s (.int .i64 y1)])
def zNm:zAE:=zAF fun xs r=>zS7 xs r
theorem zRV:PSound Tryz.prog 151 zNm:=by
 have gok:=@gok0 Tryz.prog;refine zAG tokW Tryz.call151 Tryz.func151 rfl (fun xs r h=>by obtain⟨_,_,_,_,_,rfl,_⟩:=h; show 2<=28; decide) 28 rfl ?_;rintro xs r w0 G0 ⟨pos1,k2,y0,y1,h,rfl,rfl⟩ _;rw[zFE]at h;refine zXL [] [] rfl ?_;show Tri ..;refine zAa ?_;refine zXL [] [7] rfl ?_;intro n3 hn3;obtain rfl:(pos1.length:Int)=n3:=(hn3.trans (congrArg (fun m:Nat=>(m:Int)) (rlen (fun _=>rfl) pos1))).symm;show Tri ..;refine zAq rfl h (fun hb h=>?_) (fun hb h=>?_)
 ·refine zAa ?_;refine zAO [] [13,17] [] rfl (by decide +kernel) ?_;obtain⟨e4,he4,h⟩:=zAc h;refine And.intro (zAD (fun _=>rfl) he4).1 ?_;intro r5 hr5;obtain rfl:[.int .i64 e4]=r5:=(hr5.trans (zAD (fun _=>rfl) he4).2.1).symm;obtain⟨e6,he6,h⟩:=zAc h;refine And.intro (zAD (fun _=>rfl) he6).1 ?_;intro r7 hr7;obtain rfl:[.int .i64 e6]=r7:=(hr7.trans (zAD (fun _=>rfl) he6).2.1).symm;show Tri ..;refine zAk ?_;obtain⟨hj1,hk1⟩:=pij h;subst hj1 hk1;unfold zAA;exact⟨_,Le.refl _ _,rfl,rfl⟩
 ·refine zAn ?_;show Tri ..;refine zAa ?_;refine zAO [] [21,25] [] rfl (by decide +kernel) ?_;obtain⟨e8,he8,h⟩:=zAc h;refine And.intro (zAD (fun _=>rfl) he8).1 ?_;intro r9 hr9;obtain rfl:[.int .i64 e8]=r9:=(hr9.trans (zAD (fun _=>rfl) he8).2.1).symm;obtain⟨e10,he10,h⟩:=zAc h;refine And.intro (zAD (fun _=>rfl) he10).1 ?_;intro r11 hr11;obtain rfl:[.int .i64 e10]=r11:=(hr11.trans (zAD (fun _=>rfl) he10).2.1).symm;show Tri ..;refine zAk ?_;obtain⟨hj1,hk1⟩:=pij h;subst hj1 hk1;unfold zAA;exact⟨_,Le.refl _ _,rfl,rfl⟩
def zAt (p:(List Int×Int×Int)):List S:=[.sl 1 ((List.map (irow .i64)) p.1),.int .i64 p.2.1,.int .i64 p.2.2]
def zOk (n:Nat) (xs:List AV) (r:Ret):Prop:=∃ (a0:Nd) (a1:List Int) (a2:List Int) (y0:(List Int×Int×Int)) (y1:Int),zCq n a0 a1 a2=some (y0,y1)/\xs=[.agg ((Nd.enc a0).map .s),.s (.sl 1 ((List.map (irow .i64)) a1)),.s (.sl 1 ((List.map (irow .i64)) a2))]/\r = .val (.tup [.agg ((zAt y0).map .s),.s (.int .i64 y1)])
def zJr:zAE:=zAF fun xs r=>∃ n,zOk n xs r
theorem zM1:PSound Tryz.prog 138 zJr:=by
 have gok:∀ f s,look? f [(25,zCw),(150,zLE),(151,zNm)]=some s->PSound Tryz.prog f s:=zAC (by
  simp only[List.forall_mem_cons]
  exact⟨zCt,zQG,zRV,by simp⟩)
 refine zAG tokW Tryz.call138 Tryz.func138 rfl (fun xs r h=>by obtain⟨n,_,_,_,_,_,_,rfl,_⟩:=h; show 3<=90; decide) 90 rfl ?_;rintro xs r w0 G0 ⟨n,⟨a1A,a1C,a1D,a1B⟩,a2,a3,y0,y1,h,rfl,rfl⟩ _;rw[zCq]at h;refine zXL [6] [] rfl ?_;show Tri ..;refine zAa ?_;refine zXL [] [] rfl ?_;obtain⟨y4,hy4,h⟩:=zAc h;refine⟨_,⟨_,_,_,hy4,rfl,rfl⟩,?_⟩
 show Tri ..;refine zAq rfl h (fun hb h=>?_) (fun hb h=>?_)
 ·refine zXL [] [] rfl ?_;show Tri ..;refine zAk ?_;obtain⟨hj1,hk1⟩:=pij h;subst hj1 hk1;unfold zAA;exact⟨_,Le.refl _ _,rfl,rfl⟩
 ·refine zAn ?_;show Tri ..;refine zAa ?_;refine zAa ?_;obtain⟨x5,hj,h⟩:=zAc h;refine zAz ⟨ofL [(1,.s (.sl 1 ((List.map (irow .i64)) a2))),(2,.s (.sl 1 ((List.map (irow .i64)) a3))),(6,.op 0 0),(26,.s (.bool x5))],ofH [(0,.box 118 [.nl 1,.s (.int .i64 0),.s (.int .i64 0)])],1⟩ ?_ (fun σ' hle=>?_)
  ·replace h:=hj;refine zAb [] [21] rfl ?_;obtain⟨y6,hy6,h⟩:=zAc h;refine⟨_,⟨_,_,_,_,hy6,rfl,rfl⟩,?_⟩
   intro b hb;cases b with
   | true =>
    replace h:=zAI hb.symm h;cases h;exact(Le.rnm [(0,0)] _ _ _ ⟨rfl,rfl,rfl,rfl,trivial⟩ ⟨rfl,⟨_,rfl,rfl⟩,trivial⟩)
   | false =>
    replace h:=zAH hb.symm h;obtain⟨y7,hy7,h⟩:=zAc h;refine⟨_,⟨_,_,_,_,hy7,rfl,rfl⟩,?_⟩
    cases h;exact(Le.rnm [(0,0)] _ _ _ ⟨rfl,rfl,rfl,rfl,trivial⟩ ⟨rfl,⟨_,rfl,rfl⟩,trivial⟩)
  ·show Tri ..;refine zAs hle ?_;refine zAq rfl h (fun hb h=>?_) (fun hb h=>?_)
   ·refine zXL [] [] rfl ?_;show Tri ..;refine zAk ?_;obtain⟨hj1,hk1⟩:=pij h;subst hj1 hk1;unfold zAA;exact⟨_,Le.refl _ _,rfl,rfl⟩
   ·refine zAn ?_;show Tri ..;refine zXL [] [] rfl ?_;show Tri ..;refine zAa ?_;obtain⟨x9,hl,h⟩:=zAc h;refine zAz ⟨ofL [(1,.s (.sl 1 ((List.map (irow .i64)) a2))),(2,.s (.sl 1 ((List.map (irow .i64)) a3))),(6,.op 0 0),(8,.s (.int .i64 x9))],ofH [(0,.box 118 [.nl 1,.s (.int .i64 0),.s (.int .i64 0)])],1⟩ ?_ (fun σ' hle=>?_)
    ·refine zAw (zAL (X:=Nat×Int) (fun y=>match y with | (k,x8)=>⟨ofL [(1,.s (.sl 1 ((List.map (irow .i64)) a2))),(2,.s (.sl 1 ((List.map (irow .i64)) a3))),(6,.op 0 0),(8,.s (.int .i64 x8))],ofH [(0,.box 118 [.nl 1,.s (.int .i64 0),.s (.int .i64 0)])],1⟩) (fun y=>zBT a2 a3 y.1 y.2=some x9) (fun y=>y.1) (n,0) hl ?_ ?_)
     ·exact(Le.rnm [(0,0)] _ _ _ ⟨rfl,rfl,rfl,rfl,trivial⟩ ⟨rfl,⟨_,rfl,rfl⟩,trivial⟩)
     ·rintro⟨k,x8⟩ h;cases k with
      | zero=>cases h
      | succ k =>
       replace h:zBT a2 a3 (k+1) x8=some x9:=h;rw[zBT]at h;refine zAa ?_;refine zAa ?_;obtain⟨x10,hj,h⟩:=zAc h;refine zAz ⟨ofL [(1,.s (.sl 1 ((List.map (irow .i64)) a2))),(2,.s (.sl 1 ((List.map (irow .i64)) a3))),(6,.op 0 0),(8,.s (.int .i64 x8)),(63,.s (.bool x10))],ofH [(0,.box 118 [.nl 1,.s (.int .i64 0),.s (.int .i64 0)])],1⟩ ?_ (fun σ' hle=>?_)
       ·replace h:=hj;refine zAO [] [31,33,37,40,43,47,51,55,60] [] rfl (by decide +kernel) ?_;intro n11 hn11;obtain rfl:(a2.length:Int)=n11:=(hn11.trans (congrArg (fun m:Nat=>(m:Int)) (rlen (fun _=>rfl) a2))).symm;intro b hb;cases b with
        | true =>
         replace h:=zAI hb.symm h;intro n12 hn12;obtain rfl:(a3.length:Int)=n12:=(hn12.trans (congrArg (fun m:Nat=>(m:Int)) (rlen (fun _=>rfl) a3))).symm;intro b hb;cases b with
         | true =>
          replace h:=zAI hb.symm h;obtain⟨e13,he13,h⟩:=zAc h;refine And.intro (zAD (fun _=>rfl) he13).1 ?_;intro r14 hr14;obtain rfl:[.int .i64 e13]=r14:=(hr14.trans (zAD (fun _=>rfl) he13).2.1).symm;obtain⟨e15,he15,h⟩:=zAc h;refine And.intro (zAD (fun _=>rfl) he15).1 ?_;intro r16 hr16;obtain rfl:[.int .i64 e15]=r16:=(hr16.trans (zAD (fun _=>rfl) he15).2.1).symm;intro b hb;cases b with
          | true =>
           replace h:=zAI hb.symm h;obtain⟨e17,he17,h⟩:=zAc h;refine And.intro (zAD (fun _=>rfl) he17).1 ?_;intro r18 hr18;obtain rfl:[.int .i64 e17]=r18:=(hr18.trans (zAD (fun _=>rfl) he17).2.1).symm;obtain⟨e19,he19,h⟩:=zAc h;refine And.intro (zAD (fun _=>rfl) he19).1 ?_;intro r20 hr20;obtain rfl:[.int .i64 e19]=r20:=(hr20.trans (zAD (fun _=>rfl) he19).2.1).symm;cases h;exact(Le.rnm [(0,0)] _ _ _ ⟨rfl,rfl,rfl,rfl,rfl,trivial⟩ ⟨rfl,⟨_,rfl,rfl⟩,trivial⟩)
          | false =>
           replace h:=zAH hb.symm h;cases h;exact(Le.rnm [(0,0)] _ _ _ ⟨rfl,rfl,rfl,rfl,rfl,trivial⟩ ⟨rfl,⟨_,rfl,rfl⟩,trivial⟩)
         | false =>
          replace h:=zAH hb.symm h;intro b hb;subst hb;cases h;exact(Le.rnm [(0,0)] _ _ _ ⟨rfl,rfl,rfl,rfl,rfl,trivial⟩ ⟨rfl,⟨_,rfl,rfl⟩,trivial⟩)
        | false =>
         replace h:=zAH hb.symm h;intro b hb;subst hb;intro b hb;subst hb;cases h;exact(Le.rnm [(0,0)] _ _ _ ⟨rfl,rfl,rfl,rfl,rfl,trivial⟩ ⟨rfl,⟨_,rfl,rfl⟩,trivial⟩)
       ·show Tri ..;refine zAs hle ?_;refine zAq rfl h (fun hb h=>?_) (fun hb h=>?_)
        ·refine zAn ?_;show Tri ..;refine zAw ?_;refine zAb [] [] rfl ?_;refine⟨(k,IntKind.i64.wrap (x8+2)),h,(Le.rnm [(0,0)] _ _ _ ⟨rfl,rfl,rfl,rfl,trivial⟩ ⟨rfl,⟨_,rfl,rfl⟩,trivial⟩),Nat.lt_succ_self k⟩
        ·refine zAP ?_;cases h;exact(Le.rnm [(0,0)] _ _ _ ⟨rfl,rfl,rfl,rfl,trivial⟩ ⟨rfl,⟨_,rfl,rfl⟩,trivial⟩)
    ·show Tri ..;refine zAs hle ?_;refine zXL [] [] rfl ?_;obtain⟨⟨y21,y22⟩,hy21,h⟩:=zAc h;refine⟨_,⟨_,_,_,_,hy21,rfl,rfl⟩,?_⟩
     show Tri ..;refine zXL [] [] rfl ?_;obtain⟨⟨y23,y24⟩,hy23,h⟩:=zAc h;refine⟨_,⟨_,_,_,_,hy23,rfl,rfl⟩,?_⟩
     show Tri ..;refine zXL [78,82] [81] rfl ?_;obtain⟨hq,h⟩:=zAJ h;refine And.intro ⟨hq.1,hq.2.1,Int.le_trans hq.2.2 (Int.ofNat_le.2 (Nat.le_of_eq (rlen (fun _=>rfl) _).symm))⟩ ?_;intro r25 hr25;obtain rfl:(List.map (irow .i64)) ((a2.take x9.toNat).drop (0:Int).toNat)=r25:=(hr25.trans (rcut (fun _=>rfl) _ _ _)).symm;obtain⟨hq,h⟩:=zAJ h
     refine And.intro (show(([]:List (List S)).length+((List.map (irow .i64)) ((a2.take x9.toNat).drop (0:Int).toNat)).length) * 8<=140737488355328/\([]:List (List S)).length+((List.map (irow .i64)) ((a2.take x9.toNat).drop (0:Int).toNat)).length<=9223372036854775807 from by simp only[List.length_append,List.length_cons,List.length_nil,List.length_map,rlen (fun _=>rfl)]at hq ⊢; omega) ?_;show Tri ..
     refine zAs (Le.rnm [(0,0),(2,1)] [(6,.op 0 0),(7,.s (.int .i64 0))] [(0,.box 118 [.orow 1,.s (.int .i64 (if y23<y21 then y23 else y21)),.s (.int .i64 (if y22<y24 then y24 else y22))]),(1,.row 3 1 ((List.map (irow .i64)) ((a2.take x9.toNat).drop (0:Int).toNat)))] 2 ⟨rfl,rfl,trivial⟩ ⟨rfl,⟨_,rfl,rfl⟩,rfl,⟨_,rfl,congrArg (Ob.row 3 1) (by simp[List.map_append,List.map_take,List.map_drop,irow,brow,zAB,List.map_cons,List.map_nil,zAy,Nd.encs_eq,Nd.enc,zAi,zAh,zAv,zAo,zAj,zAl,zAd,zAg,zAp,zAf,zAe,zAx])⟩,trivial⟩) ?_
     refine zAk ?_;obtain⟨hj1,hk1⟩:=pij h;subst hj1 hk1;unfold zAA;exact⟨_,(Le.trans (Le.rnm [(0,0),(1,1)] [(6,.op 0 0),(7,.s (.int .i64 0))] [(0,.box 118 [.orow 1,.s (.int .i64 (if y23<y21 then y23 else y21)),.s (.int .i64 (if y22<y24 then y24 else y22))]),(1,.row 3 1 ((List.map (irow .i64)) ((a2.take x9.toNat).drop (0:Int).toNat)))] 2 ⟨rfl,rfl,trivial⟩ ⟨rfl,⟨_,rfl,rfl⟩,rfl,⟨_,rfl,rfl⟩,trivial⟩) (Le.giveRow 1 rfl)),rfl,rfl⟩
def zVm (n:Nat) (xs:List AV) (r:Ret):Prop:=∃ (a0:Nd) (a1:zCu) (y0:(List Int×Int×Int)) (y1:Int),zJF n a0 a1=some (y0,y1)/\xs=[.agg ((Nd.enc a0).map .s),.agg ((zAp a1).map .s)]/\r = .val (.tup [.agg ((zAt y0).map .s),.s (.int .i64 y1)])
def zSm:zAE:=zAF fun xs r=>∃ n,zVm n xs r
theorem zUI:PSound Tryz.prog 108 zSm:=by
 have gok:∀ f s,look? f [(138,zJr)]=some s->PSound Tryz.prog f s:=zAC (by
  simp only[List.forall_mem_cons]
  exact⟨zM1,by simp⟩)
 refine zAG tokW Tryz.call108 Tryz.func108 rfl (fun xs r h=>by obtain⟨n,_,_,_,_,_,rfl,_⟩:=h; show 2<=26; decide) 26 rfl ?_;rintro xs r w0 G0 ⟨n,⟨n1A,n1C,n1D,n1B⟩,⟨c2Q,c2V⟩,y0,y1,h,rfl,rfl⟩ _;rw[zJF]at h;refine zXL [4] [] rfl ?_;show Tri ..;refine zAa ?_;refine zXL [] [8] rfl ?_;intro n3 hn3;obtain rfl:(c2V.length:Int)=n3:=(hn3.trans (congrArg (fun m:Nat=>(m:Int)) (rlen (fun _=>rfl) c2V))).symm;show Tri ..;refine zAq rfl h (fun hb h=>?_) (fun hb h=>?_)
 ·refine zXL [] [] rfl ?_;obtain⟨⟨⟨y4E,y4Ab,y4Ah⟩,y5⟩,hy4,h⟩:=zAc h;refine⟨_,⟨_,_,_,_,_,_,hy4,rfl,rfl⟩,?_⟩
  show Tri ..;refine zAk ?_;obtain⟨hj1,hk1⟩:=pij h;subst hj1 hk1;unfold zAA;exact⟨_,Le.refl _ _,rfl,rfl⟩
 ·refine zAn ?_;show Tri ..;refine zXL [] [] rfl ?_;obtain⟨⟨⟨y6E,y6Ab,y6Ah⟩,y7⟩,hy6,h⟩:=zAc h;refine⟨_,⟨_,_,_,_,_,_,hy6,rfl,rfl⟩,?_⟩
  show Tri ..;refine zAk ?_;obtain⟨hj1,hk1⟩:=pij h;subst hj1 hk1;unfold zAA;exact⟨_,Le.refl _ _,rfl,rfl⟩
def zRr (n:Nat) (xs:List AV) (r:Ret):Prop:=∃ (a0:Nd) (a1:zCu) (y0:(List Int×Int×Int)) (y1:Int),zCd n a0 a1=some (y0,y1)/\xs=[.agg ((Nd.enc a0).map .s),.agg ((zAp a1).map .s)]/\r = .val (.tup [.agg ((zAt y0).map .s),.s (.int .i64 y1)])
def zDg:zAE:=zAF fun xs r=>∃ n,zRr n xs r
theorem zDw:PSound Tryz.prog 71 zDg:=by
 have gok:∀ f s,look? f [(108,zSm)]=some s->PSound Tryz.prog f s:=zAC (by
  simp only[List.forall_mem_cons]
  exact⟨zUI,by simp⟩)
 refine zAG tokW Tryz.call71 Tryz.func71 rfl (fun xs r h=>by obtain⟨n,_,_,_,_,_,rfl,_⟩:=h; show 2<=11; decide) 11 rfl ?_;rintro xs r w0 G0 ⟨n,⟨n1A,n1C,n1D,n1B⟩,⟨c2Q,c2V⟩,y0,y1,h,rfl,rfl⟩ _;rw[zCd]at h;refine zXL [4] [] rfl ?_;show Tri ..;refine zXL [] [] rfl ?_;obtain⟨⟨⟨y3E,y3Ab,y3Ah⟩,y4⟩,hy3,h⟩:=zAc h;refine⟨_,⟨_,_,_,_,_,hy3,rfl,rfl⟩,?_⟩
 show Tri ..;refine zAk ?_;obtain⟨hj1,hk1⟩:=pij h;subst hj1 hk1;unfold zAA;exact⟨_,Le.refl _ _,rfl,rfl⟩
def zS3 (n:Nat) (xs:List AV) (r:Ret):Prop:=∃ (a0:Nd) (a1:List Int) (y0:Nd) (y1:Bool),zGO n a0 a1=some (y0,y1)/\xs=[.agg ((Nd.enc a0).map .s),.s (.sl 1 ((List.map (irow .i64)) a1))]/\r = .val (.tup [.agg ((Nd.enc y0).map .s),.s (.bool y1)])
def zNg:zAE:=zAF fun xs r=>∃ n,zS3 n xs r
theorem zRP:PSound Tryz.prog 109 zNg:=by
 have gok:=@gok0 Tryz.prog;refine zAG tokW Tryz.call109 Tryz.func109 rfl (fun xs r h=>by obtain⟨n,_,_,_,_,_,rfl,_⟩:=h; show 2<=57; decide) 57 rfl ?_;rintro xs r w0 G0 ⟨n,⟨n1A,n1C,n1D,n1B⟩,path2,y0,y1,h,rfl,rfl⟩ _;rw[zGO]at h;refine zXL [2,4] [] rfl ?_;show Tri ..;refine zAa ?_;obtain⟨fl,hl,ho1⟩:=zAc h
 refine zBH (fl:=fl) (fun z=>match z with | ⟨path9,x10,x11,x12,x13⟩=>⟨ofL [(1,.s (.sl 1 ((List.map (irow .i64)) path9))),(2,.op 0 0),(4,.op 1 0)],ofH [(0,.box 24 [.s (.int .i64 x10),.s (.str x11),.s (.int .i64 x12),.s (.sl 4 (Nd.encs x13))]),(1,.box 24 [.s (.int .i64 0),.s (.str []),.s (.int .i64 0),.nl 4])],2⟩) ?_ (fun z σ' hz hle=>?_)
 ·refine zAw (zAL (X:=Nat×Int×(List UInt8)×Int×(List Nd)×(List Int)) (fun y=>match y with | (k,x3,x4,x5,x6,path8)=>⟨ofL [(1,.s (.sl 1 ((List.map (irow .i64)) path8))),(2,.op 0 0),(4,.op 1 0)],ofH [(0,.box 24 [.s (.int .i64 x3),.s (.str x4),.s (.int .i64 x5),.s (.sl 4 (Nd.encs x6))]),(1,.box 24 [.s (.int .i64 0),.s (.str []),.s (.int .i64 0),.nl 4])],2⟩) (fun y=>zBY  y.1 y.2.1 y.2.2.1 y.2.2.2.1 y.2.2.2.2.1 y.2.2.2.2.2=some fl) (fun y=>y.1) (n,n1A,n1C,n1D,n1B,path2) hl ?_ ?_)
  ·exact(Le.rnm [(0,0),(1,1)] _ _ _ ⟨rfl,rfl,rfl,trivial⟩ ⟨rfl,⟨_,rfl,rfl⟩,rfl,⟨_,rfl,rfl⟩,trivial⟩)
  ·rintro⟨k,x3,x4,x5,x6,path8⟩ h;cases k with
   | zero=>cases h
   | succ k =>
    replace h:zBY  (k+1) x3 x4 x5 x6 path8=some fl:=h;rw[zBY]at h;refine zAa ?_;refine zXL [] [7] rfl ?_;intro n14 hn14;obtain rfl:(path8.length:Int)=n14:=(hn14.trans (congrArg (fun m:Nat=>(m:Int)) (rlen (fun _=>rfl) path8))).symm;show Tri ..;refine zAq rfl h (fun hb h=>?_) (fun hb h=>?_)
    ·refine zAn ?_;show Tri ..;refine zAw ?_;refine zAa ?_;refine zAa ?_;obtain⟨x15,hj,h⟩:=zAc h;refine zAz ⟨ofL [(1,.s (.sl 1 ((List.map (irow .i64)) path8))),(2,.op 0 0),(4,.op 1 0),(21,.s (.bool x15))],ofH [(0,.box 24 [.s (.int .i64 x3),.s (.str x4),.s (.int .i64 x5),.s (.sl 4 (Nd.encs x6))]),(1,.box 24 [.s (.int .i64 0),.s (.str []),.s (.int .i64 0),.nl 4])],2⟩ ?_ (fun σ' hle=>?_)
     ·replace h:=hj;refine zAO [] [10,13,15,19] [9] rfl (by decide +kernel) ?_;obtain⟨e16,he16,h⟩:=zAc h;refine And.intro (zAD (fun _=>rfl) he16).1 ?_;intro r17 hr17;obtain rfl:[.int .i64 e16]=r17:=(hr17.trans (zAD (fun _=>rfl) he16).2.1).symm;intro b hb;cases b with
      | true =>
       replace h:=zAI hb.symm h;cases h;exact(Le.rnm [(0,0),(1,1)] _ _ _ ⟨rfl,rfl,rfl,rfl,trivial⟩ ⟨rfl,⟨_,rfl,rfl⟩,rfl,⟨_,rfl,rfl⟩,trivial⟩)
      | false =>
       replace h:=zAH hb.symm h;obtain⟨e18,he18,h⟩:=zAc h;refine And.intro (zAD (fun _=>rfl) he18).1 ?_;intro r19 hr19;obtain rfl:[.int .i64 e18]=r19:=(hr19.trans (zAD (fun _=>rfl) he18).2.1).symm;intro n20 hn20;obtain rfl:(x6.length:Int)=n20:=(hn20.trans (congrArg (fun m:Nat=>(m:Int)) (rlen Nd.encs_eq x6))).symm;cases h;exact(Le.rnm [(0,0),(1,1)] _ _ _ ⟨rfl,rfl,rfl,rfl,trivial⟩ ⟨rfl,⟨_,rfl,rfl⟩,rfl,⟨_,rfl,rfl⟩,trivial⟩)
     ·show Tri ..;refine zAs hle ?_;refine zAq rfl h (fun hb h=>?_) (fun hb h=>?_)
      ·refine zXL [] [] rfl ?_;show Tri ..;refine zAk ?_;cases h;replace h:some _=some _:=ho1;obtain⟨hj1,hk1⟩:=pij h;subst hj1 hk1;unfold zAA;exact⟨_,Le.refl _ _,rfl,rfl⟩
      ·refine zAn ?_;show Tri ..;refine zAa ?_;refine zAO [] [26,28] [1,7] rfl (by decide +kernel) ?_;obtain⟨e21,he21,h⟩:=zAc h;refine And.intro (zAD (fun _=>rfl) he21).1 ?_;intro r22 hr22;obtain rfl:[.int .i64 e21]=r22:=(hr22.trans (zAD (fun _=>rfl) he21).2.1).symm;obtain⟨⟨e23A,e23C,e23D,e23B⟩,he23,h⟩:=zAc h;refine And.intro (zAD Nd.encs_eq he23).1 ?_;intro r24 hr24;obtain rfl:[.int .i64 e23A,.str e23C,.int .i64 e23D,.sl 4 (Nd.encs e23B)]=r24:=(hr24.trans (zAD Nd.encs_eq he23).2.1).symm;show Tri ..;refine zAa ?_;refine zAa ?_;obtain⟨x25,hj,h⟩:=zAc h
       refine zAz ⟨ofL [(1,.s (.sl 1 ((List.map (irow .i64)) path8))),(2,.op 0 0),(4,.op 1 0),(42,.s (.bool x25))],ofH [(0,.box 24 [.s (.int .i64 e23A),.s (.str e23C),.s (.int .i64 e23D),.s (.sl 4 (Nd.encs e23B))]),(1,.box 24 [.s (.int .i64 0),.s (.str []),.s (.int .i64 0),.nl 4])],2⟩ ?_ (fun σ' hle=>?_)
       ·replace h:=hj;refine zAO [] [31,34,36,40] [9] rfl (by decide +kernel) ?_;obtain⟨e26,he26,h⟩:=zAc h;refine And.intro (zAD (fun _=>rfl) he26).1 ?_;intro r27 hr27;obtain rfl:[.int .i64 e26]=r27:=(hr27.trans (zAD (fun _=>rfl) he26).2.1).symm;intro b hb;cases b with
        | true =>
         replace h:=zAI hb.symm h;cases h;exact(Le.rnm [(0,0),(1,1)] _ _ _ ⟨rfl,rfl,rfl,rfl,trivial⟩ ⟨rfl,⟨_,rfl,rfl⟩,rfl,⟨_,rfl,rfl⟩,trivial⟩)
        | false =>
         replace h:=zAH hb.symm h;obtain⟨e28,he28,h⟩:=zAc h;refine And.intro (zAD (fun _=>rfl) he28).1 ?_;intro r29 hr29;obtain rfl:[.int .i64 e28]=r29:=(hr29.trans (zAD (fun _=>rfl) he28).2.1).symm;intro n30 hn30;obtain rfl:(e23B.length:Int)=n30:=(hn30.trans (congrArg (fun m:Nat=>(m:Int)) (rlen Nd.encs_eq e23B))).symm;cases h;exact(Le.rnm [(0,0),(1,1)] _ _ _ ⟨rfl,rfl,rfl,rfl,trivial⟩ ⟨rfl,⟨_,rfl,rfl⟩,rfl,⟨_,rfl,rfl⟩,trivial⟩)
       ·show Tri ..;refine zAs hle ?_;refine zAq rfl h (fun hb h=>?_) (fun hb h=>?_)
        ·refine zXL [] [] rfl ?_;show Tri ..;refine zAk ?_;cases h;replace h:some _=some _:=ho1;obtain⟨hj1,hk1⟩:=pij h;subst hj1 hk1;unfold zAA;exact⟨_,Le.refl _ _,rfl,rfl⟩
        ·refine zAn ?_;show Tri ..;refine zAa ?_;refine zAO [] [47,49] [1,7] rfl (by decide +kernel) ?_;obtain⟨e31,he31,h⟩:=zAc h;refine And.intro (zAD (fun _=>rfl) he31).1 ?_;intro r32 hr32;obtain rfl:[.int .i64 e31]=r32:=(hr32.trans (zAD (fun _=>rfl) he31).2.1).symm;obtain⟨⟨e33A,e33C,e33D,e33B⟩,he33,h⟩:=zAc h;refine And.intro (zAD Nd.encs_eq he33).1 ?_;intro r34 hr34;obtain rfl:[.int .i64 e33A,.str e33C,.int .i64 e33D,.sl 4 (Nd.encs e33B)]=r34:=(hr34.trans (zAD Nd.encs_eq he33).2.1).symm;show Tri ..;refine zAb [] [52] rfl ?_;obtain⟨hq,h⟩:=zAJ h
         refine And.intro ⟨hq.1,Int.le_trans hq.2.1 (Int.ofNat_le.2 (Nat.le_of_eq (rlen (fun _=>rfl) _).symm)),Int.le_refl _⟩ ?_;intro r35 hr35;obtain rfl:(List.map (irow .i64)) ((path8.take (path8.length:Int).toNat).drop (2:Int).toNat)=r35:=(hr35.trans ((congrArg (fun m:Nat=>(((List.map (irow .i64)) path8).take m).drop (2:Int).toNat) (rlen (fun _=>rfl) _)).trans (rcut (fun _=>rfl) _ _ _))).symm;refine⟨(k,e33A,e33C,e33D,e33B,(path8.take (path8.length:Int).toNat).drop (2:Int).toNat),h,(Le.rnm [(0,0),(1,1)] _ _ _ ⟨rfl,rfl,rfl,trivial⟩ ⟨rfl,⟨_,rfl,rfl⟩,rfl,⟨_,rfl,rfl⟩,trivial⟩),Nat.lt_succ_self k⟩
    ·refine zAP ?_;cases h;exact⟨_,rfl,(Le.rnm [(0,0),(1,1)] _ _ _ ⟨rfl,rfl,rfl,trivial⟩ ⟨rfl,⟨_,rfl,rfl⟩,rfl,⟨_,rfl,rfl⟩,trivial⟩)⟩
 ·subst hz;obtain⟨path9,x10,x11,x12,x13⟩:=z;replace h:=ho1;show Tri ..;refine zAs hle ?_;refine zXL [] [55] rfl ?_;intro n36 hn36;obtain rfl:(path9.length:Int)=n36:=(hn36.trans (congrArg (fun m:Nat=>(m:Int)) (rlen (fun _=>rfl) path9))).symm;show Tri ..;refine zAk ?_;obtain⟨hj1,hk1⟩:=pij h;subst hj1 hk1;unfold zAA;exact⟨_,Le.refl _ _,rfl,rfl⟩
def zT0 (n:Nat) (xs:List AV) (r:Ret):Prop:=∃ (a0:Nd) (a1:List Int) (y0:Nd) (y1:Int),zFa n a0 a1=some (y0,y1)/\xs=[.agg ((Nd.enc a0).map .s),.s (.sl 1 ((List.map (irow .i64)) a1))]/\r = .val (.tup [.agg ((Nd.enc y0).map .s),.s (.int .i64 y1)])
def zHz:zAE:=zAF fun xs r=>∃ n,zT0 n xs r
theorem zIf:PSound Tryz.prog 76 zHz:=by
 have gok:∀ f s,look? f [(25,zCw),(109,zNg)]=some s->PSound Tryz.prog f s:=zAC (by
  simp only[List.forall_mem_cons]
  exact⟨zCt,zRP,by simp⟩)
 refine zAG tokW Tryz.call76 Tryz.func76 rfl (fun xs r h=>by obtain⟨n,_,_,_,_,_,rfl,_⟩:=h; show 2<=22; decide) 22 rfl ?_;rintro xs r w0 G0 ⟨n,⟨n1A,n1C,n1D,n1B⟩,path2,y0,y1,h,rfl,rfl⟩ _;rw[zFa]at h;refine zXL [4] [] rfl ?_;show Tri ..;refine zAa ?_;refine zXL [] [] rfl ?_;obtain⟨y3,hy3,h⟩:=zAc h;refine⟨_,⟨_,_,_,hy3,rfl,rfl⟩,?_⟩
 show Tri ..;refine zAq rfl h (fun hb h=>?_) (fun hb h=>?_)
 ·refine zXL [] [] rfl ?_;show Tri ..;refine zAk ?_;obtain⟨hj1,hk1⟩:=pij h;subst hj1 hk1;unfold zAA;exact⟨_,Le.refl _ _,rfl,rfl⟩
 ·refine zAn ?_;show Tri ..;refine zXL [6] [] rfl ?_;obtain⟨⟨⟨y4A,y4C,y4D,y4B⟩,y5⟩,hy4,h⟩:=zAc h;refine⟨_,⟨_,_,_,_,_,hy4,rfl,rfl⟩,?_⟩
  show Tri ..;refine zAs (Le.giveBox 1 [.int .i64 y4A,.str y4C,.int .i64 y4D,.sl 4 (Nd.encs y4B)] rfl rfl) ?_;refine zAa ?_;refine zXL [] [] rfl ?_;show Tri ..;refine zAq rfl h (fun hb h=>?_) (fun hb h=>?_)
  ·refine zXL [] [] rfl ?_;show Tri ..;refine zAk ?_;obtain⟨hj1,hk1⟩:=pij h;subst hj1 hk1;unfold zAA;exact⟨_,Le.refl _ _,rfl,rfl⟩
  ·refine zAn ?_;show Tri ..;refine zXL [] [] rfl ?_;show Tri ..;refine zAk ?_;obtain⟨hj1,hk1⟩:=pij h;subst hj1 hk1;unfold zAA;exact⟨_,Le.refl _ _,rfl,rfl⟩
def zRm (n:Nat) (xs:List AV) (r:Ret):Prop:=∃ (a0:Nd) (a1:(List Int×Int×Int)) (y0:List Nd) (y1:Int),zEO n a0 a1=some (y0,y1)/\xs=[.agg ((Nd.enc a0).map .s),.agg ((zAt a1).map .s)]/\r = .val (.tup [.s (.sl 4 (Nd.encs y0)),.s (.int .i64 y1)])
def zIX:zAE:=zAF fun xs r=>∃ n,zRm n xs r
theorem zKP:PSound Tryz.prog 83 zIX:=by
 have gok:∀ f s,look? f [(76,zHz)]=some s->PSound Tryz.prog f s:=zAC (by
  simp only[List.forall_mem_cons]
  exact⟨zIf,by simp⟩)
 refine zAG tokW Tryz.call83 Tryz.func83 rfl (fun xs r h=>by obtain⟨n,_,_,_,_,_,rfl,_⟩:=h; show 2<=45; decide) 45 rfl ?_;rintro xs r w0 G0 ⟨n,⟨n1A,n1C,n1D,n1B⟩,⟨r2E,r2Ab,r2Ah⟩,y0,y1,h,rfl,rfl⟩ _;rw[zEO]at h;refine zXL [4] [] rfl ?_;show Tri ..;refine zAs (Le.rnm [] [(2,.s (.pt [.int .i64 n1A,.str n1C,.int .i64 n1D,.sl 4 (Nd.encs n1B)])),(3,.s (.pt [.sl 1 ((List.map (irow .i64)) r2E),.int .i64 r2Ab,.int .i64 r2Ah]))] [] 0 ⟨rfl,rfl,trivial⟩ trivial) ?_;refine zXL [6] [] rfl ?_;obtain⟨⟨⟨y3A,y3C,y3D,y3B⟩,y4⟩,hy3,h⟩:=zAc h
 refine⟨_,⟨_,_,_,_,_,hy3,rfl,rfl⟩,?_⟩
 show Tri ..;refine zAs (Le.giveBox 0 [.int .i64 y3A,.str y3C,.int .i64 y3D,.sl 4 (Nd.encs y3B)] rfl rfl) ?_;refine zAa ?_;refine zXL [] [] rfl ?_;show Tri ..;refine zAq rfl h (fun hb h=>?_) (fun hb h=>?_)
 ·refine zXL [4] [] rfl ?_;show Tri ..;refine zAs (Le.rnm [(1,0)] [(4,.orow 0),(5,.s (.int .i64 y4))] [(0,.row 24 4 (Nd.encs []))] 1 ⟨rfl,rfl,trivial⟩ ⟨rfl,⟨_,rfl,congrArg (Ob.row 24 4) (by simp[List.map_append,List.map_take,List.map_drop,irow,brow,zAB,List.map_cons,List.map_nil,zAy,Nd.encs_eq,Nd.enc,zAi,zAh,zAv,zAo,zAj,zAl,zAd,zAg,zAp,zAf,zAe,zAx,zAt])⟩,trivial⟩) ?_;refine zAk ?_;obtain⟨hj1,hk1⟩:=pij h;subst hj1 hk1;unfold zAA
  exact⟨_,(Le.trans (Le.rnm [(0,0)] [(4,.orow 0),(5,.s (.int .i64 y4))] [(0,.row 24 4 (Nd.encs []))] 1 ⟨rfl,rfl,trivial⟩ ⟨rfl,⟨_,rfl,rfl⟩,trivial⟩) (Le.giveRow 0 rfl)),rfl,rfl⟩
 ·refine zAn ?_;show Tri ..;refine zAa ?_;refine zAa ?_;obtain⟨x5,hj,h⟩:=zAc h;refine zAz ⟨ofL [(3,.s (.pt [.sl 1 ((List.map (irow .i64)) r2E),.int .i64 r2Ab,.int .i64 r2Ah])),(6,.s (.pt [.int .i64 y3A,.str y3C,.int .i64 y3D,.sl 4 (Nd.encs y3B)])),(35,.s (.bool x5))],fun _=>none,0⟩ ?_ (fun σ' hle=>?_)
  ·replace h:=hj;refine zAb [] [21,28,33] rfl ?_;intro b hb;cases b with
   | true =>
    replace h:=zAI hb.symm h;intro b hb;subst hb;cases h;exact(Le.rnm [] _ [] 0 ⟨rfl,rfl,rfl,trivial⟩ trivial)
   | false =>
    replace h:=zAH hb.symm h;intro b hb;cases b with
    | true =>
     replace h:=zAI hb.symm h;cases h;exact(Le.rnm [] _ [] 0 ⟨rfl,rfl,rfl,trivial⟩ trivial)
    | false =>
     replace h:=zAH hb.symm h;intro n6 hn6;obtain rfl:(y3B.length:Int)=n6:=(hn6.trans (congrArg (fun m:Nat=>(m:Int)) (rlen Nd.encs_eq y3B))).symm;cases h;exact(Le.rnm [] _ [] 0 ⟨rfl,rfl,rfl,trivial⟩ trivial)
  ·show Tri ..;refine zAs hle ?_;refine zAq rfl h (fun hb h=>?_) (fun hb h=>?_)
   ·refine zXL [4] [] rfl ?_;show Tri ..;refine zAs (Le.rnm [(0,0)] [(4,.orow 0),(5,.s (.int .i64 2))] [(0,.row 24 4 (Nd.encs []))] 1 ⟨rfl,rfl,trivial⟩ ⟨rfl,⟨_,rfl,congrArg (Ob.row 24 4) (by simp[List.map_append,List.map_take,List.map_drop,irow,brow,zAB,List.map_cons,List.map_nil,zAy,Nd.encs_eq,Nd.enc,zAi,zAh,zAv,zAo,zAj,zAl,zAd,zAg,zAp,zAf,zAe,zAx,zAt])⟩,trivial⟩) ?_;refine zAk ?_;obtain⟨hj1,hk1⟩:=pij h;subst hj1 hk1;unfold zAA
    exact⟨_,(Le.trans (Le.rnm [(0,0)] [(4,.orow 0),(5,.s (.int .i64 2))] [(0,.row 24 4 (Nd.encs []))] 1 ⟨rfl,rfl,trivial⟩ ⟨rfl,⟨_,rfl,rfl⟩,trivial⟩) (Le.giveRow 0 rfl)),rfl,rfl⟩
   ·refine zAn ?_;show Tri ..;refine zXL [36,44] [43] rfl ?_;obtain⟨hq,h⟩:=zAJ h;refine And.intro ⟨hq.1,hq.2.1,Int.le_trans hq.2.2 (Int.ofNat_le.2 (Nat.le_of_eq (rlen Nd.encs_eq _).symm))⟩ ?_;intro r7 hr7;obtain rfl:Nd.encs ((y3B.take r2Ah.toNat).drop r2Ab.toNat)=r7:=(hr7.trans (rcut Nd.encs_eq _ _ _)).symm;obtain⟨hq,h⟩:=zAJ h
    refine And.intro (show(([]:List (List S)).length+(Nd.encs ((y3B.take r2Ah.toNat).drop r2Ab.toNat)).length) * 56<=140737488355328/\([]:List (List S)).length+(Nd.encs ((y3B.take r2Ah.toNat).drop r2Ab.toNat)).length<=9223372036854775807 from by simp only[List.length_append,List.length_cons,List.length_nil,List.length_map,rlen Nd.encs_eq]at hq ⊢; omega) ?_;show Tri ..
    refine zAs (Le.rnm [(1,0)] [(4,.orow 0),(5,.s (.int .i64 0))] [(0,.row 24 4 (Nd.encs ((y3B.take r2Ah.toNat).drop r2Ab.toNat)))] 1 ⟨rfl,rfl,trivial⟩ ⟨rfl,⟨_,rfl,congrArg (Ob.row 24 4) (by simp[List.map_append,List.map_take,List.map_drop,irow,brow,zAB,List.map_cons,List.map_nil,zAy,Nd.encs_eq,Nd.enc,zAi,zAh,zAv,zAo,zAj,zAl,zAd,zAg,zAp,zAf,zAe,zAx,zAt])⟩,trivial⟩) ?_;refine zAk ?_;obtain⟨hj1,hk1⟩:=pij h;subst hj1 hk1;unfold zAA
    exact⟨_,(Le.trans (Le.rnm [(0,0)] [(4,.orow 0),(5,.s (.int .i64 0))] [(0,.row 24 4 (Nd.encs ((y3B.take r2Ah.toNat).drop r2Ab.toNat)))] 1 ⟨rfl,rfl,trivial⟩ ⟨rfl,⟨_,rfl,rfl⟩,trivial⟩) (Le.giveRow 0 rfl)),rfl,rfl⟩
def zT8 (n:Nat) (xs:List AV) (r:Ret):Prop:=∃ (a0:Nd) (a1:(List Int×Int×Int)) (y0:List zO8),zF0 n a0 a1=some y0/\xs=[.agg ((Nd.enc a0).map .s),.agg ((zAt a1).map .s)]/\r = .row 65 8 ((List.map zAl) y0)
def zJt:zAE:=zAF fun xs r=>∃ n,zT8 n xs r
theorem zKb:PSound Tryz.prog 72 zJt:=by
 have gok:∀ f s,look? f [(83,zIX)]=some s->PSound Tryz.prog f s:=zAC (by
  simp only[List.forall_mem_cons]
  exact⟨zKP,by simp⟩)
 refine zAG tokW Tryz.call72 Tryz.func72 rfl (fun xs r h=>by obtain⟨n,_,_,_,_,rfl,_⟩:=h; show 2<=23; decide) 23 rfl ?_;rintro xs r w0 G0 ⟨n,⟨n1A,n1C,n1D,n1B⟩,⟨r2E,r2Ab,r2Ah⟩,y0,h,rfl,rfl⟩ _;rw[zF0]at h;refine zXL [4] [] rfl ?_;show Tri ..;refine zAs (Le.rnm [] [(2,.s (.pt [.int .i64 n1A,.str n1C,.int .i64 n1D,.sl 4 (Nd.encs n1B)])),(3,.s (.pt [.sl 1 ((List.map (irow .i64)) r2E),.int .i64 r2Ab,.int .i64 r2Ah]))] [] 0 ⟨rfl,rfl,trivial⟩ trivial) ?_;refine zXL [] [] rfl ?_;obtain⟨⟨y3,y4⟩,hy3,h⟩:=zAc h
 refine⟨_,⟨_,_,_,_,_,hy3,rfl,rfl⟩,?_⟩
 show Tri ..;refine zAa ?_;refine zXL [] [14] rfl ?_;intro n5 hn5;obtain rfl:(y3.length:Int)=n5:=(hn5.trans (congrArg (fun m:Nat=>(m:Int)) (rlen Nd.encs_eq y3))).symm;show Tri ..;refine zAq rfl h (fun hb h=>?_) (fun hb h=>?_)
 ·refine zXL [4] [] rfl ?_;show Tri ..;refine zAs (Le.rnm [(0,0)] [(4,.orow 0)] [(0,.row 65 8 ((List.map zAl) []))] 1 ⟨rfl,trivial⟩ ⟨rfl,⟨_,rfl,congrArg (Ob.row 65 8) (by simp[List.map_append,List.map_take,List.map_drop,irow,brow,zAB,List.map_cons,List.map_nil,zAy,Nd.encs_eq,Nd.enc,zAi,zAh,zAv,zAo,zAj,zAl,zAd,zAg,zAp,zAf,zAe,zAx,zAt])⟩,trivial⟩) ?_;refine zAk ?_;have hy:=Option.some.inj h;subst hy;unfold zAA;exact⟨_,Le.refl _ _,0,rfl,rfl⟩
 ·refine zAn ?_;show Tri ..;refine zXL [22] [] rfl ?_;show Tri ..;refine zAs (Le.rnm [(0,0)] [(4,.orow 0)] [(0,.row 65 8 ((List.map zAl) [(2,r2E,r2Ab,0,y3,0,[],[])]))] 1 ⟨rfl,trivial⟩ ⟨rfl,⟨_,rfl,congrArg (Ob.row 65 8) (by simp[List.map_append,List.map_take,List.map_drop,irow,brow,zAB,List.map_cons,List.map_nil,zAy,Nd.encs_eq,Nd.enc,zAi,zAh,zAv,zAo,zAj,zAl,zAd,zAg,zAp,zAf,zAe,zAx,zAt])⟩,trivial⟩) ?_;refine zAk ?_
  have hy:=Option.some.inj h;subst hy;unfold zAA;exact⟨_,Le.refl _ _,0,rfl,rfl⟩
def zVn (xs:List AV) (r:Ret):Prop:=∃ (a0:List Int) (a1:List Int) (y0:List Int),zDK a0 a1=some y0/\xs=[.s (.sl 1 ((List.map (irow .i64)) a0)),.s (.sl 1 ((List.map (irow .i64)) a1))]/\r = .row 3 1 ((List.map (irow .i64)) y0)
def zIb:zAE:=zAF fun xs r=>zVn xs r
theorem zHZ:PSound Tryz.prog 74 zIb:=by
 have gok:=@gok0 Tryz.prog;refine zAG tokW Tryz.call74 Tryz.func74 rfl (fun xs r h=>by obtain⟨_,_,_,_,rfl,_⟩:=h; show 2<=10; decide) 10 rfl ?_;rintro xs r w0 G0 ⟨path1,more2,y0,h,rfl,rfl⟩ _;rw[zDK]at h;refine zXL [4] [] rfl ?_;show Tri ..;refine zAs (Le.rnm [] [(0,.s (.sl 1 ((List.map (irow .i64)) path1))),(1,.s (.sl 1 ((List.map (irow .i64)) more2)))] [] 0 ⟨rfl,rfl,trivial⟩ trivial) ?_;refine zXL [5,7,9] [] rfl ?_;obtain⟨hq,h⟩:=zAJ h
 refine And.intro (show(([]:List (List S)).length+((List.map (irow .i64)) path1).length) * 8<=140737488355328/\([]:List (List S)).length+((List.map (irow .i64)) path1).length<=9223372036854775807 from by simp only[List.length_append,List.length_cons,List.length_nil,List.length_map,rlen (fun _=>rfl)]at hq ⊢; omega) ?_;obtain⟨hq,h⟩:=zAJ h
 refine And.intro (show((([]:List (List S))++((List.map (irow .i64)) path1)).length+((List.map (irow .i64)) more2).length) * 8<=140737488355328/\(([]:List (List S))++((List.map (irow .i64)) path1)).length+((List.map (irow .i64)) more2).length<=9223372036854775807 from by simp only[List.length_append,List.length_cons,List.length_nil,List.length_map,rlen (fun _=>rfl)]at hq ⊢; omega) ?_;show Tri ..
 refine zAs (Le.rnm [(2,0)] [(4,.orow 0)] [(0,.row 3 1 ((List.map (irow .i64)) (path1++more2)))] 1 ⟨rfl,trivial⟩ ⟨rfl,⟨_,rfl,congrArg (Ob.row 3 1) (by simp[List.map_append,List.map_take,List.map_drop,irow,brow,zAB,List.map_cons,List.map_nil,zAy,Nd.encs_eq,Nd.enc,zAi,zAh,zAv,zAo,zAj,zAl,zAd,zAg,zAp,zAf,zAe,zAx,zAt])⟩,trivial⟩) ?_;refine zAk ?_;have hy:=Option.some.inj h;subst hy;unfold zAA;exact⟨_,Le.refl _ _,0,rfl,rfl⟩
def zMO (n:Nat) (xs:List AV) (r:Ret):Prop:=∃ (a0:List Nd) (a1:Int) (y0:Bool),zDZ n a0 a1=some y0/\xs=[.s (.sl 4 (Nd.encs a0)),.s (.int .i64 a1)]/\r = .val (.s (.bool y0))
def zID:zAE:=zAF fun xs r=>∃ n,zMO n xs r
theorem zMg:PSound Tryz.prog 112 zID:=by
 have gok:∀ f s,look? f [(70,zD0)]=some s->PSound Tryz.prog f s:=zAC (by
  simp only[List.forall_mem_cons]
  exact⟨zER,by simp⟩)
 refine zAG tokW Tryz.call112 Tryz.func112 rfl (fun xs r h=>by obtain⟨n,_,_,_,_,rfl,_⟩:=h; show 2<=37; decide) 37 rfl ?_;rintro xs r w0 G0 ⟨n,l1,slot2,y0,h,rfl,rfl⟩ _;rw[zDZ]at h;refine zXL [] [] rfl ?_;show Tri ..;refine zAa ?_;obtain⟨x3,hj,h⟩:=zAc h;refine zAz ⟨ofL [(4,.s (.bool x3))],fun _=>none,0⟩ ?_ (fun σ' hle=>?_)
 ·replace h:=hj;refine zAb [] [6,8,12,16,19,22,25,27,31,34] rfl ?_;intro n4 hn4;obtain rfl:(l1.length:Int)=n4:=(hn4.trans (congrArg (fun m:Nat=>(m:Int)) (rlen Nd.encs_eq l1))).symm;intro b hb;cases b with
  | true =>
   replace h:=zAI hb.symm h;obtain⟨y5,hy5,h⟩:=zAc h;refine⟨_,⟨_,_,_,hy5,rfl,rfl⟩,?_⟩
   intro b hb;cases b with
   | true =>
    replace h:=zAI hb.symm h;intro b hb;cases b with
    | true =>
     replace h:=zAI hb.symm h;obtain⟨⟨e6A,e6C,e6D,e6B⟩,he6,h⟩:=zAc h;refine And.intro (zAD Nd.encs_eq he6).1 ?_;intro r7 hr7;obtain rfl:[.int .i64 e6A,.str e6C,.int .i64 e6D,.sl 4 (Nd.encs e6B)]=r7:=(hr7.trans (zAD Nd.encs_eq he6).2.1).symm;intro n8 hn8;obtain rfl:(e6B.length:Int)=n8:=(hn8.trans (congrArg (fun m:Nat=>(m:Int)) (rlen Nd.encs_eq e6B))).symm;intro b hb;cases b with
     | true =>
      replace h:=zAI hb.symm h;obtain⟨⟨e9A,e9C,e9D,e9B⟩,he9,h⟩:=zAc h;refine And.intro (zAD Nd.encs_eq he9).1 ?_;intro r10 hr10;obtain rfl:[.int .i64 e9A,.str e9C,.int .i64 e9D,.sl 4 (Nd.encs e9B)]=r10:=(hr10.trans (zAD Nd.encs_eq he9).2.1).symm;obtain⟨⟨e11A,e11C,e11D,e11B⟩,he11,h⟩:=zAc h;refine And.intro (zAD Nd.encs_eq he11).1 ?_;intro r12 hr12;obtain rfl:[.int .i64 e11A,.str e11C,.int .i64 e11D,.sl 4 (Nd.encs e11B)]=r12:=(hr12.trans (zAD Nd.encs_eq he11).2.1).symm;intro n13 hn13
      obtain rfl:(e11B.length:Int)=n13:=(hn13.trans (congrArg (fun m:Nat=>(m:Int)) (rlen Nd.encs_eq e11B))).symm;cases h;exact(Le.forget _ ⟨rfl,trivial⟩)
     | false =>
      replace h:=zAH hb.symm h;cases h;exact(Le.forget _ ⟨rfl,trivial⟩)
    | false =>
     replace h:=zAH hb.symm h;intro b hb;subst hb;cases h;exact(Le.forget _ ⟨rfl,trivial⟩)
   | false =>
    replace h:=zAH hb.symm h;intro b hb;subst hb;intro b hb;subst hb;cases h;exact(Le.forget _ ⟨rfl,trivial⟩)
  | false =>
   replace h:=zAH hb.symm h;intro b hb;subst hb;intro b hb;subst hb;intro b hb;subst hb;cases h;exact(Le.forget _ ⟨rfl,trivial⟩)
 ·show Tri ..;refine zAs hle ?_;refine zAk ?_;have hy:=Option.some.inj h;subst hy;unfold zAA;exact⟨_,Le.refl _ _,rfl,rfl⟩
def zPB (n:Nat) (xs:List AV) (r:Ret):Prop:=∃ (a0:zO8) (y0:Bool),zEk n a0=some y0/\xs=[.agg ((zAl a0).map .s)]/\r = .val (.s (.bool y0))
def zHB:zAE:=zAF fun xs r=>∃ n,zPB n xs r
theorem zJJ:PSound Tryz.prog 81 zHB:=by
 have gok:∀ f s,look? f [(70,zD0),(112,zID)]=some s->PSound Tryz.prog f s:=zAC (by
  simp only[List.forall_mem_cons]
  exact⟨zER,zMg,by simp⟩)
 refine zAG tokW Tryz.call81 Tryz.func81 rfl (fun xs r h=>by obtain⟨n,_,_,_,rfl,_⟩:=h; show 1<=83; decide) 83 rfl ?_;rintro xs r w0 G0 ⟨n,⟨a1A,a1E,a1F,a1S,a1R,a1W,a1X,a1C⟩,y0,h,rfl,rfl⟩ _;rw[zEk]at h;refine zXL [] [] rfl ?_;show Tri ..;refine zAa ?_;refine zXL [] [] rfl ?_;show Tri ..;obtain⟨fl,hj,ho1⟩:=zAc h;refine zBH (fl:=fl) (fun z=>match z with | _=>⟨ofL [],fun _=>none,0⟩) ?_ (fun z σ' hz hle=>?_)
 ·replace h:=hj;refine zAw ?_;refine zAa ?_;refine zXL [] [] rfl ?_;show Tri ..;obtain⟨x2,hj,h⟩:=zAc h;refine zAz ⟨ofL [(1,.s (.pt [.int .i64 a1A,.sl 1 ((List.map (irow .i64)) a1E),.int .i64 a1F,.int .i64 a1S,.sl 4 (Nd.encs a1R),.int .i64 a1W,.str a1X,.str a1C])),(4,.s (.int .i64 a1A)),(5,.s (.bool x2))],fun _=>none,0⟩ ?_ (fun σ' hle=>?_)
  ·replace h:=hj;refine zAq rfl h (fun hb h=>?_) (fun hb h=>?_)
   ·refine zAn ?_;cases h;exact(Le.forget _ ⟨rfl,rfl,rfl,trivial⟩)
   ·refine zAb [] [] rfl ?_;cases h;exact(Le.forget _ ⟨rfl,rfl,rfl,trivial⟩)
  ·show Tri ..;refine zAs hle ?_;refine zAq rfl h (fun hb h=>?_) (fun hb h=>?_)
   ·refine zAa ?_;obtain⟨x3,hj,h⟩:=zAc h;refine zAz ⟨ofL [(2,.s (.bool x3))],fun _=>none,0⟩ ?_ (fun σ' hle=>?_)
    ·replace h:=hj;refine zAb [] [10,12,17,22,27,32] rfl ?_;intro n4 hn4;obtain rfl:(a1R.length:Int)=n4:=(hn4.trans (congrArg (fun m:Nat=>(m:Int)) (rlen Nd.encs_eq a1R))).symm;intro b hb;cases b with
     | true =>
      replace h:=zAI hb.symm h;obtain⟨y5,hy5,h⟩:=zAc h;refine⟨_,⟨_,_,_,hy5,rfl,rfl⟩,?_⟩
      intro b hb;cases b with
      | true =>
       replace h:=zAI hb.symm h;intro b hb;cases b with
       | true =>
        replace h:=zAI hb.symm h;intro b hb;cases b with
        | true =>
         replace h:=zAI hb.symm h;intro b hb;cases b with
         | true =>
          replace h:=zAI hb.symm h;cases h;exact(Le.forget _ ⟨rfl,trivial⟩)
         | false =>
          replace h:=zAH hb.symm h;cases h;exact(Le.forget _ ⟨rfl,trivial⟩)
        | false =>
         replace h:=zAH hb.symm h;intro b hb;subst hb;cases h;exact(Le.forget _ ⟨rfl,trivial⟩)
       | false =>
        replace h:=zAH hb.symm h;intro b hb;subst hb;intro b hb;subst hb;cases h;exact(Le.forget _ ⟨rfl,trivial⟩)
      | false =>
       replace h:=zAH hb.symm h;intro b hb;subst hb;intro b hb;subst hb;intro b hb;subst hb;cases h;exact(Le.forget _ ⟨rfl,trivial⟩)
     | false =>
      replace h:=zAH hb.symm h;intro b hb;subst hb;intro b hb;subst hb;intro b hb;subst hb;intro b hb;subst hb;cases h;exact(Le.forget _ ⟨rfl,trivial⟩)
    ·show Tri ..;refine zAs hle ?_;refine zAk ?_;cases h;replace h:some _=some _:=ho1;have hy:=Option.some.inj h;subst hy;unfold zAA;exact⟨_,Le.refl _ _,rfl,rfl⟩
   ·refine zAa ?_;refine zXL [] [] rfl ?_;show Tri ..;obtain⟨x6,hj,h⟩:=zAc h;refine zAz ⟨ofL [(1,.s (.pt [.int .i64 a1A,.sl 1 ((List.map (irow .i64)) a1E),.int .i64 a1F,.int .i64 a1S,.sl 4 (Nd.encs a1R),.int .i64 a1W,.str a1X,.str a1C])),(4,.s (.int .i64 a1A)),(37,.s (.bool x6))],fun _=>none,0⟩ ?_ (fun σ' hle=>?_)
    ·replace h:=hj;refine zAq rfl h (fun hb h=>?_) (fun hb h=>?_)
     ·refine zAn ?_;cases h;exact(Le.forget _ ⟨rfl,rfl,rfl,trivial⟩)
     ·refine zAb [] [] rfl ?_;cases h;exact(Le.forget _ ⟨rfl,rfl,rfl,trivial⟩)
    ·show Tri ..;refine zAs hle ?_;refine zAq rfl h (fun hb h=>?_) (fun hb h=>?_)
     ·refine zAa ?_;obtain⟨x7,hj,h⟩:=zAc h;refine zAz ⟨ofL [(2,.s (.bool x7))],fun _=>none,0⟩ ?_ (fun σ' hle=>?_)
      ·replace h:=hj;refine zAb [] [43,50,55] rfl ?_;intro b hb;cases b with
       | true =>
        replace h:=zAI hb.symm h;obtain⟨y8,hy8,h⟩:=zAc h;refine⟨_,⟨_,_,_,_,hy8,rfl,rfl⟩,?_⟩
        intro b hb;cases b with
        | true =>
         replace h:=zAI hb.symm h;intro b hb;cases b with
         | true =>
          replace h:=zAI hb.symm h;cases h;exact(Le.forget _ ⟨rfl,trivial⟩)
         | false =>
          replace h:=zAH hb.symm h;cases h;exact(Le.forget _ ⟨rfl,trivial⟩)
        | false =>
         replace h:=zAH hb.symm h;intro b hb;subst hb;cases h;exact(Le.forget _ ⟨rfl,trivial⟩)
       | false =>
        replace h:=zAH hb.symm h;intro b hb;subst hb;intro b hb;subst hb;cases h;exact(Le.forget _ ⟨rfl,trivial⟩)
      ·show Tri ..;refine zAs hle ?_;refine zAk ?_;cases h;replace h:some _=some _:=ho1;have hy:=Option.some.inj h;subst hy;unfold zAA;exact⟨_,Le.refl _ _,rfl,rfl⟩
     ·refine zXL [] [] rfl ?_;show Tri ..;refine zAq rfl h (fun hb h=>?_) (fun hb h=>?_)
      ·refine zAa ?_;obtain⟨x9,hj,h⟩:=zAc h;refine zAz ⟨ofL [(2,.s (.bool x9))],fun _=>none,0⟩ ?_ (fun σ' hle=>?_)
       ·replace h:=hj;refine zAb [] [67,70,73,78] rfl ?_;intro b hb;cases b with
        | true =>
         replace h:=zAI hb.symm h;intro n10 hn10;obtain rfl:(a1R.length:Int)=n10:=(hn10.trans (congrArg (fun m:Nat=>(m:Int)) (rlen Nd.encs_eq a1R))).symm;intro b hb;cases b with
         | true =>
          replace h:=zAI hb.symm h;intro b hb;cases b with
          | true =>
           replace h:=zAI hb.symm h;cases h;exact(Le.forget _ ⟨rfl,trivial⟩)
          | false =>
           replace h:=zAH hb.symm h;cases h;exact(Le.forget _ ⟨rfl,trivial⟩)
         | false =>
          replace h:=zAH hb.symm h;intro b hb;subst hb;cases h;exact(Le.forget _ ⟨rfl,trivial⟩)
        | false =>
         replace h:=zAH hb.symm h;intro b hb;subst hb;intro b hb;subst hb;cases h;exact(Le.forget _ ⟨rfl,trivial⟩)
       ·show Tri ..;refine zAs hle ?_;refine zAk ?_;cases h;replace h:some _=some _:=ho1;have hy:=Option.some.inj h;subst hy;unfold zAA;exact⟨_,Le.refl _ _,rfl,rfl⟩
      ·refine zAn ?_;cases h;exact⟨_,rfl,(Le.forget _ trivial)⟩
 ·subst hz;obtain _:=z;replace h:=ho1;show Tri ..;refine zAs hle ?_;refine zXL [] [] rfl ?_;show Tri ..;refine zAk ?_;have hy:=Option.some.inj h;subst hy;unfold zAA;exact⟨_,Le.refl _ _,rfl,rfl⟩
def zPE (xs:List AV) (r:Ret):Prop:=∃ (a0:List Nd) (a1:Int) (a2:Int) (a3:List Nd) (y0:List Nd),zB3 a0 a1 a2 a3=some y0/\xs=[.s (.sl 4 (Nd.encs a0)),.s (.int .i64 a1),.s (.int .i64 a2),.s (.sl 4 (Nd.encs a3))]/\r = .row 24 4 (Nd.encs y0)
def zKw:zAE:=zAF fun xs r=>zPE xs r
theorem zOV:PSound Tryz.prog 140 zKw:=by
 have gok:=@gok0 Tryz.prog;refine zAG tokW Tryz.call140 Tryz.func140 rfl (fun xs r h=>by obtain⟨_,_,_,_,_,_,rfl,_⟩:=h; show 4<=23; decide) 23 rfl ?_;rintro xs r w0 G0 ⟨l1,at2,to3,by4,y0,h,rfl,rfl⟩ _;rw[zB3]at h;refine zXL [8] [] rfl ?_;show Tri ..;refine zAs (Le.rnm [] [(0,.s (.sl 4 (Nd.encs l1))),(1,.s (.int .i64 at2)),(2,.s (.int .i64 to3)),(3,.s (.sl 4 (Nd.encs by4)))] [] 0 ⟨rfl,rfl,rfl,rfl,trivial⟩ trivial) ?_;refine zXL [10,14] [13] rfl ?_;obtain⟨hq,h⟩:=zAJ h;refine And.intro ⟨hq.1,hq.2.1,Int.le_trans hq.2.2 (Int.ofNat_le.2 (Nat.le_of_eq (rlen Nd.encs_eq _).symm))⟩ ?_
 intro r5 hr5;obtain rfl:Nd.encs ((l1.take at2.toNat).drop (0:Int).toNat)=r5:=(hr5.trans (rcut Nd.encs_eq _ _ _)).symm;obtain⟨hq,h⟩:=zAJ h;refine And.intro (show(([]:List (List S)).length+(Nd.encs ((l1.take at2.toNat).drop (0:Int).toNat)).length) * 56<=140737488355328/\([]:List (List S)).length+(Nd.encs ((l1.take at2.toNat).drop (0:Int).toNat)).length<=9223372036854775807 from by simp only[List.length_append,List.length_cons,List.length_nil,List.length_map,rlen Nd.encs_eq]at hq ⊢; omega) ?_;show Tri ..
 refine zAs (Le.rnm [(1,0)] [(0,.s (.sl 4 (Nd.encs l1))),(2,.s (.int .i64 to3)),(3,.s (.sl 4 (Nd.encs by4))),(9,.orow 0)] [(0,.row 24 4 (Nd.encs ((l1.take at2.toNat).drop (0:Int).toNat)))] 1 ⟨rfl,rfl,rfl,rfl,trivial⟩ ⟨rfl,⟨_,rfl,congrArg (Ob.row 24 4) (by simp[List.map_append,List.map_take,List.map_drop,irow,brow,zAB,List.map_cons,List.map_nil,zAy,Nd.encs_eq,Nd.enc,zAi,zAh,zAv,zAo,zAj,zAl,zAd,zAg,zAp,zAf,zAe,zAx,zAt])⟩,trivial⟩) ?_;refine zXL [17] [] rfl ?_
 obtain⟨hq,h⟩:=zAJ h;refine And.intro (show((Nd.encs ((l1.take at2.toNat).drop (0:Int).toNat)).length+(Nd.encs by4).length) * 56<=140737488355328/\(Nd.encs ((l1.take at2.toNat).drop (0:Int).toNat)).length+(Nd.encs by4).length<=9223372036854775807 from by simp only[List.length_append,List.length_cons,List.length_nil,List.length_map,List.length_take,rlen Nd.encs_eq]at hq ⊢; omega) ?_;show Tri ..
 refine zAs (Le.rnm [(1,0)] [(0,.s (.sl 4 (Nd.encs l1))),(2,.s (.int .i64 to3)),(9,.orow 0)] [(0,.row 24 4 (Nd.encs (((l1.take at2.toNat).drop (0:Int).toNat)++by4)))] 1 ⟨rfl,rfl,rfl,trivial⟩ ⟨rfl,⟨_,rfl,congrArg (Ob.row 24 4) (by simp[List.map_append,List.map_take,List.map_drop,irow,brow,zAB,List.map_cons,List.map_nil,zAy,Nd.encs_eq,Nd.enc,zAi,zAh,zAv,zAo,zAj,zAl,zAd,zAg,zAp,zAf,zAe,zAx,zAt])⟩,trivial⟩) ?_;refine zXL [22] [21] rfl ?_
 obtain⟨hq,h⟩:=zAJ h;refine And.intro ⟨hq.1,Int.le_trans hq.2.1 (Int.ofNat_le.2 (Nat.le_of_eq (rlen Nd.encs_eq _).symm)),Int.le_refl _⟩ ?_;intro r6 hr6;obtain rfl:Nd.encs ((l1.take (l1.length:Int).toNat).drop to3.toNat)=r6:=(hr6.trans ((congrArg (fun m:Nat=>((Nd.encs l1).take m).drop to3.toNat) (rlen Nd.encs_eq _)).trans (rcut Nd.encs_eq _ _ _))).symm;obtain⟨hq,h⟩:=zAJ h
 refine And.intro (show((Nd.encs (((l1.take at2.toNat).drop (0:Int).toNat)++by4)).length+(Nd.encs ((l1.take (l1.length:Int).toNat).drop to3.toNat)).length) * 56<=140737488355328/\(Nd.encs (((l1.take at2.toNat).drop (0:Int).toNat)++by4)).length+(Nd.encs ((l1.take (l1.length:Int).toNat).drop to3.toNat)).length<=9223372036854775807 from by simp only[List.length_append,List.length_cons,List.length_nil,List.length_map,List.length_take,rlen Nd.encs_eq]at hq ⊢; omega) ?_;show Tri ..
 refine zAs (Le.rnm [(1,0)] [(8,.orow 0)] [(0,.row 24 4 (Nd.encs ((((l1.take at2.toNat).drop (0:Int).toNat)++by4)++((l1.take (l1.length:Int).toNat).drop to3.toNat))))] 1 ⟨rfl,trivial⟩ ⟨rfl,⟨_,rfl,congrArg (Ob.row 24 4) (by simp[List.map_append,List.map_take,List.map_drop,irow,brow,zAB,List.map_cons,List.map_nil,zAy,Nd.encs_eq,Nd.enc,zAi,zAh,zAv,zAo,zAj,zAl,zAd,zAg,zAp,zAf,zAe,zAx,zAt])⟩,trivial⟩) ?_;refine zAk ?_;have hy:=Option.some.inj h;subst hy;unfold zAA
 exact⟨_,Le.refl _ _,0,rfl,rfl⟩
def zMM (xs:List AV) (r:Ret):Prop:=∃ (a0:Nd) (a1:Int) (a2:Nd) (y0:Nd),zBs a0 a1 a2=some y0/\xs=[.agg ((Nd.enc a0).map .s),.s (.int .i64 a1),.agg ((Nd.enc a2).map .s)]/\r = .val (.agg ((Nd.enc y0).map .s))
def zDW:zAE:=zAF fun xs r=>zMM xs r
theorem zEz:PSound Tryz.prog 84 zDW:=by
 have gok:=@gok0 Tryz.prog;refine zAG tokW Tryz.call84 Tryz.func84 rfl (fun xs r h=>by obtain⟨_,_,_,_,_,rfl,_⟩:=h; show 3<=18; decide) 18 rfl ?_;rintro xs r w0 G0 ⟨⟨n1A,n1C,n1D,n1B⟩,i2,⟨kid3A,kid3C,kid3D,kid3B⟩,y0,h,rfl,rfl⟩ _;rw[zBs]at h;refine zXL [3,6] [] rfl ?_;show Tri ..;refine zXL [7,10] [] rfl ?_;obtain⟨hq,h⟩:=zAJ h
 refine And.intro (show(([]:List (List S)).length+(Nd.encs n1B).length) * 56<=140737488355328/\([]:List (List S)).length+(Nd.encs n1B).length<=9223372036854775807 from by simp only[List.length_append,List.length_cons,List.length_nil,List.length_map,rlen Nd.encs_eq]at hq ⊢; omega) ?_;show Tri ..
 refine zAs (Le.rnm [(0,0),(3,1),(1,2)] [(1,.s (.int .i64 i2)),(3,.op 0 0),(5,.s (.pt [.int .i64 kid3A,.str kid3C,.int .i64 kid3D,.sl 4 (Nd.encs kid3B)])),(6,.op 2 0)] [(0,.box 24 [.s (.int .i64 n1A),.s (.str n1C),.s (.int .i64 n1D),.orow 1]),(1,.row 24 4 (Nd.encs n1B)),(2,.box 24 [.s (.int .i64 0),.s (.str []),.s (.int .i64 0),.nl 4])] 3 ⟨rfl,rfl,rfl,rfl,trivial⟩ ⟨rfl,⟨_,rfl,rfl⟩,rfl,⟨_,rfl,congrArg (Ob.row 24 4) (by simp[List.map_append,List.map_take,List.map_drop,irow,brow,zAB,List.map_cons,List.map_nil,zAy,Nd.encs_eq,Nd.enc,zAi,zAh,zAv,zAo,zAj,zAl,zAd,zAg,zAp,zAf,zAe,zAx,zAt])⟩,rfl,⟨_,rfl,rfl⟩,trivial⟩) ?_
 refine zXL [] [] rfl ?_;obtain⟨⟨e4A,e4C,e4D,e4B⟩,he4,h⟩:=zAc h;refine And.intro (zAD Nd.encs_eq he4).1 ?_;have hset5:=(rset (R:=Nd.encs) (f:=Nd.enc) Nd.encs_eq he4 (Nd.mk kid3A kid3C kid3D kid3B) 0 4 [.int .i64 kid3A,.str kid3C,.int .i64 kid3D,.sl 4 (Nd.encs kid3B)] rfl)
 have hat5:=at_set he4 (Nd.mk kid3A kid3C kid3D kid3B)
 refine And.intro (zAD Nd.encs_eq he4).2.2 ?_;show Tri ..;refine zAs (Le.rnm [(0,0),(1,1),(2,2)] [(3,.op 0 0),(6,.op 2 0)] [(0,.box 24 [.s (.int .i64 n1A),.s (.str n1C),.s (.int .i64 n1D),.orow 1]),(1,.row 24 4 (Nd.encs (n1B.set i2.toNat (Nd.mk kid3A kid3C kid3D kid3B)))),(2,.box 24 [.s (.int .i64 0),.s (.str []),.s (.int .i64 0),.nl 4])] 3 ⟨rfl,rfl,trivial⟩ ⟨rfl,⟨_,rfl,rfl⟩,rfl,⟨_,rfl,congrArg (Ob.row 24 4) hset5⟩,rfl,⟨_,rfl,rfl⟩,trivial⟩) ?_;refine zXL [] [] rfl ?_;show Tri ..;refine zAk ?_;have hy:=Option.some.inj h;subst hy;unfold zAA
 exact⟨_,(Le.trans (Le.rnm [(2,0),(1,1)] [(6,.op 0 0)] [(0,.box 24 [.s (.int .i64 n1A),.s (.str n1C),.s (.int .i64 n1D),.orow 1]),(1,.row 24 4 (Nd.encs (n1B.set i2.toNat (Nd.mk kid3A kid3C kid3D kid3B))))] 2 ⟨rfl,trivial⟩ ⟨rfl,⟨_,rfl,rfl⟩,rfl,⟨_,rfl,rfl⟩,trivial⟩) (Le.giveRow 1 rfl)),rfl,rfl⟩
def zPD (xs:List AV) (r:Ret):Prop:=∃ (a0:Nd) (a1:Int) (a2:List Nd) (y0:Nd),zDt a0 a1 a2=some y0/\xs=[.agg ((Nd.enc a0).map .s),.s (.int .i64 a1),.s (.sl 4 (Nd.encs a2))]/\r = .val (.agg ((Nd.enc y0).map .s))
def zKv:zAE:=zAF fun xs r=>zPD xs r
theorem zOU:PSound Tryz.prog 141 zKv:=by
 have gok:∀ f s,look? f [(48,zCO),(84,zDW)]=some s->PSound Tryz.prog f s:=zAC (by
  simp only[List.forall_mem_cons]
  exact⟨zCN,zEz,by simp⟩)
 refine zAG tokW Tryz.call141 Tryz.func141 rfl (fun xs r h=>by obtain⟨_,_,_,_,_,rfl,_⟩:=h; show 3<=14; decide) 14 rfl ?_;rintro xs r w0 G0 ⟨⟨n1A,n1C,n1D,n1B⟩,slot2,l3,y0,h,rfl,rfl⟩ _;rw[zDt]at h;refine zXL [6] [] rfl ?_;show Tri ..;refine zAa ?_;refine zC1 [9,11] [] [2,4,5,7] [] rfl (by decide +kernel) ?_;obtain⟨hq,h⟩:=zAJ h
 refine And.intro (show(([]:List (List S)).length+(Nd.encs l3).length) * 56<=140737488355328/\([]:List (List S)).length+(Nd.encs l3).length<=9223372036854775807 from by simp only[List.length_append,List.length_cons,List.length_nil,List.length_map,rlen Nd.encs_eq]at hq ⊢; omega) ?_;obtain⟨⟨y4A,y4C,y4D,y4B⟩,hy4,h⟩:=zAc h
 refine⟨_,⟨_,_,hy4,(congrArg (fun r=>[AV.s (.sl 4 r)]) (show[]++(Nd.encs l3)=Nd.encs l3 from(by simp[List.map_append,List.map_take,List.map_drop,irow,brow,zAB,List.map_cons,List.map_nil,zAy,Nd.encs_eq,Nd.enc,zAi,zAh,zAv,zAo,zAj,zAl,zAd,zAg,zAp,zAf,zAe,zAx,zAt]))),rfl⟩,?_⟩
 obtain⟨⟨y5A,y5C,y5D,y5B⟩,hy5,h⟩:=zAc h;refine⟨_,⟨_,_,_,_,hy5,rfl,rfl⟩,?_⟩
 show Tri ..;refine zAk ?_;have hy:=Option.some.inj h;subst hy;unfold zAA;exact⟨_,Le.refl _ _,rfl,rfl⟩
def zPC (n:Nat) (xs:List AV) (r:Ret):Prop:=∃ (a0:List Nd) (a1:zO8) (y0:List Nd) (y1:Int),zFc n a0 a1=some (y0,y1)/\xs=[.s (.sl 4 (Nd.encs a0)),.agg ((zAl a1).map .s)]/\r = .val (.tup [.s (.sl 4 (Nd.encs y0)),.s (.int .i64 y1)])
def zKu:zAE:=zAF fun xs r=>∃ n,zPC n xs r
theorem zOT:PSound Tryz.prog 116 zKu:=by
 have gok:∀ f s,look? f [(140,zKw),(33,zHA),(141,zKv),(13,zIV)]=some s->PSound Tryz.prog f s:=zAC (by
  simp only[List.forall_mem_cons]
  exact⟨zOV,zLa,zOU,zKN,by simp⟩)
 refine zAG tokW Tryz.call116 Tryz.func116 rfl (fun xs r h=>by obtain⟨n,_,_,_,_,_,rfl,_⟩:=h; show 2<=173; decide) 173 rfl ?_;rintro xs r w0 G0 ⟨n,a1,⟨a2A,a2E,a2F,a2S,a2R,a2W,a2X,a2C⟩,y0,y1,h,rfl,rfl⟩ _;rw[zFc]at h;refine zXL [] [] rfl ?_;show Tri ..;refine zXL [] [] rfl ?_;show Tri ..;refine zAa ?_;refine zXL [] [] rfl ?_;show Tri ..;obtain⟨x3,hj,h⟩:=zAc h
 refine zAz ⟨ofL [(0,.s (.sl 4 (Nd.encs a1))),(3,.s (.pt [.int .i64 a2A,.sl 1 ((List.map (irow .i64)) a2E),.int .i64 a2F,.int .i64 a2S,.sl 4 (Nd.encs a2R),.int .i64 a2W,.str a2X,.str a2C])),(6,.s (.int .i64 x3))],fun _=>none,0⟩ ?_ (fun σ' hle=>?_)
 ·replace h:=hj;refine zAw ?_;refine zXL [] [] rfl ?_;show Tri ..;refine zAq rfl h (fun hb h=>?_) (fun hb h=>?_)
  ·refine zAb [] [] rfl ?_;cases h;exact(Le.forget _ ⟨rfl,rfl,rfl,trivial⟩)
  ·refine zXL [] [] rfl ?_;show Tri ..;refine zAq rfl h (fun hb h=>?_) (fun hb h=>?_)
   ·refine zAb [] [17] rfl ?_;intro n4 hn4;obtain rfl:(a2R.length:Int)=n4:=(hn4.trans (congrArg (fun m:Nat=>(m:Int)) (rlen Nd.encs_eq a2R))).symm;cases h;exact(Le.forget _ ⟨rfl,rfl,rfl,trivial⟩)
   ·refine zXL [] [] rfl ?_;show Tri ..;refine zAq rfl h (fun hb h=>?_) (fun hb h=>?_)
    ·refine zAb [] [] rfl ?_;cases h;exact(Le.forget _ ⟨rfl,rfl,rfl,trivial⟩)
    ·refine zAn ?_;cases h;exact(Le.forget _ ⟨rfl,rfl,rfl,trivial⟩)
 ·show Tri ..;refine zAs hle ?_;refine zAa ?_;refine zAa ?_;obtain⟨x5,hj,h⟩:=zAc h;refine zAz ⟨ofL [(0,.s (.sl 4 (Nd.encs a1))),(3,.s (.pt [.int .i64 a2A,.sl 1 ((List.map (irow .i64)) a2E),.int .i64 a2F,.int .i64 a2S,.sl 4 (Nd.encs a2R),.int .i64 a2W,.str a2X,.str a2C])),(6,.s (.int .i64 x3)),(40,.s (.bool x5))],fun _=>none,0⟩ ?_ (fun σ' hle=>?_)
  ·replace h:=hj;refine zAb [] [25,29,32,35] rfl ?_;intro b hb;cases b with
   | true =>
    replace h:=zAI hb.symm h;intro b hb;subst hb;cases h;exact(Le.forget _ ⟨rfl,rfl,rfl,rfl,trivial⟩)
   | false =>
    replace h:=zAH hb.symm h;intro n6 hn6;obtain rfl:(a1.length:Int)=n6:=(hn6.trans (congrArg (fun m:Nat=>(m:Int)) (rlen Nd.encs_eq a1))).symm;intro b hb;cases b with
    | true =>
     replace h:=zAI hb.symm h;cases h;exact(Le.forget _ ⟨rfl,rfl,rfl,rfl,trivial⟩)
    | false =>
     replace h:=zAH hb.symm h;intro n7 hn7;obtain rfl:(a1.length:Int)=n7:=(hn7.trans (congrArg (fun m:Nat=>(m:Int)) (rlen Nd.encs_eq a1))).symm;cases h;exact(Le.forget _ ⟨rfl,rfl,rfl,rfl,trivial⟩)
  ·show Tri ..;refine zAs hle ?_;refine zAq rfl h (fun hb h=>?_) (fun hb h=>?_)
   ·refine zXL [] [] rfl ?_;show Tri ..;refine zAk ?_;obtain⟨hj1,hk1⟩:=pij h;subst hj1 hk1;unfold zAA;exact⟨_,Le.refl _ _,rfl,rfl⟩
   ·refine zAn ?_;show Tri ..;refine zXL [] [] rfl ?_;show Tri ..;refine zAa ?_;refine zXL [] [] rfl ?_;show Tri ..;refine zAw ?_;refine zXL [] [] rfl ?_;show Tri ..;refine zAq rfl h (fun hb h=>?_) (fun hb h=>?_)
    ·refine zXL [] [] rfl ?_;obtain⟨y8,hy8,h⟩:=zAc h;refine⟨_,⟨_,_,_,_,_,hy8,rfl,rfl⟩,?_⟩
     show Tri ..;refine zAk ?_;obtain⟨hj1,hk1⟩:=pij h;subst hj1 hk1;unfold zAA;exact⟨_,Le.refl _ _,rfl,rfl⟩
    ·refine zXL [] [] rfl ?_;show Tri ..;refine zAq rfl h (fun hb h=>?_) (fun hb h=>?_)
     ·refine zAa ?_;refine zAa ?_;refine zAO [] [62] [] rfl (by decide +kernel) ?_;obtain⟨hq,h⟩:=zAJ h;refine And.intro ⟨hq.1,hq.2.1,Int.le_trans hq.2.2 (Int.ofNat_le.2 (Nat.le_of_eq (rlen Nd.encs_eq _).symm))⟩ ?_;intro r9 hr9;obtain rfl:Nd.encs ((a1.take (IntKind.i64.wrap (a2F+x3)).toNat).drop a2F.toNat)=r9:=(hr9.trans (rcut Nd.encs_eq _ _ _)).symm;obtain⟨y10,hy10,h⟩:=zAc h;refine⟨_,⟨_,_,_,_,hy10,rfl,rfl⟩,?_⟩
      show Tri ..;refine zAq rfl h (fun hb h=>?_) (fun hb h=>?_)
      ·refine zXL [] [] rfl ?_;show Tri ..;refine zAk ?_;obtain⟨hj1,hk1⟩:=pij h;subst hj1 hk1;unfold zAA;exact⟨_,Le.refl _ _,rfl,rfl⟩
      ·refine zAn ?_;show Tri ..;refine zXL [] [] rfl ?_;obtain⟨y11,hy11,h⟩:=zAc h;refine⟨_,⟨_,_,_,_,_,hy11,rfl,rfl⟩,?_⟩
       show Tri ..;refine zAk ?_;obtain⟨hj1,hk1⟩:=pij h;subst hj1 hk1;unfold zAA;exact⟨_,Le.refl _ _,rfl,rfl⟩
     ·refine zXL [] [] rfl ?_;show Tri ..;refine zAq rfl h (fun hb h=>?_) (fun hb h=>?_)
      ·refine zAa ?_;refine zAO [] [80,88,90] [] rfl (by decide +kernel) ?_;obtain⟨⟨e12A,e12C,e12D,e12B⟩,he12,h⟩:=zAc h;refine And.intro (zAD Nd.encs_eq he12).1 ?_;intro r13 hr13;obtain rfl:[.int .i64 e12A,.str e12C,.int .i64 e12D,.sl 4 (Nd.encs e12B)]=r13:=(hr13.trans (zAD Nd.encs_eq he12).2.1).symm;obtain⟨hq,h⟩:=zAJ h;refine And.intro ⟨hq.1,hq.2.1,Int.le_trans hq.2.2 (Int.ofNat_le.2 (Nat.le_of_eq (rlen Nd.encs_eq _).symm))⟩ ?_;intro r14 hr14;obtain rfl:Nd.encs ((a1.take (IntKind.i64.wrap (a2F+x3)).toNat).drop a2F.toNat)=r14:=(hr14.trans (rcut Nd.encs_eq _ _ _)).symm
       obtain⟨⟨y15A,y15C,y15D,y15B⟩,hy15,h⟩:=zAc h;refine⟨_,⟨_,_,_,_,hy15,rfl,rfl⟩,?_⟩
       intro r16 hr16;obtain rfl:Nd.encs [Nd.mk y15A y15C y15D y15B]=r16:=(hr16.trans (by simp[List.map_append,List.map_take,List.map_drop,irow,brow,zAB,List.map_cons,List.map_nil,zAy,Nd.encs_eq,Nd.enc,zAi,zAh,zAv,zAo,zAj,zAl,zAd,zAg,zAp,zAf,zAe,zAx,zAt])).symm;obtain⟨y17,hy17,h⟩:=zAc h;refine⟨_,⟨_,_,_,_,_,hy17,rfl,rfl⟩,?_⟩
       show Tri ..;refine zAk ?_;obtain⟨hj1,hk1⟩:=pij h;subst hj1 hk1;unfold zAA;exact⟨_,Le.refl _ _,rfl,rfl⟩
      ·refine zAn ?_;show Tri ..;refine zXL [8] [95] rfl ?_;obtain⟨⟨e18A,e18C,e18D,e18B⟩,he18,h⟩:=zAc h;refine And.intro (zAD Nd.encs_eq he18).1 ?_;intro r19 hr19;obtain rfl:[.int .i64 e18A,.str e18C,.int .i64 e18D,.sl 4 (Nd.encs e18B)]=r19:=(hr19.trans (zAD Nd.encs_eq he18).2.1).symm;show Tri ..;refine zAa ?_;refine zXL [] [] rfl ?_;show Tri ..;refine zAq rfl h (fun hb h=>?_) (fun hb h=>?_)
       ·refine zAa ?_;refine zAa ?_;obtain⟨x20,hj,h⟩:=zAc h;refine zAz ⟨ofL [(0,.s (.sl 4 (Nd.encs a1))),(3,.s (.pt [.int .i64 a2A,.sl 1 ((List.map (irow .i64)) a2E),.int .i64 a2F,.int .i64 a2S,.sl 4 (Nd.encs a2R),.int .i64 a2W,.str a2X,.str a2C])),(7,.s (.int .i64 (IntKind.i64.wrap (a2F+x3)))),(8,.op 0 0),(137,.s (.bool x20))],ofH [(0,.box 24 [.s (.int .i64 e18A),.s (.str e18C),.s (.int .i64 e18D),.s (.sl 4 (Nd.encs e18B))])],1⟩ ?_ (fun σ' hle=>?_)
        ·replace h:=hj;refine zAO [] [104,106,111,114,119,123,131] [3,8,20,28] rfl (by decide +kernel) ?_;intro n21 hn21;obtain rfl:(e18B.length:Int)=n21:=(hn21.trans (congrArg (fun m:Nat=>(m:Int)) (rlen Nd.encs_eq e18B))).symm;intro b hb;cases b with
         | true =>
          replace h:=zAI hb.symm h;intro b hb;subst hb;cases h;exact(Le.rnm [(0,0)] _ _ _ ⟨rfl,rfl,rfl,rfl,rfl,trivial⟩ ⟨rfl,⟨_,rfl,rfl⟩,trivial⟩)
         | false =>
          replace h:=zAH hb.symm h;obtain⟨⟨e22A,e22C,e22D,e22B⟩,he22,h⟩:=zAc h;refine And.intro (zAD Nd.encs_eq he22).1 ?_;intro r23 hr23;obtain rfl:[.int .i64 e22A,.str e22C,.int .i64 e22D,.sl 4 (Nd.encs e22B)]=r23:=(hr23.trans (zAD Nd.encs_eq he22).2.1).symm;intro n24 hn24;obtain rfl:(e22B.length:Int)=n24:=(hn24.trans (congrArg (fun m:Nat=>(m:Int)) (rlen Nd.encs_eq e22B))).symm;intro b hb;cases b with
          | true =>
           replace h:=zAI hb.symm h;cases h;exact(Le.rnm [(0,0)] _ _ _ ⟨rfl,rfl,rfl,rfl,rfl,trivial⟩ ⟨rfl,⟨_,rfl,rfl⟩,trivial⟩)
          | false =>
           replace h:=zAH hb.symm h;obtain⟨⟨e25A,e25C,e25D,e25B⟩,he25,h⟩:=zAc h;refine And.intro (zAD Nd.encs_eq he25).1 ?_;intro r26 hr26;obtain rfl:[.int .i64 e25A,.str e25C,.int .i64 e25D,.sl 4 (Nd.encs e25B)]=r26:=(hr26.trans (zAD Nd.encs_eq he25).2.1).symm;obtain⟨⟨e27A,e27C,e27D,e27B⟩,he27,h⟩:=zAc h;refine And.intro (zAD Nd.encs_eq he27).1 ?_;intro r28 hr28;obtain rfl:[.int .i64 e27A,.str e27C,.int .i64 e27D,.sl 4 (Nd.encs e27B)]=r28:=(hr28.trans (zAD Nd.encs_eq he27).2.1).symm;obtain⟨⟨y29A,y29C,y29D,y29B⟩,hy29,h⟩:=zAc h
           refine⟨_,⟨_,_,_,_,hy29,rfl,rfl⟩,?_⟩
           obtain⟨y30,hy30,h⟩:=zAc h;refine⟨_,⟨_,_,_,_,hy30,rfl,rfl⟩,?_⟩
           cases h;exact(Le.rnm [(0,0)] _ _ _ ⟨rfl,rfl,rfl,rfl,rfl,trivial⟩ ⟨rfl,⟨_,rfl,rfl⟩,trivial⟩)
        ·show Tri ..;refine zAs hle ?_;refine zAq rfl h (fun hb h=>?_) (fun hb h=>?_)
         ·refine zXL [] [] rfl ?_;show Tri ..;refine zAk ?_;obtain⟨hj1,hk1⟩:=pij h;subst hj1 hk1;unfold zAA;exact⟨_,Le.refl _ _,rfl,rfl⟩
         ·refine zAn ?_;show Tri ..;refine zAa ?_;refine zAO [] [146] [5] rfl (by decide +kernel) ?_;obtain⟨⟨e31A,e31C,e31D,e31B⟩,he31,h⟩:=zAc h;refine And.intro (zAD Nd.encs_eq he31).1 ?_;intro r32 hr32;obtain rfl:[.int .i64 e31A,.str e31C,.int .i64 e31D,.sl 4 (Nd.encs e31B)]=r32:=(hr32.trans (zAD Nd.encs_eq he31).2.1).symm;obtain⟨y33,hy33,h⟩:=zAc h;refine⟨_,⟨_,_,_,_,_,hy33,rfl,rfl⟩,?_⟩
          show Tri ..;refine zAk ?_;obtain⟨hj1,hk1⟩:=pij h;subst hj1 hk1;unfold zAA;exact⟨_,Le.refl _ _,rfl,rfl⟩
       ·refine zAn ?_;show Tri ..;refine zAa ?_;refine zXL [] [] rfl ?_;show Tri ..;obtain⟨fl,hj,ho1⟩:=zAc h;refine zBH (fl:=fl) (fun z=>match z with | _=>⟨ofL [],fun _=>none,0⟩) ?_ (fun z σ' hz hle=>?_)
        ·replace h:=hj;refine zAw ?_;refine zAa ?_;refine zXL [] [] rfl ?_;show Tri ..;obtain⟨x34,hj,h⟩:=zAc h;refine zAz ⟨ofL [(0,.s (.sl 4 (Nd.encs a1))),(3,.s (.pt [.int .i64 a2A,.sl 1 ((List.map (irow .i64)) a2E),.int .i64 a2F,.int .i64 a2S,.sl 4 (Nd.encs a2R),.int .i64 a2W,.str a2X,.str a2C])),(7,.s (.int .i64 (IntKind.i64.wrap (a2F+x3)))),(8,.op 0 0),(152,.s (.bool x34))],ofH [(0,.box 24 [.s (.int .i64 e18A),.s (.str e18C),.s (.int .i64 e18D),.s (.sl 4 (Nd.encs e18B))])],1⟩ ?_ (fun σ' hle=>?_)
         ·replace h:=hj;refine zAq rfl h (fun hb h=>?_) (fun hb h=>?_)
          ·refine zAn ?_;cases h;exact(Le.rnm [(0,0)] _ _ _ ⟨rfl,rfl,rfl,rfl,rfl,trivial⟩ ⟨rfl,⟨_,rfl,rfl⟩,trivial⟩)
          ·refine zXL [] [] rfl ?_;show Tri ..;refine zAq rfl h (fun hb h=>?_) (fun hb h=>?_)
           ·refine zAn ?_;cases h;exact(Le.rnm [(0,0)] _ _ _ ⟨rfl,rfl,rfl,rfl,rfl,trivial⟩ ⟨rfl,⟨_,rfl,rfl⟩,trivial⟩)
           ·refine zXL [] [] rfl ?_;show Tri ..;refine zAq rfl h (fun hb h=>?_) (fun hb h=>?_)
            ·refine zAn ?_;cases h;exact(Le.rnm [(0,0)] _ _ _ ⟨rfl,rfl,rfl,rfl,rfl,trivial⟩ ⟨rfl,⟨_,rfl,rfl⟩,trivial⟩)
            ·refine zXL [] [] rfl ?_;show Tri ..;refine zAq rfl h (fun hb h=>?_) (fun hb h=>?_)
             ·refine zAn ?_;cases h;exact(Le.rnm [(0,0)] _ _ _ ⟨rfl,rfl,rfl,rfl,rfl,trivial⟩ ⟨rfl,⟨_,rfl,rfl⟩,trivial⟩)
             ·refine zAb [] [] rfl ?_;cases h;exact(Le.rnm [(0,0)] _ _ _ ⟨rfl,rfl,rfl,rfl,rfl,trivial⟩ ⟨rfl,⟨_,rfl,rfl⟩,trivial⟩)
         ·show Tri ..;refine zAs hle ?_;refine zAq rfl h (fun hb h=>?_) (fun hb h=>?_)
          ·refine zXL [] [] rfl ?_;show Tri ..;refine zAq rfl h (fun hb h=>?_) (fun hb h=>?_)
           ·refine zXL [] [] rfl ?_;show Tri ..;refine zXL [] [171] rfl ?_;intro r35 hr35;obtain rfl:Nd.encs [Nd.mk e18A a2C e18D e18B]=r35:=(hr35.trans (by simp[List.map_append,List.map_take,List.map_drop,irow,brow,zAB,List.map_cons,List.map_nil,zAy,Nd.encs_eq,Nd.enc,zAi,zAh,zAv,zAo,zAj,zAl,zAd,zAg,zAp,zAf,zAe,zAx,zAt])).symm;obtain⟨y36,hy36,h⟩:=zAc h;refine⟨_,⟨_,_,_,_,_,hy36,rfl,rfl⟩,?_⟩
            show Tri ..;refine zAk ?_;cases h;replace h:some _=some _:=ho1;obtain⟨hj1,hk1⟩:=pij h;subst hj1 hk1;unfold zAA;exact⟨_,Le.refl _ _,rfl,rfl⟩
           ·refine zAn ?_;cases h;exact⟨_,rfl,(Le.rnm [] _ [] 0 trivial trivial)⟩
          ·refine zAn ?_;cases h;exact⟨_,rfl,(Le.rnm [] _ [] 0 trivial trivial)⟩
        ·subst hz;obtain _:=z;replace h:=ho1;show Tri ..;refine zAs hle ?_;refine zXL [] [] rfl ?_;show Tri ..;refine zAk ?_;obtain⟨hj1,hk1⟩:=pij h;subst hj1 hk1;unfold zAA;exact⟨_,Le.refl _ _,rfl,rfl⟩
def zHu (n:Nat) (xs:List AV) (r:Ret):Prop:=∃ (a0:Nd) (a1:List Int) (a2:List Nd) (y0:Nd),zFd n a0 a1 a2=some y0/\xs=[.agg ((Nd.enc a0).map .s),.s (.sl 1 ((List.map (irow .i64)) a1)),.s (.sl 4 (Nd.encs a2))]/\r = .val (.agg ((Nd.enc y0).map .s))
theorem zQ2 (n:Nat) (ih:PSound Tryz.prog 117 (zAF (zHu n))):PSound Tryz.prog 117 (zAF (zHu (n+1))):=by
 have gok:∀ f s,look? f [(48,zCO),(117,zAF (zHu n)),(84,zDW)]=some s->PSound Tryz.prog f s:=zAC (by
  simp only[List.forall_mem_cons]
  exact⟨zCN,ih,zEz,by simp⟩)
 refine zAG tokW Tryz.call117 Tryz.func117 rfl (fun xs r h=>by obtain⟨_,_,_,_,_,rfl,_⟩:=h; show 3<=41; decide) 41 rfl ?_;rintro xs r w0 G0 ⟨⟨n1A,n1C,n1D,n1B⟩,path2,l3,y0,h,rfl,rfl⟩ _;rw[zFd]at h;refine zXL [6] [] rfl ?_;show Tri ..;refine zAa ?_;refine zXL [] [9] rfl ?_;intro n4 hn4;obtain rfl:(path2.length:Int)=n4:=(hn4.trans (congrArg (fun m:Nat=>(m:Int)) (rlen (fun _=>rfl) path2))).symm;show Tri ..;refine zAq rfl h (fun hb h=>?_) (fun hb h=>?_)
 ·refine zXL [] [] rfl ?_;obtain⟨⟨y5A,y5C,y5D,y5B⟩,hy5,h⟩:=zAc h;refine⟨_,⟨_,_,hy5,rfl,rfl⟩,?_⟩
  show Tri ..;refine zAk ?_;have hy:=Option.some.inj h;subst hy;unfold zAA;exact⟨_,Le.refl _ _,rfl,rfl⟩
 ·refine zAn ?_;show Tri ..;refine zAa ?_;refine zC1 [7] [16,18] [7,8] [] rfl (by decide +kernel) ?_;obtain⟨e6,he6,h⟩:=zAc h;refine And.intro (zAD (fun _=>rfl) he6).1 ?_;intro r7 hr7;obtain rfl:[.int .i64 e6]=r7:=(hr7.trans (zAD (fun _=>rfl) he6).2.1).symm;obtain⟨⟨e8A,e8C,e8D,e8B⟩,he8,h⟩:=zAc h;refine And.intro (zAD Nd.encs_eq he8).1 ?_;intro r9 hr9;obtain rfl:[.int .i64 e8A,.str e8C,.int .i64 e8D,.sl 4 (Nd.encs e8B)]=r9:=(hr9.trans (zAD Nd.encs_eq he8).2.1).symm;show Tri ..
  refine zAs (Le.giveBox 1 [.int .i64 e8A,.str e8C,.int .i64 e8D,.sl 4 (Nd.encs e8B)] rfl rfl) ?_;refine zAa ?_;refine zAO [] [22,26,31,33,36] [21] rfl (by decide +kernel) ?_;obtain⟨e10,he10,h⟩:=zAc h;refine And.intro (zAD (fun _=>rfl) he10).1 ?_;intro r11 hr11;obtain rfl:[.int .i64 e10]=r11:=(hr11.trans (zAD (fun _=>rfl) he10).2.1).symm;obtain⟨e12,he12,h⟩:=zAc h;refine And.intro (zAD (fun _=>rfl) he12).1 ?_;intro r13 hr13;obtain rfl:[.int .i64 e12]=r13:=(hr13.trans (zAD (fun _=>rfl) he12).2.1).symm;obtain⟨e14,he14,h⟩:=zAc h;refine And.intro (zAD (fun _=>rfl) he14).1 ?_;intro r15 hr15
  obtain rfl:[.int .i64 e14]=r15:=(hr15.trans (zAD (fun _=>rfl) he14).2.1).symm;obtain⟨⟨e16A,e16C,e16D,e16B⟩,he16,h⟩:=zAc h;refine And.intro (zAD Nd.encs_eq he16).1 ?_;intro r17 hr17;obtain rfl:[.int .i64 e16A,.str e16C,.int .i64 e16D,.sl 4 (Nd.encs e16B)]=r17:=(hr17.trans (zAD Nd.encs_eq he16).2.1).symm;obtain⟨hq,h⟩:=zAJ h;refine And.intro ⟨hq.1,Int.le_trans hq.2.1 (Int.ofNat_le.2 (Nat.le_of_eq (rlen (fun _=>rfl) _).symm)),Int.le_refl _⟩ ?_;intro r18 hr18
  obtain rfl:(List.map (irow .i64)) ((path2.take (path2.length:Int).toNat).drop (2:Int).toNat)=r18:=(hr18.trans ((congrArg (fun m:Nat=>(((List.map (irow .i64)) path2).take m).drop (2:Int).toNat) (rlen (fun _=>rfl) _)).trans (rcut (fun _=>rfl) _ _ _))).symm;obtain⟨⟨y19A,y19C,y19D,y19B⟩,hy19,h⟩:=zAc h;refine⟨_,⟨_,_,_,_,hy19,rfl,rfl⟩,?_⟩
  obtain⟨⟨y20A,y20C,y20D,y20B⟩,hy20,h⟩:=zAc h;refine⟨_,⟨_,_,_,_,hy20,rfl,rfl⟩,?_⟩
  obtain⟨⟨y21A,y21C,y21D,y21B⟩,hy21,h⟩:=zAc h;refine⟨_,⟨_,_,_,_,hy21,rfl,rfl⟩,?_⟩
  show Tri ..;refine zAk ?_;have hy:=Option.some.inj h;subst hy;unfold zAA;exact⟨_,Le.refl _ _,rfl,rfl⟩
theorem zRy:∀ n,PSound Tryz.prog 117 (zAF (zHu n)):=by
 intro n
 induction n with
 | zero=>exact zCC Tryz.call117 (fun xs r h=>by obtain⟨_,_,_,_,h,_⟩:=h; cases h)
 | succ n ih=>exact zQ2 n ih
def zPQ:zAE:=zAF fun xs r=>∃ n,zHu n xs r
theorem zTB:PSound Tryz.prog 117 zPQ:=zC9 zRy
def zRo (n:Nat) (xs:List AV) (r:Ret):Prop:=∃ (a0:Nd) (a1:zO8) (y0:Nd) (y1:Int),zD3 n a0 a1=some (y0,y1)/\xs=[.agg ((Nd.enc a0).map .s),.agg ((zAl a1).map .s)]/\r = .val (.tup [.agg ((Nd.enc y0).map .s),.s (.int .i64 y1)])
def zIY:zAE:=zAF fun xs r=>∃ n,zRo n xs r
theorem zKQ:PSound Tryz.prog 86 zIY:=by
 have gok:∀ f s,look? f [(25,zCw),(81,zHB),(76,zHz),(116,zKu),(117,zPQ)]=some s->PSound Tryz.prog f s:=zAC (by
  simp only[List.forall_mem_cons]
  exact⟨zCt,zJJ,zIf,zOT,zTB,by simp⟩)
 refine zAG tokW Tryz.call86 Tryz.func86 rfl (fun xs r h=>by obtain⟨n,_,_,_,_,_,rfl,_⟩:=h; show 2<=50; decide) 50 rfl ?_;rintro xs r w0 G0 ⟨n,⟨n1A,n1C,n1D,n1B⟩,⟨op2A,op2E,op2F,op2S,op2R,op2W,op2X,op2C⟩,y0,y1,h,rfl,rfl⟩ _;rw[zD3]at h;refine zXL [4] [] rfl ?_;show Tri ..;refine zAa ?_;refine zXL [] [] rfl ?_;obtain⟨y3,hy3,h⟩:=zAc h;refine⟨_,⟨_,_,_,hy3,rfl,rfl⟩,?_⟩
 show Tri ..;refine zAq rfl h (fun hb h=>?_) (fun hb h=>?_)
 ·refine zXL [] [] rfl ?_;show Tri ..;refine zAk ?_;obtain⟨hj1,hk1⟩:=pij h;subst hj1 hk1;unfold zAA;exact⟨_,Le.refl _ _,rfl,rfl⟩
 ·refine zAn ?_;show Tri ..;refine zAa ?_;refine zXL [] [] rfl ?_;obtain⟨y4,hy4,h⟩:=zAc h;refine⟨_,⟨_,_,_,hy4,rfl,rfl⟩,?_⟩
  show Tri ..;refine zAq rfl h (fun hb h=>?_) (fun hb h=>?_)
  ·refine zXL [] [] rfl ?_;show Tri ..;refine zAk ?_;obtain⟨hj1,hk1⟩:=pij h;subst hj1 hk1;unfold zAA;exact⟨_,Le.refl _ _,rfl,rfl⟩
  ·refine zAn ?_;show Tri ..;refine zXL [6] [] rfl ?_;obtain⟨⟨⟨y5A,y5C,y5D,y5B⟩,y6⟩,hy5,h⟩:=zAc h;refine⟨_,⟨_,_,_,_,_,hy5,rfl,rfl⟩,?_⟩
   show Tri ..;refine zAs (Le.giveBox 1 [.int .i64 y5A,.str y5C,.int .i64 y5D,.sl 4 (Nd.encs y5B)] rfl rfl) ?_;refine zAa ?_;refine zXL [] [] rfl ?_;show Tri ..;refine zAq rfl h (fun hb h=>?_) (fun hb h=>?_)
   ·refine zXL [] [] rfl ?_;show Tri ..;refine zAk ?_;obtain⟨hj1,hk1⟩:=pij h;subst hj1 hk1;unfold zAA;exact⟨_,Le.refl _ _,rfl,rfl⟩
   ·refine zAn ?_;show Tri ..;refine zXL [] [] rfl ?_;obtain⟨⟨y7,y8⟩,hy7,h⟩:=zAc h;refine⟨_,⟨_,_,_,_,_,hy7,rfl,rfl⟩,?_⟩
    show Tri ..;refine zAa ?_;refine zXL [] [] rfl ?_;show Tri ..;refine zAq rfl h (fun hb h=>?_) (fun hb h=>?_)
    ·refine zXL [] [] rfl ?_;show Tri ..;refine zAk ?_;obtain⟨hj1,hk1⟩:=pij h;subst hj1 hk1;unfold zAA;exact⟨_,Le.refl _ _,rfl,rfl⟩
    ·refine zAn ?_;show Tri ..;refine zXL [9] [] rfl ?_;obtain⟨⟨y9A,y9C,y9D,y9B⟩,hy9,h⟩:=zAc h;refine⟨_,⟨_,_,_,_,_,hy9,rfl,rfl⟩,?_⟩
     show Tri ..;refine zAs (Le.giveBox 2 [.int .i64 y9A,.str y9C,.int .i64 y9D,.sl 4 (Nd.encs y9B)] rfl rfl) ?_;refine zAa ?_;refine zXL [] [] rfl ?_;obtain⟨y10,hy10,h⟩:=zAc h;refine⟨_,⟨_,_,_,hy10,rfl,rfl⟩,?_⟩
     show Tri ..;refine zAq rfl h (fun hb h=>?_) (fun hb h=>?_)
     ·refine zXL [] [] rfl ?_;show Tri ..;refine zAk ?_;obtain⟨hj1,hk1⟩:=pij h;subst hj1 hk1;unfold zAA;exact⟨_,Le.refl _ _,rfl,rfl⟩
     ·refine zAn ?_;show Tri ..;refine zXL [] [] rfl ?_;show Tri ..;refine zAk ?_;obtain⟨hj1,hk1⟩:=pij h;subst hj1 hk1;unfold zAA;exact⟨_,Le.refl _ _,rfl,rfl⟩
def zMN (n:Nat) (xs:List AV) (r:Ret):Prop:=∃ (a0:Nd) (a1:List zO8) (y0:Nd) (y1:Int) (y2:Int),zC8 n a0 a1=some (y0,y1,y2)/\xs=[.agg ((Nd.enc a0).map .s),.s (.sl 8 ((List.map zAl) a1))]/\r = .val (.tup [.agg ((Nd.enc y0).map .s),.s (.int .i64 y1),.s (.int .i64 y2)])
def zIC:zAE:=zAF fun xs r=>∃ n,zMN n xs r
theorem zMf:PSound Tryz.prog 66 zIC:=by
 have gok:∀ f s,look? f [(25,zCw),(86,zIY)]=some s->PSound Tryz.prog f s:=zAC (by
  simp only[List.forall_mem_cons]
  exact⟨zCt,zKQ,by simp⟩)
 refine zAG tokW Tryz.call66 Tryz.func66 rfl (fun xs r h=>by obtain⟨n,_,_,_,_,_,_,rfl,_⟩:=h; show 2<=36; decide) 36 rfl ?_;rintro xs r w0 G0 ⟨n,⟨n1A,n1C,n1D,n1B⟩,ops2,y0,y1,y2,h,rfl,rfl⟩ _;rw[zC8]at h;refine zXL [2,4] [] rfl ?_;show Tri ..;refine zAa ?_;refine zXL [] [] rfl ?_;obtain⟨y3,hy3,h⟩:=zAc h;refine⟨_,⟨_,_,_,hy3,rfl,rfl⟩,?_⟩
 show Tri ..;refine zAq rfl h (fun hb h=>?_) (fun hb h=>?_)
 ·refine zXL [] [] rfl ?_;show Tri ..;refine zAk ?_;obtain⟨hj1,hk1⟩:=pij h;subst hj1;obtain⟨hj2,hk2⟩:=Prod.mk.inj hk1;subst hj2;subst hk2;unfold zAA;exact⟨_,Le.refl _ _,rfl,rfl⟩
 ·refine zAn ?_;show Tri ..;refine zAa ?_;refine zXL [] [] rfl ?_;show Tri ..;obtain⟨fl,hl,ho1⟩:=zAc h;refine zBH (fl:=fl) (fun z=>match z with | ⟨x10,x11,x12,x13⟩=>⟨ofL [(2,.op 0 0),(4,.op 1 0)],ofH [(0,.box 24 [.s (.int .i64 x10),.s (.str x11),.s (.int .i64 x12),.s (.sl 4 (Nd.encs x13))]),(1,.box 24 [.s (.int .i64 0),.s (.str []),.s (.int .i64 0),.nl 4])],2⟩) ?_ (fun z σ' hz hle=>?_)
  ·refine zAw (zAL (X:=Nat×Int×(List UInt8)×Int×(List Nd)×Int) (fun y=>match y with | (k,x4,x5,x6,x7,i9)=>⟨ofL [(1,.s (.sl 8 ((List.map zAl) ops2))),(2,.op 0 0),(4,.op 1 0),(7,.s (.int .i64 i9))],ofH [(0,.box 24 [.s (.int .i64 x4),.s (.str x5),.s (.int .i64 x6),.s (.sl 4 (Nd.encs x7))]),(1,.box 24 [.s (.int .i64 0),.s (.str []),.s (.int .i64 0),.nl 4])],2⟩) (fun y=>zBI n ops2 y.1 y.2.1 y.2.2.1 y.2.2.2.1 y.2.2.2.2.1 y.2.2.2.2.2=some fl) (fun y=>y.1) (n,n1A,n1C,n1D,n1B,0) hl ?_ ?_)
   ·exact(Le.rnm [(0,0),(1,1)] _ _ _ ⟨rfl,rfl,rfl,rfl,trivial⟩ ⟨rfl,⟨_,rfl,rfl⟩,rfl,⟨_,rfl,rfl⟩,trivial⟩)
   ·rintro⟨k,x4,x5,x6,x7,i9⟩ h;cases k with
    | zero=>cases h
    | succ k =>
     replace h:zBI n ops2 (k+1) x4 x5 x6 x7 i9=some fl:=h;rw[zBI]at h;refine zAa ?_;refine zXL [] [16] rfl ?_;intro n14 hn14;obtain rfl:(ops2.length:Int)=n14:=(hn14.trans (congrArg (fun m:Nat=>(m:Int)) (rlen (fun _=>rfl) ops2))).symm;show Tri ..;refine zAq rfl h (fun hb h=>?_) (fun hb h=>?_)
     ·refine zAn ?_;show Tri ..;refine zAa ?_;refine zAw ?_;refine zAa ?_;refine zC1 [8] [24] [0,9,10] [0] rfl (by decide +kernel) ?_;obtain⟨⟨e15A,e15E,e15F,e15S,e15R,e15W,e15X,e15C⟩,he15,h⟩:=zAc h;refine And.intro (zAD (fun _=>rfl) he15).1 ?_;intro r16 hr16;obtain rfl:[.int .i64 e15A,.sl 1 ((List.map (irow .i64)) e15E),.int .i64 e15F,.int .i64 e15S,.sl 4 (Nd.encs e15R),.int .i64 e15W,.str e15X,.str e15C]=r16:=(hr16.trans (zAD (fun _=>rfl) he15).2.1).symm;obtain⟨⟨⟨y17A,y17C,y17D,y17B⟩,y18⟩,hy17,h⟩:=zAc h
      refine⟨_,⟨_,_,_,_,_,hy17,rfl,rfl⟩,?_⟩
      show Tri ..;refine zAs (Le.giveBox 2 [.int .i64 y17A,.str y17C,.int .i64 y17D,.sl 4 (Nd.encs y17B)] rfl rfl) ?_;refine zAa ?_;refine zXL [] [] rfl ?_;show Tri ..;refine zAq rfl h (fun hb h=>?_) (fun hb h=>?_)
      ·refine zXL [] [] rfl ?_;show Tri ..;refine zAk ?_;cases h;replace h:some _=some _:=ho1;obtain⟨hj1,hk1⟩:=pij h;subst hj1;obtain⟨hj2,hk2⟩:=Prod.mk.inj hk1;subst hj2;subst hk2;unfold zAA;exact⟨_,Le.refl _ _,rfl,rfl⟩
      ·refine zAn ?_;show Tri ..;refine zAb [] [] rfl ?_;show Tri ..;refine zAb [] [] rfl ?_;refine⟨(k,y17A,y17C,y17D,y17B,IntKind.i64.wrap (i9+1)),h,(Le.rnm [(0,0),(1,1)] _ _ _ ⟨rfl,rfl,rfl,rfl,trivial⟩ ⟨rfl,⟨_,rfl,rfl⟩,rfl,⟨_,rfl,rfl⟩,trivial⟩),Nat.lt_succ_self k⟩
     ·refine zAP ?_;cases h;exact⟨_,rfl,(Le.rnm [(0,0),(1,1)] _ _ _ ⟨rfl,rfl,trivial⟩ ⟨rfl,⟨_,rfl,rfl⟩,rfl,⟨_,rfl,rfl⟩,trivial⟩)⟩
  ·subst hz;obtain⟨x10,x11,x12,x13⟩:=z;replace h:=ho1;show Tri ..;refine zAs hle ?_;refine zXL [] [] rfl ?_;show Tri ..;refine zAk ?_;obtain⟨hj1,hk1⟩:=pij h;subst hj1;obtain⟨hj2,hk2⟩:=Prod.mk.inj hk1;subst hj2;subst hk2;unfold zAA;exact⟨_,Le.refl _ _,rfl,rfl⟩
def zTa (n:Nat) (xs:List AV) (r:Ret):Prop:=∃ (a0:Nd) (a1:zCu) (a2:List zO8) (a3:List Int) (y0:zRc) (y1:Int),zBz n a0 a1 a2 a3=some (y0,y1)/\xs=[.agg ((Nd.enc a0).map .s),.agg ((zAp a1).map .s),.s (.sl 8 ((List.map zAl) a2)),.s (.sl 1 ((List.map (irow .i64)) a3))]/\r = .val (.tup [.agg ((zAd y0).map .s),.s (.int .i64 y1)])
def zEc:zAE:=zAF fun xs r=>∃ n,zTa n xs r
theorem zD7:PSound Tryz.prog 73 zEc:=by
 have gok:∀ f s,look? f [(66,zIC)]=some s->PSound Tryz.prog f s:=zAC (by
  simp only[List.forall_mem_cons]
  exact⟨zMf,by simp⟩)
 refine zAG tokW Tryz.call73 Tryz.func73 rfl (fun xs r h=>by obtain⟨n,_,_,_,_,_,_,_,rfl,_⟩:=h; show 4<=28; decide) 28 rfl ?_;rintro xs r w0 G0 ⟨n,⟨n1A,n1C,n1D,n1B⟩,⟨c2Q,c2V⟩,ops3,pos4,y0,y1,h,rfl,rfl⟩ _;rw[zBz]at h;refine zXL [8] [] rfl ?_;show Tri ..;refine zXL [10] [] rfl ?_;obtain⟨⟨⟨y5A,y5C,y5D,y5B⟩,y6,y7⟩,hy5,h⟩:=zAc h;refine⟨_,⟨_,_,_,_,_,_,hy5,rfl,rfl⟩,?_⟩
 show Tri ..;refine zAs (Le.giveBox 1 [.int .i64 y5A,.str y5C,.int .i64 y5D,.sl 4 (Nd.encs y5B)] rfl rfl) ?_;refine zAa ?_;refine zXL [] [] rfl ?_;show Tri ..;refine zAq rfl h (fun hb h=>?_) (fun hb h=>?_)
 ·refine zXL [] [] rfl ?_;show Tri ..;refine zAk ?_;obtain⟨hj1,hk1⟩:=pij h;subst hj1 hk1;unfold zAA;exact⟨_,Le.refl _ _,rfl,rfl⟩
 ·refine zAn ?_;show Tri ..;refine zXL [] [] rfl ?_;show Tri ..;refine zAk ?_;obtain⟨hj1,hk1⟩:=pij h;subst hj1 hk1;unfold zAA;exact⟨_,Le.refl _ _,rfl,rfl⟩
def zPI (n:Nat) (xs:List AV) (r:Ret):Prop:=∃ (a0:Nd) (a1:zCu) (a2:List Nd) (y0:zRc) (y1:Int),zCM n a0 a1 a2=some (y0,y1)/\xs=[.agg ((Nd.enc a0).map .s),.agg ((zAp a1).map .s),.s (.sl 4 (Nd.encs a2))]/\r = .val (.tup [.agg ((zAd y0).map .s),.s (.int .i64 y1)])
def zKA:zAE:=zAF fun xs r=>∃ n,zPI n xs r
theorem zOZ:PSound Tryz.prog 50 zKA:=by
 have gok:∀ f s,look? f [(25,zCw),(70,zD0),(71,zDg),(72,zJt),(74,zIb),(73,zEc)]=some s->PSound Tryz.prog f s:=zAC (by
  simp only[List.forall_mem_cons]
  exact⟨zCt,zER,zDw,zKb,zHZ,zD7,by simp⟩)
 refine zAG tokW Tryz.call50 Tryz.func50 rfl (fun xs r h=>by obtain⟨n,_,_,_,_,_,_,rfl,_⟩:=h; show 3<=60; decide) 60 rfl ?_;rintro xs r w0 G0 ⟨n,⟨n1A,n1C,n1D,n1B⟩,⟨c2Q,c2V⟩,items3,y0,y1,h,rfl,rfl⟩ _;rw[zCM]at h;refine zXL [6] [] rfl ?_;show Tri ..;refine zAa ?_;refine zAa ?_;obtain⟨x4,hj,h⟩:=zAc h
 refine zAz ⟨ofL [(2,.s (.sl 4 (Nd.encs items3))),(3,.s (.pt [.int .i64 n1A,.str n1C,.int .i64 n1D,.sl 4 (Nd.encs n1B)])),(4,.s (.pt [.sl 1 ((List.map (irow .i64)) c2Q),.sl 1 ((List.map (irow .i64)) c2V)])),(6,.op 0 0),(18,.s (.bool x4))],ofH [(0,.box 31 [.nl 8,.nl 1,.nl 1,.nl 1,.nl 1])],1⟩ ?_ (fun σ' hle=>?_)
 ·replace h:=hj;refine zAb [] [14] rfl ?_;obtain⟨y5,hy5,h⟩:=zAc h;refine⟨_,⟨_,_,_,hy5,rfl,rfl⟩,?_⟩
  intro b hb;cases b with
  | true =>
   replace h:=zAI hb.symm h;cases h;exact(Le.rnm [(0,0)] _ _ _ ⟨rfl,rfl,rfl,rfl,rfl,trivial⟩ ⟨rfl,⟨_,rfl,rfl⟩,trivial⟩)
  | false =>
   replace h:=zAH hb.symm h;obtain⟨y6,hy6,h⟩:=zAc h;refine⟨_,⟨_,_,_,hy6,rfl,rfl⟩,?_⟩
   cases h;exact(Le.rnm [(0,0)] _ _ _ ⟨rfl,rfl,rfl,rfl,rfl,trivial⟩ ⟨rfl,⟨_,rfl,rfl⟩,trivial⟩)
 ·show Tri ..;refine zAs hle ?_;refine zAq rfl h (fun hb h=>?_) (fun hb h=>?_)
  ·refine zXL [] [] rfl ?_;show Tri ..;refine zAk ?_;obtain⟨hj1,hk1⟩:=pij h;subst hj1 hk1;unfold zAA;exact⟨_,Le.refl _ _,rfl,rfl⟩
  ·refine zAn ?_;show Tri ..;refine zXL [8] [] rfl ?_;obtain⟨⟨⟨y7E,y7Ab,y7Ah⟩,y8⟩,hy7,h⟩:=zAc h;refine⟨_,⟨_,_,_,_,_,hy7,rfl,rfl⟩,?_⟩
   show Tri ..;refine zAs (Le.giveBox 1 [.sl 1 ((List.map (irow .i64)) y7E),.int .i64 y7Ab,.int .i64 y7Ah] rfl rfl) ?_;refine zAa ?_;refine zXL [] [] rfl ?_;show Tri ..;refine zAq rfl h (fun hb h=>?_) (fun hb h=>?_)
   ·refine zXL [] [] rfl ?_;show Tri ..;refine zAk ?_;obtain⟨hj1,hk1⟩:=pij h;subst hj1 hk1;unfold zAA;exact⟨_,Le.refl _ _,rfl,rfl⟩
   ·refine zAn ?_;show Tri ..;refine zXL [32] [] rfl ?_;obtain⟨y9,hy9,h⟩:=zAc h;refine⟨_,⟨_,_,_,_,hy9,rfl,rfl⟩,?_⟩
    show Tri ..;refine zAa ?_;refine zXL [] [34] rfl ?_;intro n10 hn10;obtain rfl:(items3.length:Int)=n10:=(hn10.trans (congrArg (fun m:Nat=>(m:Int)) (rlen Nd.encs_eq items3))).symm;show Tri ..;obtain⟨l11,hj,h⟩:=zAc h
    refine zAz ⟨ofL [(2,.s (.sl 4 (Nd.encs items3))),(3,.s (.pt [.int .i64 n1A,.str n1C,.int .i64 n1D,.sl 4 (Nd.encs n1B)])),(4,.s (.pt [.sl 1 ((List.map (irow .i64)) c2Q),.sl 1 ((List.map (irow .i64)) c2V)])),(6,.op 0 0),(8,.s (.pt [.sl 1 ((List.map (irow .i64)) y7E),.int .i64 y7Ab,.int .i64 y7Ah])),(10,.orow 1)],ofH [(0,.box 31 [.nl 8,.nl 1,.nl 1,.nl 1,.nl 1]),(1,.row 65 8 ((List.map zAl) l11))],2⟩ ?_ (fun σ' hle=>?_)
    ·replace h:=hj;refine zAq rfl h (fun hb h=>?_) (fun hb h=>?_)
     ·refine zAb [44] [43] rfl ?_;intro r12 hr12;obtain rfl:(List.map zAl) [(1,y7E,y7Ab,0,items3,0,[],[])]=r12:=(hr12.trans (by simp[List.map_append,List.map_take,List.map_drop,irow,brow,zAB,List.map_cons,List.map_nil,zAy,Nd.encs_eq,Nd.enc,zAi,zAh,zAv,zAo,zAj,zAl,zAd,zAg,zAp,zAf,zAe,zAx,zAt])).symm;obtain⟨hq,h⟩:=zAJ h
      refine And.intro (show(((List.map zAl) y9).length+((List.map zAl) [(1,y7E,y7Ab,0,items3,0,[],[])]).length) * 112<=140737488355328/\((List.map zAl) y9).length+((List.map zAl) [(1,y7E,y7Ab,0,items3,0,[],[])]).length<=9223372036854775807 from by simp only[List.length_append,List.length_cons,List.length_nil,List.length_map,rlen (fun _=>rfl)]at hq ⊢; omega) ?_;cases h
      exact(Le.trans (Le.rnm [(0,0),(3,1)] [(2,.s (.sl 4 (Nd.encs items3))),(3,.s (.pt [.int .i64 n1A,.str n1C,.int .i64 n1D,.sl 4 (Nd.encs n1B)])),(4,.s (.pt [.sl 1 ((List.map (irow .i64)) c2Q),.sl 1 ((List.map (irow .i64)) c2V)])),(6,.op 0 0),(8,.s (.pt [.sl 1 ((List.map (irow .i64)) y7E),.int .i64 y7Ab,.int .i64 y7Ah])),(10,.orow 1)] [(0,.box 31 [.nl 8,.nl 1,.nl 1,.nl 1,.nl 1]),(1,.row 65 8 ((List.map zAl) (y9++[(1,y7E,y7Ab,0,items3,0,[],[])])))] 2 ⟨rfl,rfl,rfl,rfl,rfl,rfl,trivial⟩ ⟨rfl,⟨_,rfl,rfl⟩,rfl,⟨_,rfl,congrArg (Ob.row 65 8) (by simp[List.map_append,List.map_take,List.map_drop,irow,brow,zAB,List.map_cons,List.map_nil,zAy,Nd.encs_eq,Nd.enc,zAi,zAh,zAv,zAo,zAj,zAl,zAd,zAg,zAp,zAf,zAe,zAx,zAt])⟩,trivial⟩) (Le.rnm [(0,0),(1,1)] _ _ _ ⟨rfl,rfl,rfl,rfl,rfl,rfl,trivial⟩ ⟨rfl,⟨_,rfl,rfl⟩,rfl,⟨_,rfl,rfl⟩,trivial⟩))
     ·refine zAn ?_;cases h;exact(Le.rnm [(0,0),(2,1)] _ _ _ ⟨rfl,rfl,rfl,rfl,rfl,rfl,trivial⟩ ⟨rfl,⟨_,rfl,rfl⟩,rfl,⟨_,rfl,rfl⟩,trivial⟩)
    ·show Tri ..;refine zAs hle ?_;refine zAa ?_;refine zAO [] [53,55] [12,15] rfl (by decide +kernel) ?_;intro n13 hn13;obtain rfl:(items3.length:Int)=n13:=(hn13.trans (congrArg (fun m:Nat=>(m:Int)) (rlen Nd.encs_eq items3))).symm;intro r14 hr14
     obtain rfl:(List.map (irow .i64)) [IntKind.i64.wrap (y7Ab+(items3.length:Int))]=r14:=(hr14.trans (by simp[List.map_append,List.map_take,List.map_drop,irow,brow,zAB,List.map_cons,List.map_nil,zAy,Nd.encs_eq,Nd.enc,zAi,zAh,zAv,zAo,zAj,zAl,zAd,zAg,zAp,zAf,zAe,zAx,zAt])).symm;obtain⟨y15,hy15,h⟩:=zAc h;refine⟨_,⟨_,_,_,hy15,rfl,rfl⟩,?_⟩
     obtain⟨⟨⟨y16Aa,⟨y16Ac,y16Ad⟩,⟨y16Ae,y16Af⟩⟩,y17⟩,hy16,h⟩:=zAc h;refine⟨_,⟨_,_,_,_,_,_,_,hy16,rfl,rfl⟩,?_⟩
     show Tri ..;refine zAk ?_;obtain⟨hj1,hk1⟩:=pij h;subst hj1 hk1;unfold zAA;exact⟨_,Le.refl _ _,rfl,rfl⟩
def zRn (xs:List AV) (r:Ret):Prop:=∃ (a0:(List Int×Int×Int)) (y0:List Int),zFZ a0=some y0/\xs=[.agg ((zAt a0).map .s)]/\r = .row 3 1 ((List.map (irow .i64)) y0)
def zLF:zAE:=zAF fun xs r=>zRn xs r
theorem zQH:PSound Tryz.prog 75 zLF:=by
 have gok:=@gok0 Tryz.prog;refine zAG tokW Tryz.call75 Tryz.func75 rfl (fun xs r h=>by obtain⟨_,_,_,rfl,_⟩:=h; show 1<=11; decide) 11 rfl ?_;rintro xs r w0 G0 ⟨⟨r1E,r1Ab,r1Ah⟩,y0,h,rfl,rfl⟩ _;rw[zFZ]at h;refine zXL [2] [] rfl ?_;show Tri ..;refine zAs (Le.rnm [] [(1,.s (.pt [.sl 1 ((List.map (irow .i64)) r1E),.int .i64 r1Ab,.int .i64 r1Ah]))] [] 0 ⟨rfl,trivial⟩ trivial) ?_;refine zAa ?_;refine zC1 [3,6,10] [9] [0,3,7] [] rfl (by decide +kernel) ?_;obtain⟨hq,h⟩:=zAJ h
 refine And.intro (show(([]:List (List S)).length+((List.map (irow .i64)) r1E).length) * 8<=140737488355328/\([]:List (List S)).length+((List.map (irow .i64)) r1E).length<=9223372036854775807 from by simp only[List.length_append,List.length_cons,List.length_nil,List.length_map,rlen (fun _=>rfl)]at hq ⊢; omega) ?_;intro r2 hr2
 obtain rfl:(List.map (irow .i64)) [r1Ab]=r2:=(hr2.trans (by simp[List.map_append,List.map_take,List.map_drop,irow,brow,zAB,List.map_cons,List.map_nil,zAy,Nd.encs_eq,Nd.enc,zAi,zAh,zAv,zAo,zAj,zAl,zAd,zAg,zAp,zAf,zAe,zAx,zAt])).symm;obtain⟨hq,h⟩:=zAJ h
 refine And.intro (show((([]:List (List S))++((List.map (irow .i64)) r1E)).length+((List.map (irow .i64)) [r1Ab]).length) * 8<=140737488355328/\(([]:List (List S))++((List.map (irow .i64)) r1E)).length+((List.map (irow .i64)) [r1Ab]).length<=9223372036854775807 from by simp only[List.length_append,List.length_cons,List.length_nil,List.length_map,rlen (fun _=>rfl)]at hq ⊢; omega) ?_;show Tri ..
 refine zAs (Le.rnm [(2,0)] [(2,.orow 0)] [(0,.row 3 1 ((List.map (irow .i64)) (r1E++[r1Ab])))] 1 ⟨rfl,trivial⟩ ⟨rfl,⟨_,rfl,congrArg (Ob.row 3 1) (by simp[List.map_append,List.map_take,List.map_drop,irow,brow,zAB,List.map_cons,List.map_nil,zAy,Nd.encs_eq,Nd.enc,zAi,zAh,zAv,zAo,zAj,zAl,zAd,zAg,zAp,zAf,zAe,zAx,zAt])⟩,trivial⟩) ?_;refine zAk ?_;have hy:=Option.some.inj h;subst hy;unfold zAA;exact⟨_,Le.refl _ _,0,rfl,rfl⟩
def zOl (n:Nat) (xs:List AV) (r:Ret):Prop:=∃ (a0:Nd) (a1:Int) (y0:Bool),zDL n a0 a1=some y0/\xs=[.agg ((Nd.enc a0).map .s),.s (.int .i64 a1)]/\r = .val (.s (.bool y0))
def zJs:zAE:=zAF fun xs r=>∃ n,zOl n xs r
theorem zM2:PSound Tryz.prog 77 zJs:=by
 have gok:=@gok0 Tryz.prog;refine zAG tokW Tryz.call77 Tryz.func77 rfl (fun xs r h=>by obtain⟨n,_,_,_,_,rfl,_⟩:=h; show 2<=26; decide) 26 rfl ?_;rintro xs r w0 G0 ⟨n,⟨n1A,n1C,n1D,n1B⟩,but2,y0,h,rfl,rfl⟩ _;rw[zDL]at h;refine zXL [] [] rfl ?_;show Tri ..;refine zAa ?_;refine zXL [] [] rfl ?_;show Tri ..;obtain⟨fl,hl,ho1⟩:=zAc h;refine zBH (fl:=fl) (fun z=>match z with | _=>⟨ofL [],fun _=>none,0⟩) ?_ (fun z σ' hz hle=>?_)
 ·refine zAw (zAL (X:=Nat×Int) (fun y=>match y with | (k,i3)=>⟨ofL [(1,.s (.int .i64 but2)),(2,.s (.pt [.int .i64 n1A,.str n1C,.int .i64 n1D,.sl 4 (Nd.encs n1B)])),(5,.s (.int .i64 i3))],fun _=>none,0⟩) (fun y=>zBU n1B but2 y.1 y.2=some fl) (fun y=>y.1) (n,0) hl ?_ ?_)
  ·exact(Le.forget _ ⟨rfl,rfl,rfl,trivial⟩)
  ·rintro⟨k,i3⟩ h;cases k with
   | zero=>cases h
   | succ k =>
    replace h:zBU n1B but2 (k+1) i3=some fl:=h;rw[zBU]at h;refine zAa ?_;refine zXL [] [9] rfl ?_;intro n4 hn4;obtain rfl:(n1B.length:Int)=n4:=(hn4.trans (congrArg (fun m:Nat=>(m:Int)) (rlen Nd.encs_eq n1B))).symm;show Tri ..;refine zAq rfl h (fun hb h=>?_) (fun hb h=>?_)
    ·refine zAn ?_;show Tri ..;refine zAa ?_;refine zAw ?_;refine zAa ?_;obtain⟨x5,hj,h⟩:=zAc h;refine zAz ⟨ofL [(1,.s (.int .i64 but2)),(2,.s (.pt [.int .i64 n1A,.str n1C,.int .i64 n1D,.sl 4 (Nd.encs n1B)])),(5,.s (.int .i64 i3)),(25,.s (.bool x5))],fun _=>none,0⟩ ?_ (fun σ' hle=>?_)
     ·replace h:=hj;refine zAb [] [16,20,23] rfl ?_;intro b hb;cases b with
      | true =>
       replace h:=zAI hb.symm h;obtain⟨⟨e6A,e6C,e6D,e6B⟩,he6,h⟩:=zAc h;refine And.intro (zAD Nd.encs_eq he6).1 ?_;intro r7 hr7;obtain rfl:[.int .i64 e6A,.str e6C,.int .i64 e6D,.sl 4 (Nd.encs e6B)]=r7:=(hr7.trans (zAD Nd.encs_eq he6).2.1).symm;intro n8 hn8;obtain rfl:(e6B.length:Int)=n8:=(hn8.trans (congrArg (fun m:Nat=>(m:Int)) (rlen Nd.encs_eq e6B))).symm;cases h;exact(Le.forget _ ⟨rfl,rfl,rfl,rfl,trivial⟩)
      | false =>
       replace h:=zAH hb.symm h;cases h;exact(Le.forget _ ⟨rfl,rfl,rfl,rfl,trivial⟩)
     ·show Tri ..;refine zAs hle ?_;refine zAq rfl h (fun hb h=>?_) (fun hb h=>?_)
      ·refine zXL [] [] rfl ?_;show Tri ..;refine zAk ?_;cases h;replace h:some _=some _:=ho1;have hy:=Option.some.inj h;subst hy;unfold zAA;exact⟨_,Le.refl _ _,rfl,rfl⟩
      ·refine zAn ?_;show Tri ..;refine zAb [] [] rfl ?_;refine⟨(k,IntKind.i64.wrap (i3+1)),h,(Le.forget _ ⟨rfl,rfl,rfl,trivial⟩),Nat.lt_succ_self k⟩
    ·refine zAP ?_;cases h;exact⟨_,rfl,(Le.forget _ trivial)⟩
 ·subst hz;obtain _:=z;replace h:=ho1;show Tri ..;refine zAs hle ?_;refine zXL [] [] rfl ?_;show Tri ..;refine zAk ?_;have hy:=Option.some.inj h;subst hy;unfold zAA;exact⟨_,Le.refl _ _,rfl,rfl⟩
def zS2 (n:Nat) (xs:List AV) (r:Ret):Prop:=∃ (a0:Nd) (a1:List Int) (a2:Int) (y0:Nd) (y1:Int),zFD n a0 a1 a2=some (y0,y1)/\xs=[.agg ((Nd.enc a0).map .s),.s (.sl 1 ((List.map (irow .i64)) a1)),.s (.int .i64 a2)]/\r = .val (.tup [.agg ((Nd.enc y0).map .s),.s (.int .i64 y1)])
def zJ1:zAE:=zAF fun xs r=>∃ n,zS2 n xs r
theorem zMd:PSound Tryz.prog 85 zJ1:=by
 have gok:∀ f s,look? f [(76,zHz)]=some s->PSound Tryz.prog f s:=zAC (by
  simp only[List.forall_mem_cons]
  exact⟨zIf,by simp⟩)
 refine zAG tokW Tryz.call85 Tryz.func85 rfl (fun xs r h=>by obtain⟨n,_,_,_,_,_,_,rfl,_⟩:=h; show 3<=35; decide) 35 rfl ?_;rintro xs r w0 G0 ⟨n,⟨n1A,n1C,n1D,n1B⟩,path2,i3,y0,y1,h,rfl,rfl⟩ _;rw[zFD]at h;refine zXL [6] [] rfl ?_;show Tri ..;refine zXL [8] [] rfl ?_;obtain⟨⟨⟨y4A,y4C,y4D,y4B⟩,y5⟩,hy4,h⟩:=zAc h;refine⟨_,⟨_,_,_,_,_,hy4,rfl,rfl⟩,?_⟩
 show Tri ..;refine zAs (Le.giveBox 1 [.int .i64 y4A,.str y4C,.int .i64 y4D,.sl 4 (Nd.encs y4B)] rfl rfl) ?_;refine zAa ?_;refine zXL [] [] rfl ?_;show Tri ..;refine zAq rfl h (fun hb h=>?_) (fun hb h=>?_)
 ·refine zXL [] [] rfl ?_;show Tri ..;refine zAk ?_;obtain⟨hj1,hk1⟩:=pij h;subst hj1 hk1;unfold zAA;exact⟨_,Le.refl _ _,rfl,rfl⟩
 ·refine zAn ?_;show Tri ..;refine zAa ?_;refine zAa ?_;obtain⟨x6,hj,h⟩:=zAc h;refine zAz ⟨ofL [(2,.s (.int .i64 i3)),(6,.op 0 0),(8,.s (.pt [.int .i64 y4A,.str y4C,.int .i64 y4D,.sl 4 (Nd.encs y4B)])),(28,.s (.bool x6))],ofH [(0,.box 24 [.s (.int .i64 0),.s (.str []),.s (.int .i64 0),.nl 4])],1⟩ ?_ (fun σ' hle=>?_)
  ·replace h:=hj;refine zAb [] [22,26] rfl ?_;intro b hb;cases b with
   | true =>
    replace h:=zAI hb.symm h;cases h;exact(Le.rnm [(0,0)] _ _ _ ⟨rfl,rfl,rfl,rfl,trivial⟩ ⟨rfl,⟨_,rfl,rfl⟩,trivial⟩)
   | false =>
    replace h:=zAH hb.symm h;intro n7 hn7;obtain rfl:(y4B.length:Int)=n7:=(hn7.trans (congrArg (fun m:Nat=>(m:Int)) (rlen Nd.encs_eq y4B))).symm;cases h;exact(Le.rnm [(0,0)] _ _ _ ⟨rfl,rfl,rfl,rfl,trivial⟩ ⟨rfl,⟨_,rfl,rfl⟩,trivial⟩)
  ·show Tri ..;refine zAs hle ?_;refine zAq rfl h (fun hb h=>?_) (fun hb h=>?_)
   ·refine zXL [] [] rfl ?_;show Tri ..;refine zAk ?_;obtain⟨hj1,hk1⟩:=pij h;subst hj1 hk1;unfold zAA;exact⟨_,Le.refl _ _,rfl,rfl⟩
   ·refine zAn ?_;show Tri ..;refine zXL [] [33] rfl ?_;obtain⟨⟨e8A,e8C,e8D,e8B⟩,he8,h⟩:=zAc h;refine And.intro (zAD Nd.encs_eq he8).1 ?_;intro r9 hr9;obtain rfl:[.int .i64 e8A,.str e8C,.int .i64 e8D,.sl 4 (Nd.encs e8B)]=r9:=(hr9.trans (zAD Nd.encs_eq he8).2.1).symm;show Tri ..;refine zAk ?_;obtain⟨hj1,hk1⟩:=pij h;subst hj1 hk1;unfold zAA;exact⟨_,Le.refl _ _,rfl,rfl⟩
def zAm:(List Int×Int×Int×Nd)->List S
| ⟨p_row,p_at,p_own,⟨p_item_kind,p_item_text,p_item_cols,p_item_kids⟩⟩=>[.sl 1 ((List.map (irow .i64)) p_row),.int .i64 p_at,.int .i64 p_own,.int .i64 p_item_kind,.str p_item_text,.int .i64 p_item_cols,.sl 4 (Nd.encs p_item_kids)]
def zPK (n:Nat) (xs:List AV) (r:Ret):Prop:=∃ (a0:Nd) (a1:List Int) (y0:(List Int×Int×Int×Nd)) (y1:Bool),zB4 n a0 a1=some (y0,y1)/\xs=[.agg ((Nd.enc a0).map .s),.s (.sl 1 ((List.map (irow .i64)) a1))]/\r = .val (.tup [.agg ((zAm y0).map .s),.s (.bool y1)])
def zEZ:zAE:=zAF fun xs r=>∃ n,zPK n xs r
theorem zFu:PSound Tryz.prog 78 zEZ:=by
 have gok:∀ f s,look? f [(85,zJ1)]=some s->PSound Tryz.prog f s:=zAC (by
  simp only[List.forall_mem_cons]
  exact⟨zMd,by simp⟩)
 refine zAG tokW Tryz.call78 Tryz.func78 rfl (fun xs r h=>by obtain⟨n,_,_,_,_,_,rfl,_⟩:=h; show 2<=44; decide) 44 rfl ?_;rintro xs r w0 G0 ⟨n,⟨n1A,n1C,n1D,n1B⟩,pos2,y0,y1,h,rfl,rfl⟩ _;rw[zB4]at h;refine zXL [4] [] rfl ?_;show Tri ..;refine zXL [] [10] rfl ?_;intro n3 hn3;obtain rfl:(pos2.length:Int)=n3:=(hn3.trans (congrArg (fun m:Nat=>(m:Int)) (rlen (fun _=>rfl) pos2))).symm;show Tri ..;refine zAa ?_;refine zXL [] [] rfl ?_;show Tri ..;refine zAq rfl h (fun hb h=>?_) (fun hb h=>?_)
 ·refine zXL [] [] rfl ?_;show Tri ..;refine zAk ?_;obtain⟨hj1,hk1⟩:=pij h;subst hj1 hk1;unfold zAA;exact⟨_,Le.refl _ _,rfl,rfl⟩
 ·refine zAn ?_;show Tri ..;refine zAa ?_;refine zC1 [7] [19,23] [14,15] [] rfl (by decide +kernel) ?_;obtain⟨hq,h⟩:=zAJ h;refine And.intro ⟨hq.1,hq.2.1,Int.le_trans hq.2.2 (Int.ofNat_le.2 (Nat.le_of_eq (rlen (fun _=>rfl) _).symm))⟩ ?_;intro r4 hr4;obtain rfl:(List.map (irow .i64)) ((pos2.take (IntKind.i64.wrap ((pos2.length:Int) - 3)).toNat).drop (0:Int).toNat)=r4:=(hr4.trans (rcut (fun _=>rfl) _ _ _)).symm;obtain⟨e5,he5,h⟩:=zAc h;refine And.intro (zAD (fun _=>rfl) he5).1 ?_;intro r6 hr6;obtain rfl:[.int .i64 e5]=r6:=(hr6.trans (zAD (fun _=>rfl) he5).2.1).symm
  obtain⟨⟨⟨y7A,y7C,y7D,y7B⟩,y8⟩,hy7,h⟩:=zAc h;refine⟨_,⟨_,_,_,_,_,_,hy7,rfl,rfl⟩,?_⟩
  show Tri ..;refine zAs (Le.giveBox 1 [.int .i64 y7A,.str y7C,.int .i64 y7D,.sl 4 (Nd.encs y7B)] rfl rfl) ?_;refine zAa ?_;refine zAO [] [31,35,40] [16] rfl (by decide +kernel) ?_;obtain⟨hq,h⟩:=zAJ h;refine And.intro ⟨hq.1,hq.2.1,Int.le_trans hq.2.2 (Int.ofNat_le.2 (Nat.le_of_eq (rlen (fun _=>rfl) _).symm))⟩ ?_;intro r9 hr9;obtain rfl:(List.map (irow .i64)) ((pos2.take (IntKind.i64.wrap ((pos2.length:Int) - 3)).toNat).drop (0:Int).toNat)=r9:=(hr9.trans (rcut (fun _=>rfl) _ _ _)).symm;obtain⟨e10,he10,h⟩:=zAc h;refine And.intro (zAD (fun _=>rfl) he10).1 ?_;intro r11 hr11
  obtain rfl:[.int .i64 e10]=r11:=(hr11.trans (zAD (fun _=>rfl) he10).2.1).symm;obtain⟨e12,he12,h⟩:=zAc h;refine And.intro (zAD (fun _=>rfl) he12).1 ?_;intro r13 hr13;obtain rfl:[.int .i64 e12]=r13:=(hr13.trans (zAD (fun _=>rfl) he12).2.1).symm;show Tri ..;refine zAk ?_;obtain⟨hj1,hk1⟩:=pij h;subst hj1 hk1;unfold zAA;exact⟨_,Le.refl _ _,rfl,rfl⟩
def zPL (xs:List AV) (r:Ret):Prop:=∃ (a0:(List Int×Int×Int×Nd)) (y0:zO8),zEm a0=some y0/\xs=[.agg ((zAm a0).map .s)]/\r = .val (.agg ((zAl y0).map .s))
def zHC:zAE:=zAF fun xs r=>zPL xs r
theorem zJK:PSound Tryz.prog 79 zHC:=by
 have gok:∀ f s,look? f [(48,zCO),(84,zDW)]=some s->PSound Tryz.prog f s:=zAC (by
  simp only[List.forall_mem_cons]
  exact⟨zCN,zEz,by simp⟩)
 refine zAG tokW Tryz.call79 Tryz.func79 rfl (fun xs r h=>by obtain⟨_,_,_,rfl,_⟩:=h; show 1<=26; decide) 26 rfl ?_;rintro xs r w0 G0 ⟨⟨x1E,x1F,x1Ak,⟨x1Ao,x1Ar,x1Ag,x1Al⟩⟩,y0,h,rfl,rfl⟩ _;rw[zEm]at h;refine zXL [2] [] rfl ?_;show Tri ..;refine zAa ?_;refine zAO [] [12,15,24] [23] rfl (by decide +kernel) ?_;obtain⟨⟨e2A,e2C,e2D,e2B⟩,he2,h⟩:=zAc h;refine And.intro (zAD Nd.encs_eq he2).1 ?_;intro r3 hr3;obtain rfl:[.int .i64 e2A,.str e2C,.int .i64 e2D,.sl 4 (Nd.encs e2B)]=r3:=(hr3.trans (zAD Nd.encs_eq he2).2.1).symm;intro n4 hn4
 obtain rfl:(e2B.length:Int)=n4:=(hn4.trans (congrArg (fun m:Nat=>(m:Int)) (rlen Nd.encs_eq e2B))).symm;obtain⟨⟨y5A,y5C,y5D,y5B⟩,hy5,h⟩:=zAc h;refine⟨_,⟨_,_,hy5,rfl,rfl⟩,?_⟩
 obtain⟨⟨y6A,y6C,y6D,y6B⟩,hy6,h⟩:=zAc h;refine⟨_,⟨_,_,_,_,hy6,rfl,rfl⟩,?_⟩
 intro r7 hr7;obtain rfl:Nd.encs [Nd.mk y6A y6C y6D y6B]=r7:=(hr7.trans (by simp[List.map_append,List.map_take,List.map_drop,irow,brow,zAB,List.map_cons,List.map_nil,zAy,Nd.encs_eq,Nd.enc,zAi,zAh,zAv,zAo,zAj,zAl,zAd,zAg,zAp,zAf,zAe,zAx,zAt,zAm])).symm;show Tri ..;refine zAk ?_;have hy:=Option.some.inj h;subst hy;unfold zAA;exact⟨_,Le.refl _ _,rfl,rfl⟩
def zVl (n:Nat) (xs:List AV) (r:Ret):Prop:=∃ (a0:Nd) (a1:Int) (y0:List Int) (y1:Int),zJE n a0 a1=some (y0,y1)/\xs=[.agg ((Nd.enc a0).map .s),.s (.int .i64 a1)]/\r = .val (.tup [.s (.sl 1 ((List.map (irow .i64)) y0)),.s (.int .i64 y1)])
def zSl:zAE:=zAF fun xs r=>∃ n,zVl n xs r
theorem zUH:PSound Tryz.prog 111 zSl:=by
 have gok:∀ f s,look? f [(139,zLD)]=some s->PSound Tryz.prog f s:=zAC (by
  simp only[List.forall_mem_cons]
  exact⟨zNL,by simp⟩)
 refine zAG tokW Tryz.call111 Tryz.func111 rfl (fun xs r h=>by obtain⟨n,_,_,_,_,_,rfl,_⟩:=h; show 2<=28; decide) 28 rfl ?_;rintro xs r w0 G0 ⟨n,⟨n1A,n1C,n1D,n1B⟩,i2,y0,y1,h,rfl,rfl⟩ _;rw[zJE]at h;refine zXL [] [] rfl ?_;show Tri ..;refine zXL [] [] rfl ?_;obtain⟨⟨y3,y4⟩,hy3,h⟩:=zAc h;refine⟨_,⟨_,_,_,_,hy3,rfl,rfl⟩,?_⟩
 show Tri ..;refine zAa ?_;refine zXL [] [] rfl ?_;show Tri ..;refine zAq rfl h (fun hb h=>?_) (fun hb h=>?_)
 ·refine zXL [] [] rfl ?_;show Tri ..;refine zAk ?_;obtain⟨hj1,hk1⟩:=pij h;subst hj1 hk1;unfold zAA;exact⟨_,Le.refl _ _,rfl,rfl⟩
 ·refine zAn ?_;show Tri ..;refine zAa ?_;refine zAa ?_;obtain⟨x5,hj,h⟩:=zAc h;refine zAz ⟨ofL [(1,.s (.int .i64 i2)),(6,.s (.sl 1 ((List.map zAx) y3))),(23,.s (.bool x5))],fun _=>none,0⟩ ?_ (fun σ' hle=>?_)
  ·replace h:=hj;refine zAb [] [18,21] rfl ?_;intro b hb;cases b with
   | true =>
    replace h:=zAI hb.symm h;cases h;exact(Le.forget _ ⟨rfl,rfl,rfl,trivial⟩)
   | false =>
    replace h:=zAH hb.symm h;intro n6 hn6;obtain rfl:(y3.length:Int)=n6:=(hn6.trans (congrArg (fun m:Nat=>(m:Int)) (rlen (fun _=>rfl) y3))).symm;cases h;exact(Le.forget _ ⟨rfl,rfl,rfl,trivial⟩)
  ·show Tri ..;refine zAs hle ?_;refine zAq rfl h (fun hb h=>?_) (fun hb h=>?_)
   ·refine zXL [] [] rfl ?_;show Tri ..;refine zAk ?_;obtain⟨hj1,hk1⟩:=pij h;subst hj1 hk1;unfold zAA;exact⟨_,Le.refl _ _,rfl,rfl⟩
   ·refine zAn ?_;show Tri ..;refine zXL [] [26] rfl ?_;obtain⟨e7,he7,h⟩:=zAc h;refine And.intro (zAD (fun _=>rfl) he7).1 ?_;intro r8 hr8;obtain rfl:[.sl 1 ((List.map (irow .i64)) e7)]=r8:=(hr8.trans (zAD (fun _=>rfl) he7).2.1).symm;show Tri ..;refine zAk ?_;obtain⟨hj1,hk1⟩:=pij h;subst hj1 hk1;unfold zAA;exact⟨_,Le.refl _ _,rfl,rfl⟩
end Go.Proofs.YtffhjiplcfncdaaGreat
