/-
  Joined out of: LibD, LibF, MNoe, MEd, MEh, MEe, MEi, MMg, MDe, MHi, MHs, MTd, MTc, WzVA, WzVB, LibG, LibH, LibW, AbsY, LibO, LibR, WzE, LibE, WzF.
-/
import Derived.WalkKit
import Derived.Lib.Walk
import Derived.Lib.SliceRun
import Derived.Lib.AppendZerosOnto
import Derived.Shelf.RegionOpenPlain
import Derived.Test.YtbfnjnljboncgaaGreatZc
open List
open Go.IntKind (i16 i32 i64 i8 u16 u32 u64 u8)
open Go.Proofs.Tryz
set_option linter.unusedVariables false
set_option linter.unusedSimpArgs false
set_option maxHeartbeats 2000000
set_option maxRecDepth 100000
namespace Go.Proofs.YtbfnjnljboncgaaGreat
open Go.Abs
def VAt (hp:Nat->Option Ob) (e:Nat) (v:AV) (ks:List Nd) (keys:List Nat):Prop :=
 (ks=[]/\v = .s (.sl 4 [])/\keys=[])∨∃ q rows keys' w,v = .orow q/\hp q=some (.arow e 4 rows)/\rows.length=ks.length/\keys=q::keys'/\LAt hp e q 0 ks keys' [] w
variable {keys:List Nat}{ks:List Nd}{p:AV}{e:Nat}{hp:Nat->Option Ob}
theorem At.full {k c:Int}{t:List UInt8}{w:Nat} (h:At hp e p (.mk k t c ks) keys [] w):∃ v,zAQ hp p=some (zBh k t c v)/\VAt hp e v ks keys:=by
 simp only[At]at h;obtain⟨v,hc,⟨_,_,h,_⟩ | ⟨rfl,rfl,rfl,_,_⟩ | ⟨q,rows,keys',rfl,hq,hlen,rfl,h⟩⟩:=h
 ·cases h
 ·exact⟨_,hc,.inl ⟨rfl,rfl,rfl⟩⟩
 ·exact⟨_,hc,.inr ⟨q,rows,keys',w,rfl,hq,hlen,rfl,h⟩⟩
def zRO (xs:List AV) (hp:Nat->Option Ob) (n:Nat) (Φ:AV->(Nat->Option Ob)->Nat->Prop):Prop :=
 ∃ (k c:Int) (tx:List UInt8) (ks:List Nd),(Nd.mk k tx c ks).cnt<=1000000000/\xs=[.agg (zBh k tx c (.s (.sl 4 (Nd.encs ks))))] /\
  ∀ v hp' n' keys,n<=n'->(∀ k,k<n->hp' k=hp k)->VAt hp' 24 v ks keys->keys.Nodup->(∀ k∈keys,n<=k/\k<n')->Φ (.agg (zBh k tx c v)) hp' n'
def zM4:zAr:=zSU zRO
variable {q:Nat}{σ:St}{T:Nat->Option TI}
theorem zYw {t ty bt:Nat}{i:TI}{cells:List AV} (h1:σ.env t = .op q 0) (h2:σ.hp q=some (.box bt cells)) (h3:T ty=some i) (ha:i.k.agg=true) (hz:i.size=cells.length):zH9 T σ [.cell t ty]=some (AV.deep (.agg cells)):=by
 have hb:Nat.ble i.size cells.length=true :=(by rw[hz]; exact Nat.ble_eq_true_of_le (Nat.le_refl _));simp only[zH9,zIX,zTA,h1,h2,h3,ha,hb]
 rw[hz,take_length]
theorem zYT {ob:Ob}:(zEe σ q ob).hp q=some ob:=by simp only[zEe,Nat.beq_refl,cond_true]
variable {k:Nat}
theorem upd_ne {ob:Ob} (h:k ≠ q):(zEe σ q ob).hp k=σ.hp k:=by simp only[zEe,zEE h,cond_false]
variable {hp':Nat->Option Ob}
theorem VAt.frame {v:AV} (h:VAt hp e v ks keys) (hs:∀ k∈keys,hp' k=hp k):VAt hp' e v ks keys:=by
 rcases h with h | ⟨q,rows,keys',w,h1,h2,h3,rfl,h4⟩
 ·exact .inl h
 ·exact .inr ⟨q,rows,keys',w,h1,(hs q mem_cons_self).trans h2,h3,rfl,h4.sameQ (Sim.same (p0:=.junk) fun k hk=>hs k (List.mem_cons.2 hk)) (fun j _ e=>by cases e) (fun q j _ e=>by cases e)⟩
theorem zDy {own:Bool}{o:Oper}{y:Operand} (hl:isL 4 p) (ho:o.op = .assign y∨o.op = .move y) (hy:opd T σ.env o.type y=p) (hn:(own&&zA7 y)=false):step1 T own o σ=some (none,p,σ):=by
 have e0:p.nrm=p:=by rcases hl with ⟨_,_,rfl⟩ | ⟨_,rfl⟩ <;> rfl
 have e1:zB9 T own o σ.env=some (none,p):=by
  rcases ho with ho | ho <;> simp only[zB9,ho,hn,hy,e0]
 simp only[step1,e1]
theorem zIZ {c:Cx}{x:Code}{Q:Abs.End->St->Prop} (l:List (Nat×AV)) (n':Nat) (h:holds σ.env l) (hn:σ.nx=n') (hk:∀ H,(∀ k,H k=σ.hp k)->Tri c x ⟨ofL l,H,n'⟩ Q):Tri c x σ Q:=by
 subst hn;exact zAh (Le.forget l h) (hk σ.hp fun _=>rfl)
theorem At.pend {w:Nat}{k c:Int}{tx:List UInt8} (h:At hp e p (.mk k tx c ks) [] [p] w):zAQ hp p=some (zBh k tx c (.s (.sl 4 (Nd.encs ks)))):=by
 simp only[At]at h;obtain⟨v,hc,⟨rfl,_⟩ | ⟨_,_,_,h,_⟩ | ⟨q,rows,keys',_,_,_,h,_⟩⟩:=h
 ·exact hc
 ·cases h
 ·cases h
variable {c:List AV}{sz:Nat}
theorem zJd  (hl:isL sz p) (h1:hp' k=hp k) (h2:hp' (zBt p)=hp (zBt p)):putC hp' p c k=putC hp p c k:=by
 rcases hl with ⟨q,i,rfl⟩ | ⟨q,rfl⟩ <;> (simp only[zBt]at h2; simp only[putC,h1,h2])
theorem zWV {c' cs:List AV} (hl:isL sz p) (hc:zAQ hp p=some cs) (h:hp' (zBt p)=putC hp p c' (zBt p)) (hk:k ≠ zBt p->hp' k=hp k):putC hp' p c k=putC hp p c k:=by
 by_cases hb:k=zBt p
 ·subst hb;rcases zC7 hl hc with ⟨q,i,e,rows,rfl,hq,hi⟩ | ⟨q,bt,rfl,hq⟩
  ·simp only[zBt]at h ⊢;rw[zKg hq]at h ⊢;simp only[Nat.beq_refl,cond_true]at h ⊢;rw[zKg h]
   simp only[Nat.beq_refl,cond_true,set_set]
  ·simp only[zBt]at h ⊢;rw[zGF hq]at h ⊢;simp only[Nat.beq_refl,cond_true]at h ⊢;rw[zGF h]
   simp only[Nat.beq_refl,cond_true]
 ·rw[zB2 hb,zB2 hb,hk hb]
theorem zXR {j:Nat}:locs q 0 (j+1)=locs q 0 j++[.rp q 4 j 0]:=by
 simp[locs,range'_concat]
theorem zZq {α:Type}{S:List α}{p:α}:((S++[p]).map fun p=>[p]).getD S.length []=[p]:=by
 simp[getD_eq_getElem?_getD]
structure DInv (hp:Nat->Option Ob) (n e pe:Nat) (t:Nd) (H:Nat->Option Ob) (ls nx:Nat) (S:List AV) (keys:List Nat) (w:Nat):Prop where
 low:∀ k,k<n->H k=hp k
 res:∃ a b c d,H (n+1)=some (.box e [a,b,c,d])
 stk:H ls=some (.arow pe 1 (S.map fun p=>[p]))
 tree:At H e (.op n 0) t keys S w
 nd:(n::keys).Nodup
 kb:∀ k∈keys,n+1<k/\k<nx/\k ≠ ls
 l1:n+1<ls
 l2:ls<nx
set_option maxHeartbeats 4000000 in
theorem zHQ:PSound prog 28 zM4:=by
 have gok:=@gok0 prog;refine zNO tokW call28 func28 rfl (fun xs hp n Φ h=>by obtain⟨_,_,_,_,_,rfl,_⟩:=h; show 1<=_; decide) _ rfl ?_;rintro xs hp n Φ w0 G0 B0 ⟨k0,c,tx,ks,hcnt,rfl,hΦ⟩ _ hhp;refine yBn [1,2] [] rfl ?_;refine yBn [7] [] rfl ?_;show Tri ..
 refine zAh (Le.forgetH [(1,.op n 0),(2,.op (n+1) 0),(3,.orow (n+2))] (fun k=>bif Nat.beq k (n+2) then some (.arow 120 1 [[.op n 0]]) else bif Nat.beq k (n+1) then some (.box 24 [nI 0,.s (.str []),nI 0,.nl 4]) else bif Nat.beq k n then some (.box 24 (zBh k0 tx c (.s (.sl 4 (Nd.encs ks))))) else hp k) (n+3) ⟨rfl,rfl,rfl,trivial⟩ (fun k=>rfl) rfl) ?_
 have hI:DInv hp n 24 120 (.mk k0 tx c ks) (fun k=>bif Nat.beq k (n+2) then some (.arow 120 1 [[.op n 0]]) else bif Nat.beq k (n+1) then some (.box 24 [nI 0,.s (.str []),nI 0,.nl 4]) else bif Nat.beq k n then some (.box 24 (zBh k0 tx c (.s (.sl 4 (Nd.encs ks))))) else hp k) (n+2) (n+3) [.op n 0] [] (Nd.mk k0 tx c ks).cnt:={
  low:=fun k hk=>by
   have h1:k ≠ n+2 :=(by omega);have h2:k ≠ n+1 :=(by omega);have h3:k ≠ n :=(by omega);simp only[zEE h1,zEE h2,zEE h3,cond_false]
  res:=⟨.s (.int .i64 0),.s (.str []),nI 0,.nl 4,by
   have h1:n+1 ≠ n+2 :=(by omega);simp only[zEE h1,Nat.beq_refl,cond_false,cond_true]⟩
  stk:=by simp only[Nat.beq_refl,cond_true]; rfl
  tree:=by
   have h1:n ≠ n+2 :=(by omega);have h2:n ≠ n+1 :=(by omega);simp only[At]
   exact⟨.s (.sl 4 (Nd.encs ks)),zEF (bt:=24) (by simp only[zEE h1,zEE h2,Nat.beq_refl,cond_false,cond_true]),.inl (by simp[Nd.cnt])⟩
  nd:=by simp
  kb:=fun k hk=>by cases hk
  l1:=by omega
  l2:=by omega }
 generalize hH:(fun k=>bif Nat.beq k (n+2) then some (Ob.arow 120 1 [[AV.op n 0]]) else bif Nat.beq k (n+1) then some (Ob.box 24 [AV.s (.int .i64 0),AV.s (.str []),AV.s (.int .i64 0),AV.nl 4]) else bif Nat.beq k n then some (Ob.box 24 (zBh k0 tx c (.s (.sl 4 (Nd.encs ks))))) else hp k)=H0 at hI ⊢
 clear hH
 refine zAa<|zAk (zAA (X:=(Nat->Option Ob)×Nat×Nat×List AV×List Nat×Nat) (fun y=>match y with | (H,ls,nx,S,keys,w)=>⟨ofL [(1,.op n 0),(2,.op (n+1) 0),(3,.orow ls)],H,nx⟩)
  (fun y=>match y with | (H,ls,nx,S,keys,w)=>DInv hp n 24 120 (.mk k0 tx c ks) H ls nx S keys w) (fun y=>match y with | (H,ls,nx,S,keys,w)=>w) (H0,n+2,n+3,[.op n 0],[],(Nd.mk k0 tx c ks).cnt) hI (Le.refl _ _) ?_)
 rintro⟨H,ls,nx,S,keys,w⟩ hI;have hI:DInv hp n 24 120 (.mk k0 tx c ks) H ls nx S keys w:=hI;refine zAa<|yCp ?_;refine evS ?_;refine evS (hs:=(zOs rfl rfl rfl rfl rfl hI.stk)) ?_;refine evS ?_;refine zAI rfl (fun hb=>?_) (fun hb=>?_)
 rotate_left
 ·refine zAD ?_;refine zAh (Le.forget [(1,.op n 0),(2,.op (n+1) 0),(3,.orow ls)] ⟨rfl,rfl,rfl,trivial⟩) ?_;have hS:S=[]:=by
   cases S with
   | nil=>rfl
   | cons x S =>
    have:=of_decide_eq_false hb;simp only[length_map,length_cons]at this
    omega
  subst hS;obtain⟨v,hc,hv⟩:=hI.tree.full;rcases zC7 (sz:=4) (.inr ⟨n,rfl⟩) hc with ⟨q,i,e,rows,h1,_⟩ | ⟨q,bt,h1,hq⟩
  ·cases h1
  cases h1;obtain⟨ra,rb,rc,rd,hr1⟩:=hI.res;refine yCp ?_;refine evS (hs:=(zYE rfl rfl rfl rfl hq rfl)) ?_;have hvl:v.one=true/\v.lt nx=true:=by
   rcases hv with ⟨_,rfl,_⟩ | ⟨q,_,_,_,rfl,_,_,hk,_⟩
   ·exact qH
   ·exact⟨rfl,decide_eq_true (hI.kb q (by rw[hk]; exact mem_cons_self)).2.1⟩
  refine zGr rfl rfl rfl (zOt rfl rfl rfl hr1 rfl rfl (by show([AV.s _,AV.s _,AV.s _,v]:List AV).all AV.one=true; simp only[all_cons,all_nil,hvl.1]; rfl) (by show AV.ltAll nx [AV.s _,AV.s _,AV.s _,v]=true; simp only[AV.ltAll,hvl.2]; rfl)) trivial ?_;refine zAd ?_;have hln:n<nx:=Nat.lt_trans (Nat.lt_trans (Nat.lt_succ_self n) hI.l1) hI.l2;have hdeep:AV.deep (.agg (zBh k0 tx c v)) = .agg (zBh k0 tx c v):=by
   rcases hv with ⟨_,rfl,_⟩ | ⟨q,_,_,_,rfl,_⟩ <;> rfl
  unfold zJv;refine⟨_,Le.refl _ _,.agg (zBh k0 tx c v),?_,hΦ v _ _ keys (Nat.le_of_lt hln) (fun k hk=>?_) ?_ (List.nodup_cons.1 hI.nd).2 fun k hk=>⟨Nat.le_of_lt (Nat.lt_trans (Nat.lt_succ_self n) (hI.kb k hk).1),(hI.kb k hk).2.1⟩⟩
  ·exact(zYw (cells:=zBh k0 tx c v) rfl zYT rfl rfl rfl).trans (congrArg some hdeep)
  ·exact(upd_ne (by omega)).trans (hI.low k hk)
  ·exact hv.frame fun k hk=>upd_ne (by have:=(hI.kb k hk).1; omega)
 refine zAe ?_;show Tri ..;obtain⟨S',p,rfl⟩:∃ S' p,S=S'++[p]:=by
  rcases eq_nil_or_concat S with rfl | ⟨S',p,rfl⟩
  ·cases hb
  ·exact⟨S',p,concat_eq_append⟩
 have hl0:isL 4 p:=hI.tree.loc (.inr ⟨n,rfl⟩) (by simp)
 obtain⟨⟨k1,tx1,c1,ks1⟩,w1,hp0,hw,hrep⟩:=hI.tree.repl (.inr ⟨n,rfl⟩) hI.nd;have hcell:=hp0.pend;have hwl:=hI.tree.len;have hSl:S'.length<1000000000:=by
  have:=hwl.1;have:=hwl.2;simp only[length_append,length_singleton]at *
  omega
 have hz:i64.wrap (((((S'++[p]).map fun p=>[p]).length:Nat):Int) - 1)=(S'.length:Int):=by
  rw[wrap64_in (by simp only[length_map,length_append,length_singleton]; omega) (by simp only[length_map,length_append,length_singleton]; omega)]
  simp only[length_map,length_append,length_singleton]; omega
 have hlt1:S'.length<((S'++[p]).map fun p=>[p]).length :=(by simp);refine zAh (Le.forget [(1,.op n 0),(2,.op (n+1) 0),(3,.orow ls)] ⟨rfl,rfl,rfl,trivial⟩)<|zAk<|yCp ?_;refine evS ?_;refine evS ?_;refine evS (hs:=(zOs rfl rfl rfl rfl rfl hI.stk)) ?_;refine evS ?_;rw[hz]
 refine zAg rfl rfl rfl rfl rfl (zRC rfl rfl rfl rfl rfl rfl hI.stk rfl) ⟨Int.natCast_nonneg _,Int.ofNat_lt.2 hlt1⟩ ?_;refine zSM (c:=p) rfl rfl rfl rfl rfl rfl hI.stk hlt1 (by rw[Int.toNat_natCast,zZq]; rfl) ?_;refine evS (hs:=(zDy hl0 (.inl rfl) rfl rfl)) ?_;refine zAh (Le.forget [(1,.op n 0),(2,.op (n+1) 0),(3,.orow ls),(4,p)] ⟨rfl,rfl,rfl,rfl,trivial⟩)<|yBn [21] [] rfl ?_;refine evS ?_;refine evS ?_;refine evS (hs:=(zOs rfl rfl rfl rfl rfl hI.stk)) ?_
 refine evS ?_;rw[hz]
 refine zAg rfl rfl rfl rfl rfl (zYF rfl rfl rfl rfl rfl rfl hI.stk rfl) ⟨Int.natCast_nonneg _,Int.ofNat_le.2 (Nat.le_of_lt hlt1)⟩ ?_;refine evS ?_;show Tri ..;refine zIZ [(1,.op n 0),(2,.op (n+1) 0),(3,.orow nx),(4,p)] (nx+1) ⟨rfl,rfl,rfl,rfl,trivial⟩ rfl fun H1 hH1=>?_
 have g1:H1 nx=some (.arow 120 1 (S'.map fun p=>[p])):=(hH1 nx).trans (by
  show(bif Nat.beq nx nx then some (Ob.arow 120 1 (((S'++[p]).map fun p=>[p]).take ((S'.length:Int)).toNat)) else _)=_;rw[Nat.beq_refl,cond_true,Int.toNat_natCast]
  simp)
 have g2:∀ k,k ≠ nx->k ≠ ls->H1 k=H k:=fun k h1 h2=>(hH1 k).trans (by
  show(bif Nat.beq k nx then _ else bif Nat.beq k ls then none else H k)=_;rw[zEE h1,zEE h2]; rfl)
 clear hH1
 have hbase:zBt p=n∨zBt p∈keys:=by
  rcases hI.tree.base (p0:=p) (by simp) with h | h
  ·exact .inl (by rw[h]; rfl)
  ·exact .inr h
 have hln:n<nx:=Nat.lt_trans (Nat.lt_trans (Nat.lt_succ_self n) hI.l1) hI.l2;have hbl:zBt p ≠ nx/\zBt p ≠ ls/\zBt p ≠ n+1/\zBt p<nx:=by
  have h1:=hI.l1;have h2:=hI.l2;rcases hbase with h | h
  ·rw[h]; omega
  ·have:=hI.kb _ h; omega
 have fin:∀ (cs:List AV) (Hj:Nat->Option Ob) (lsj nxj:Nat) (new:List Nat) (ch:List AV) (w':Nat),(∀ k,k ≠ ls->k<nx->Hj k=putC H p cs k)->Hj lsj=some (.arow 120 1 ((S'++ch).map fun p=>[p]))->At Hj 24 p (.mk k1 tx1 c1 ks1) new ch w' ->
   new.Nodup->(∀ k∈new,nx<=k/\k<nxj/\k ≠ lsj)->nx<=lsj->lsj<nxj->w'<(Nd.mk k1 tx1 c1 ks1).cnt->∃ keys2,DInv hp n 24 120 (.mk k0 tx c ks) Hj lsj nxj (S'++ch) keys2 (w1+w')/\w1+w'<w:=by
  intro cs Hj lsj nxj new ch w' f1 f2 f3 f4 f5 f6 f7 f8;have l1:=hI.l1;have l2:=hI.l2;have hD:∀ k,k=n∨k∈keys->k ≠ ls/\k<nx:=fun k hk=>by
   rcases hk with rfl | hk
   ·omega
   ·have:=hI.kb k hk; omega
  obtain⟨keys2,hperm,hat⟩:=hrep Hj new ch w' (Sim.put hl0 hcell fun k hk=>f1 k (hD k hk).1 (hD k hk).2) f3;have hmem:∀ k,k∈keys2->k∈keys∨k∈new:=fun k hk=>List.mem_append.1 (hperm.mem_iff.1 hk)
  have hkn:=List.nodup_cons.1 hI.nd;refine⟨keys2,{
   low:=fun k hk=>(f1 k (by omega) (by omega)).trans ((zB2 (by
    rcases hbase with h | h
    ·omega
    ·have:=hI.kb _ h; omega)).trans (hI.low k hk))
   res:=by
    obtain⟨a,b,c,d,hr⟩:=hI.res;exact⟨a,b,c,d,(f1 (n+1) (by omega) (by omega)).trans ((zB2 (Ne.symm hbl.2.2.1)).trans hr)⟩
   stk:=f2
   tree:=hat
   nd:=List.nodup_cons.2 ⟨fun hm=>by
    rcases hmem n hm with h | h
    ·exact hkn.1 h
    ·have:=f5 n h; omega,hperm.nodup_iff.2 (List.nodup_append.2 ⟨hkn.2,f4,fun a ha b hb e=>by
     have:=hI.kb a ha;have:=f5 b hb
     omega⟩)⟩
   kb:=fun k hk=>by
    rcases hmem k hk with h | h
    ·have:=hI.kb k h; omega
    ·have:=f5 k h; omega
   l1:=by omega
   l2:=f7 },by omega⟩
 have hc1:zAQ H1 p=some (zBh k1 tx1 c1 (.s (.sl 4 (Nd.encs ks1)))):=(zCz hl0 (g2 _ hbl.1 hbl.2.1)).trans hcell;refine yCp ?_;refine evS (hs:=(zDy hl0 (.inr rfl) rfl rfl)) ?_;refine evS (hs:=(zFm hl0 rfl rfl)) ?_;refine evS (hs:=(zFR hl0 rfl rfl rfl rfl rfl rfl rfl)) ?_;refine zEl (off:=3) (sz:=4) rfl rfl rfl rfl rfl rfl rfl hl0 rfl hc1 rfl ?_;refine evS ?_;show Tri ..
 refine zAh (Le.forget [(1,.op n 0),(2,.op (n+1) 0),(3,.orow nx),(4,p),(5,.s (.sl 4 (Nd.encs ks1)))] ⟨rfl,rfl,rfl,rfl,rfl,trivial⟩)<|yCp ?_;refine evS (hs:=(zDy hl0 (.inr rfl) rfl rfl)) ?_;refine evS (hs:=(zFm hl0 rfl rfl)) ?_;refine evS (hs:=(zFR hl0 rfl rfl rfl rfl rfl rfl rfl)) ?_;refine zSN (off:=3) (sz:=4) (c:=.s (.sl 4 [])) rfl rfl rfl rfl rfl hl0 rfl hc1 rfl (by decide) rfl rfl rfl ?_;show Tri ..
 refine zIZ [(1,.op n 0),(2,.op (n+1) 0),(3,.orow nx),(4,p),(5,.s (.sl 4 (Nd.encs ks1)))] (nx+1) ⟨rfl,rfl,rfl,rfl,rfl,trivial⟩ rfl fun H2 hH2=>?_
 have hH2:∀ k,H2 k=putC H1 p (zBh k1 tx1 c1 (.s (.sl 4 []))) k:=hH2
 have hc2:zAQ H2 p=some (zBh k1 tx1 c1 (.s (.sl 4 []))):=(zCz hl0 (hH2 _)).trans (zJ4 hl0 hc1)
 refine zAa<|yCp ?_;refine evS ?_;refine evS ?_;refine evS ?_;refine zAI rfl (fun hb=>?_) (fun hb=>?_)
 rotate_left
 ·obtain rfl:ks1=[]:=by
   cases ks1 with
   | nil=>rfl
   | cons x l =>
    have:=of_decide_eq_false hb;simp only[Nd.encs,length_cons]at this
    omega
  refine zAe ?_;refine zAh (Le.forget [(1,.op n 0),(2,.op (n+1) 0),(3,.orow nx),(4,p),(5,.s (.sl 4 []))] ⟨rfl,rfl,rfl,rfl,rfl,trivial⟩)<|yCp ?_;refine evS (hs:=(zDy hl0 (.inr rfl) rfl rfl)) ?_;refine evS (hs:=(zFm hl0 rfl rfl)) ?_;refine evS (hs:=(zFR hl0 rfl rfl rfl rfl rfl rfl rfl)) ?_;refine zEl (off:=3) (sz:=4) rfl rfl rfl rfl rfl rfl rfl hl0 rfl hc2 rfl ?_;refine evS ?_;refine evS ?_;show Tri ..
  refine zAh (Le.forget [(1,.op n 0),(2,.op (n+1) 0),(3,.orow nx),(4,p),(5,.s (.sl 4 []))] ⟨rfl,rfl,rfl,rfl,rfl,trivial⟩)<|yCp ?_;refine evS (hs:=(zDy hl0 (.inr rfl) rfl rfl)) ?_;refine evS (hs:=(zFm hl0 rfl rfl)) ?_;refine evS (hs:=(zFR hl0 rfl rfl rfl rfl rfl rfl rfl)) ?_;refine zEl (off:=3) (sz:=4) rfl rfl rfl rfl rfl rfl rfl hl0 rfl hc2 rfl ?_;refine evS ?_;refine evS ?_;show Tri ..
  refine zAk (zAA (X:=Unit) (fun _=>⟨ofL [(1,.op n 0),(2,.op (n+1) 0),(3,.orow nx),(48,nI 0),(49,nI 0)],H2,nx+1⟩) (fun _=>True) (fun _=>0) () trivial (Le.forget [(1,.op n 0),(2,.op (n+1) 0),(3,.orow nx),(48,nI 0),(49,nI 0)] ⟨rfl,rfl,rfl,rfl,rfl,trivial⟩) ?_)
  rintro⟨⟩ _;refine yCp ?_;refine evS ?_;refine zAa<|zAI rfl (fun hb=>by cases hb) (fun hb=>?_)
  refine zAD ?_;obtain⟨keys2,hz1,hz2⟩:=fin (zBh k1 tx1 c1 (.s (.sl 4 []))) H2 nx (nx+1) [] [] 0
   (fun k h1 h2=>(hH2 k).trans (zJd hl0 (g2 k (by omega) h1) (g2 _ hbl.1 hbl.2.1)))
   (by rw[append_nil]; exact(hH2 nx).trans ((zB2 (Ne.symm hbl.1)).trans g1))
   (by simp only[At]; exact⟨.s (.sl 4 []),hc2,.inr (.inl (by simp))⟩) (by simp) (fun k hk=>by cases hk) (Nat.le_refl _) (Nat.lt_succ_self _) (by simp[Nd.cnt])
  exact⟨(H2,nx,nx+1,S'++[],keys2,w1+0),hz1,Le.forget [(1,.op n 0),(2,.op (n+1) 0),(3,.orow nx)] ⟨rfl,rfl,rfl,trivial⟩,hz2⟩
 ·have hm:0<ks1.length:=by
   have:=of_decide_eq_true hb;rw[Nd.encs_eq,length_map]at this
   omega
  have hkl:ks1.length<1000000000:=by
   have h1:=Nd.cnts_len ks1;have h2:=hwl.2;simp only[Nd.cnt]at hw hcnt h2
   omega
  have hel:(Nd.encs ks1).length=ks1.length :=(by rw[Nd.encs_eq,length_map]);refine zAh (Le.forget [(1,.op n 0),(2,.op (n+1) 0),(3,.orow nx),(4,p),(5,.s (.sl 4 (Nd.encs ks1)))] ⟨rfl,rfl,rfl,rfl,rfl,trivial⟩)<|zAb [35] [] rfl ?_;refine evS (hs:=(zDy hl0 (.inr rfl) rfl rfl)) ?_;refine evS ?_;refine evS ?_
  refine zAg rfl rfl rfl rfl rfl (yCn rfl rfl rfl rfl rfl rfl rfl rfl rfl) (show 0<=_/\_ from⟨Int.natCast_nonneg _,Int.le_refl _,show(((Nd.encs ks1).length:Nat):Int) * ((56:Nat):Int)<=281474976710656 by omega,show(((Nd.encs ks1).length:Nat):Int)<=281474976710656 by omega⟩) ?_;refine evS (hs:=(zFm hl0 rfl rfl)) ?_;refine evS (hs:=(zFR hl0 rfl rfl rfl rfl rfl rfl rfl)) ?_;have hbn:zBt p ≠ nx+1:=by have:=hbl.2.2.2; omega
  refine zSN (off:=3) (sz:=4) (c:=.orow (nx+1)) rfl rfl rfl rfl rfl hl0 rfl ((zCz hl0 (by show(bif Nat.beq (zBt p) (nx+1) then _ else H2 (zBt p))=_; rw[zEE hbn]; rfl)).trans hc2) rfl (by decide) rfl rfl (decide_eq_true (Nat.lt_succ_self _)) ?_;show Tri ..;refine zIZ [(1,.op n 0),(2,.op (n+1) 0),(3,.orow nx),(4,p),(5,.s (.sl 4 (Nd.encs ks1)))] (nx+2) ⟨rfl,rfl,rfl,rfl,rfl,trivial⟩ rfl fun H3 hH3=>?_
  have hH3:∀ k,H3 k=putC (fun k=>bif Nat.beq k (nx+1) then some (.row 24 4 (List.replicate (((Nd.encs ks1).length:Int)).toNat [.int .i64 0,.str [],.int .i64 0,.sl 4 []])) else H2 k) p (zBh k1 tx1 c1 (.orow (nx+1))) k:=hH3
  have a1:H3 (nx+1)=some (.row 24 4 (List.replicate (((Nd.encs ks1).length:Int)).toNat [.int .i64 0,.str [],.int .i64 0,.sl 4 []])):=(hH3 _).trans ((zB2 (Ne.symm hbn)).trans (by simp only[Nat.beq_refl,cond_true]))
  have a2:∀ k,k ≠ nx+1->H3 k=putC H2 p (zBh k1 tx1 c1 (.orow (nx+1))) k:=fun k hk=>(hH3 k).trans (zJd hl0 (by simp only[zEE hk,cond_false]) (by simp only[zEE hbn,cond_false]))
  have hc3:zAQ H3 p=some (zBh k1 tx1 c1 (.orow (nx+1))):=(zCz hl0 (a2 _ hbn)).trans (zJ4 hl0 hc2)
  refine zAh (Le.toA (nx+1) a1)<|yCp ?_;refine evS (hs:=(zDy hl0 (.inr rfl) rfl rfl)) ?_;refine evS (hs:=(zFm hl0 rfl rfl)) ?_;refine evS (hs:=(zFR hl0 rfl rfl rfl rfl rfl rfl rfl)) ?_;refine zEl (off:=3) (sz:=4) rfl rfl rfl rfl rfl rfl rfl hl0 rfl ((zCz hl0 (upd_ne hbn)).trans hc3) rfl ?_;refine evS ?_;refine zAg rfl rfl rfl rfl rfl (zZW rfl rfl rfl rfl rfl rfl rfl rfl rfl zYT rfl rfl) (show(List.map _ _).length=List.length _ by simp) ?_;show Tri ..
  refine zIZ [(1,.op n 0),(2,.op (n+1) 0),(3,.orow nx),(4,p),(5,.s (.sl 4 (Nd.encs ks1)))] (nx+2) ⟨rfl,rfl,rfl,rfl,rfl,trivial⟩ rfl fun H4 hH4=>?_
  have r1:H4 (nx+1)=some (.arow 24 4 ((Nd.encs ks1).map (·.map AV.s))):=(hH4 _).trans zYT;have r2:∀ k,k ≠ nx+1->H4 k=H3 k:=fun k hk=>(hH4 k).trans ((upd_ne hk).trans (upd_ne hk))
  clear hH4
  have hc4:zAQ H4 p=some (zBh k1 tx1 c1 (.orow (nx+1))):=(zCz hl0 (r2 _ hbn)).trans hc3;refine yCp ?_;refine evS (hs:=(zDy hl0 (.inr rfl) rfl rfl)) ?_;refine evS (hs:=(zFm hl0 rfl rfl)) ?_;refine evS (hs:=(zFR hl0 rfl rfl rfl rfl rfl rfl rfl)) ?_;refine zEl (off:=3) (sz:=4) rfl rfl rfl rfl rfl rfl rfl hl0 rfl hc4 rfl ?_;refine evS (hs:=(zOs rfl rfl rfl rfl rfl r1)) ?_;refine evS ?_;show Tri ..
  have hlen4:((Nd.encs ks1).map (·.map AV.s)).length=ks1.length :=(by rw[length_map,hel]);refine zAk (zAA (X:=(Nat->Option Ob)×Nat×Nat×Nat) (fun y=>match y with | (Hj,lsj,nxj,j)=>⟨ofL [(1,.op n 0),(2,.op (n+1) 0),(3,.orow lsj),(4,p),(48,nI (ks1.length:Int)),(49,nI (j:Int))],Hj,nxj⟩)
   (fun y=>match y with | (Hj,lsj,nxj,j)=>j<=ks1.length/\(∀ k,k ≠ nx->k<nx+2->Hj k=H4 k)/\Hj lsj=some (.arow 120 1 ((S'++locs (nx+1) 0 j).map fun p=>[p]))/\(lsj=nx∨nx+2<=lsj)/\lsj<nxj/\nx+2<=nxj) (fun y=>match y with | (Hj,lsj,nxj,j)=>ks1.length - j) (H4,nx,nx+2,0)
   ⟨Nat.zero_le _,fun k _ _=>rfl,by
    refine(r2 nx (by omega)).trans ((a2 nx (by omega)).trans ((zB2 (Ne.symm hbl.1)).trans ((hH2 nx).trans ((zB2 (Ne.symm hbl.1)).trans (g1.trans ?_)))))
    simp[locs],.inl rfl,by omega,Nat.le_refl _⟩
   (Le.forget [(1,.op n 0),(2,.op (n+1) 0),(3,.orow nx),(4,p),(48,nI (ks1.length:Int)),(49,.s (.int .i64 ((0:Nat):Int)))] ⟨rfl,rfl,rfl,rfl,congrArg (fun m:Nat=>AV.s (.int .i64 (m:Int))) hlen4,rfl,trivial⟩) ?_)
  rintro⟨Hj,lsj,nxj,j⟩ ⟨i1,i2,i3,i4,i5,i6⟩
  have hbj:zBt p ≠ nx/\zBt p<nx+2:=⟨hbl.1,by have:=hbl.2.2.2; omega⟩
  have hcj:zAQ Hj p=some (zBh k1 tx1 c1 (.orow (nx+1))):=(zCz hl0 (i2 _ hbj.1 hbj.2)).trans hc4;have hrj:Hj (nx+1)=some (.arow 24 4 ((Nd.encs ks1).map (·.map AV.s))):=(i2 (nx+1) (by omega) (by omega)).trans r1;refine yCp ?_;refine evS ?_;refine zAa<|zAI rfl (fun hb=>?_) (fun hb=>?_)
  ·refine zAe ?_;show Tri ..;have hj:j<ks1.length:=Int.ofNat_lt.1 (of_decide_eq_true hb)
   have hsl:((S'++locs (nx+1) 0 j).map fun p=>[p]).length=S'.length+j :=(by simp[locs]);refine zAh (Le.forget [(1,.op n 0),(2,.op (n+1) 0),(3,.orow lsj),(4,p),(48,nI (ks1.length:Int)),(49,nI (j:Int))] ⟨rfl,rfl,rfl,rfl,rfl,rfl,trivial⟩)<|zAa<|zAk<|yCp ?_;refine evS ?_;refine evS ?_;refine zAb [59,60] [] rfl ?_;refine evS ?_;refine evS (hs:=(zDy hl0 (.inr rfl) rfl rfl)) ?_
   refine evS (hs:=(zFm hl0 rfl rfl)) ?_;refine evS (hs:=(zFR hl0 rfl rfl rfl rfl rfl rfl rfl)) ?_;refine zEl (off:=3) (sz:=4) rfl rfl rfl rfl rfl rfl rfl hl0 rfl hcj rfl ?_;refine evS ?_;refine zAg rfl rfl rfl rfl rfl (zRC rfl rfl rfl rfl rfl rfl hrj rfl) ⟨Int.natCast_nonneg _,Int.ofNat_lt.2 (by rw[hlen4]; exact hj)⟩ ?_;rw[Int.toNat_natCast]
   refine evS ?_;refine zAg rfl rfl rfl rfl rfl (yBg (rows:=(S'++locs (nx+1) 0 j).map fun p=>[p]) (rows2:=[[.rp (nx+1) 4 j 0]]) rfl rfl rfl rfl rfl rfl rfl rfl rfl (by show(bif Nat.beq lsj nxj then _ else Hj lsj)=_; rw[zEE (by omega)]; exact i3) (by show(bif Nat.beq nxj nxj then _ else Hj nxj)=_; rw[Nat.beq_refl]; rfl) rfl rfl rfl) (show(((S'++locs (nx+1) 0 j).map fun p=>[p]).length+1) * 8<=140737488355328/\((S'++locs (nx+1) 0 j).map fun p=>[p]).length+1<=9223372036854775807 by rw[hsl]; omega) ?_;refine evS ?_;show Tri ..
   refine zIZ [(1,.op n 0),(2,.op (n+1) 0),(3,.orow (nxj+1)),(4,p),(48,nI (ks1.length:Int)),(49,nI (j:Int))] (nxj+2) ⟨rfl,rfl,rfl,rfl,rfl,rfl,trivial⟩ rfl fun H5 hH5=>?_
   have e1:H5 (nxj+1)=some (.arow 120 1 ((S'++locs (nx+1) 0 (j+1)).map fun p=>[p])):=(hH5 _).trans (by
    show(bif Nat.beq (nxj+1) (nxj+1) then some (Ob.arow 120 1 (((S'++locs (nx+1) 0 j).map fun p=>[p])++[[.rp (nx+1) 4 j 0]])) else _)=_;rw[Nat.beq_refl,cond_true,zXR]
    simp)
   have e2:∀ k,k ≠ nxj+1->k ≠ lsj->k ≠ nxj->H5 k=Hj k:=fun k h1 h2 h3=>(hH5 k).trans (by
    show(bif Nat.beq k (nxj+1) then _ else bif Nat.beq k lsj then none else bif Nat.beq k nxj then _ else Hj k)=_;rw[zEE h1,zEE h2,zEE h3]; rfl)
   clear hH5
   refine yCo ?_;refine evS ?_;refine evS ?_;exact⟨(H5,nxj+1,nxj+2,j+1),⟨hj,fun k h1 h2=>(e2 k (by omega) (by omega) (by omega)).trans (i2 k h1 h2),e1,.inr (by omega),by omega,by omega⟩,
    Le.forget [(1,.op n 0),(2,.op (n+1) 0),(3,.orow (nxj+1)),(4,p),(48,nI (ks1.length:Int)),(49,.s (.int .i64 ((j+1:Nat):Int)))] ⟨rfl,rfl,rfl,rfl,rfl,congrArg (fun z=>AV.s (.int .i64 z)) (zAL (by omega)),trivial⟩,by show ks1.length - (j+1)<ks1.length - j; omega⟩
  ·refine zAD ?_;have hj:j=ks1.length:=by
    have:=of_decide_eq_false hb
    omega
   subst hj;obtain⟨keys2,hz1,hz2⟩:=fin (zBh k1 tx1 c1 (.orow (nx+1))) Hj lsj nxj [nx+1] (locs (nx+1) 0 ks1.length) (Nd.cnts ks1)
    (fun k h1 h2=>(i2 k (by omega) (by omega)).trans ((r2 k (by omega)).trans ((a2 k (by omega)).trans (zWV hl0 hcell ((hH2 _).trans (zJd hl0 (g2 _ hbl.1 hbl.2.1) (g2 _ hbl.1 hbl.2.1))) fun hk=>(hH2 k).trans ((zB2 hk).trans (g2 k (by omega) h1))))))
    i3 (by simp only[At]; exact⟨.orow (nx+1),hcj,.inr (.inr ⟨nx+1,_,[],rfl,hrj,hlen4,rfl,LAt.copied hrj⟩)⟩) (by simp) (fun k hk=>by
     have:=List.mem_singleton.1 hk
     omega) (by omega) i5 (by simp[Nd.cnt])
   exact⟨(Hj,lsj,nxj,S'++locs (nx+1) 0 ks1.length,keys2,w1+Nd.cnts ks1),hz1,Le.forget [(1,.op n 0),(2,.op (n+1) 0),(3,.orow lsj)] ⟨rfl,rfl,rfl,trivial⟩,hz2⟩
def zTV (xs:List AV) (r:Ret):Prop:=∃ (a0:Nd) (y0:Nd),zA0 a0=some y0/\xs=[.agg ((Nd.enc a0).map .s)]/\r = .val (.agg ((Nd.enc y0).map .s))
def zEs:zAr:=zAu fun xs r=>zTV xs r
theorem zEP:PSound prog 28 zEs :=
 PSound.giveAll zHQ fun xs r h=>by
  obtain⟨⟨k,t,c,ks⟩,y,hm,rfl,rfl⟩:=h;obtain⟨hq,hm⟩:=zAx hm;obtain rfl:=Option.some.inj hm;refine⟨_,rfl,rfl,k,c,t,ks,hq,rfl,fun v hp' n' keys _ _ hv _ _=>?_⟩
  refine zZI (t:=.mk k t c ks) (RdC.node ?_)
  rcases hv with ⟨rfl,rfl,_⟩ | ⟨q,rows,keys',w,rfl,hq,hlen,rfl,h⟩
  ·exact .s _
  ·exact Rd.rows hq hlen fun j x hj=>(by have:=LAt.rd h j x hj; rwa [Nat.zero_add]at this)
variable {p:List Int}{i s:Int}{n:Nd}
theorem zHO  (h:¬ (0<=i/\i<n.kids.length)):zBE n (i::s::p)=none:=by rw[zBE,if_neg h]
variable {x:Nd}
theorem zHP  (h0:0<=i) (hx:n.kids[i.toNat]? = some x) (h:¬ (0<=s/\s<x.kids.length)):zBE n (i::s::p)=none:=by
 have hl:=(List.getElem?_eq_some_iff.1 hx).1;rw[zBE,if_pos ⟨h0,by omega⟩]
 simp only[getD_eq_getElem?_getD,hx,Option.getD_some]
 rw[if_neg h]
theorem zPA {z:Nd} (h0:0<=i) (hx:n.kids[i.toNat]? = some x) (h1:0<=s) (hz:x.kids[s.toNat]? = some z):zBE n (i::s::p)=zBE z p:=by
 have hl:=(List.getElem?_eq_some_iff.1 hx).1;have hl2:=(List.getElem?_eq_some_iff.1 hz).1;rw[zBE,if_pos ⟨h0,by omega⟩]
 simp only[getD_eq_getElem?_getD,hx,hz,Option.getD_some]
 rw[if_pos ⟨h1,by omega⟩]
theorem zXG {l:List Nd}{i:Nat} (h:l[i]? = some x):(Nd.encs l).getD i []=Nd.enc x:=by
 simp[Nd.encs_eq,getD_eq_getElem?_getD,h]
theorem zI4 (l:List Nd):(Nd.encs l).length=l.length:=by rw[Nd.encs_eq,length_map]
def zXF:Option Nd->AV
 | some y=>.s (.pt (Nd.enc y))
 | none=>.junk
def zTX (xs:List AV) (r:Ret):Prop:=∃ (a0:Nd) (a1:List Int),xs=[.s (.pt (Nd.enc a0)),.s (.sl 1 (a1.map (irow .i64)))]/\r = .val (.tup [zXF (zBE a0 a1),.s (.bool (zBE a0 a1).isSome)])
def zNd:zAr:=zAu fun xs r=>zTX xs r
theorem gA {P:Prop} (h:P:=by unfold zBK;exact⟨_,Le.forget [(5,nB false)] ⟨rfl,trivial⟩,rfl,rfl⟩):P:=h
theorem gR {P:Prop} (h:P:=by exact⟨_,Le.refl _ _,rfl,rfl⟩):P:=h
theorem zTf:PSound prog 180 zNd:=by
 have gok:=@gok0 prog;refine psq tokW call180 func180 rfl ?_;rintro xs r w0 G0 ⟨n0,p0,rfl,rfl⟩ _;generalize hy:zBE n0 p0=y;refine yCp ?_;refine zAa<|zAk (zAA (X:=Nd×List Int) (fun x=>match x with | (n,p)=>⟨ofL [(0,.s (.pt (Nd.enc n))),(1,.s (.sl 1 (p.map (irow .i64)))),(4,.s .np),(5,nB false)],fun _=>none,0⟩)
  (fun x=>match x with | (n,p)=>zBE n p=y) (fun x=>match x with | (n,p)=>p.length) (n0,p0) hy (Le.forget [(0,.s (.pt (Nd.enc n0))),(1,.s (.sl 1 (p0.map (irow .i64)))),(4,.s .np),(5,nB false)] ⟨rfl,rfl,rfl,rfl,trivial⟩) ?_)
 rintro⟨⟨k,t,c,ks⟩,p⟩ hI;have hI:zBE (.mk k t c ks) p=y:=hI;refine zAa<|yCp ?_;refine zAI rfl (fun hb=>?_) (fun hb=>?_)
 ·refine zAe ?_;show Tri ..
  match p,hI,hb with
  | [],_,hb=>cases hb
  | [_],_,hb=>cases hb
  | i::s::p,hI,hb =>
   refine zAh (Le.forget [(0,.s (.pt (Nd.enc (.mk k t c ks)))),(1,.s (.sl 1 ((i::s::p).map (irow .i64)))),(4,.s .np),(5,nB false)] ⟨rfl,rfl,rfl,rfl,trivial⟩)<|zAa<|zAk<|zAa ?_;refine zLi (by exact tokW) (by exact gok) (by exact mixed) [] [] [1,2,4,5] rfl (by decide +kernel) ?_;refine And.intro (show(0:Int)<=0/\(0:Int)<((((i::s::p).map (irow .i64)).length:Nat):Int) by simp only[map_cons,length_cons]; omega) ?_;refine And.intro (show(0:Int)<=1/\(1:Int)<((((i::s::p).map (irow .i64)).length:Nat):Int) by simp only[map_cons,length_cons]; omega) ?_
   refine zAh (Le.forget [(0,pN k t c ks),(1,.s (.sl 1 ((i::s::p).map (irow .i64)))),(4,.s .np),(5,nB false),(6,nI i),(7,nI s)] ⟨rfl,rfl,rfl,rfl,rfl,rfl,trivial⟩)<|zAa<|zAa ?_
   by_cases hi:i<0
   ·refine zAb [] [21] rfl ?_;intro b hb;obtain rfl:true=b:=(hb.trans (decide_eq_true hi)).symm;refine zAI rfl (fun _=>?_) (fun h=>by cases h)
    refine yCp ?_;refine zAd ?_;obtain rfl:none=y:=(zHO (fun h=>by omega)).symm.trans hI;exact gA
   by_cases hi2:(ks.length:Int)<=i
   ·refine zAb [] [21,29] rfl ?_;intro b hb;obtain rfl:false=b:=(hb.trans (decide_eq_false hi)).symm;intro b hb;obtain rfl:true=b:=(hb.trans (decide_eq_true (show(((Nd.encs ks).length:Nat):Int)<=i by rw[zI4]; exact hi2))).symm;refine zAI rfl (fun _=>?_) (fun h=>by cases h)
    refine yCp ?_;refine zAd ?_;obtain rfl:none=y:=(zHO (n:=.mk k t c ks) (fun h=>by have:i<ks.length:=h.2; omega)).symm.trans hI;exact gA
   refine zAb [] [21,29] rfl ?_;intro b hb;obtain rfl:false=b:=(hb.trans (decide_eq_false hi)).symm;intro b hb;obtain rfl:false=b:=(hb.trans (decide_eq_false (show ¬ (((Nd.encs ks).length:Nat):Int)<=i by rw[zI4]; exact hi2))).symm;refine zAI rfl (fun h=>by cases h) (fun _=>?_)
   refine zAe ?_;show Tri ..;have hi0:i.toNat<ks.length :=(by omega);obtain⟨⟨k2,t2,c2,ks2⟩,hx⟩:∃ x,ks[i.toNat]? = some x:=⟨_,List.getElem?_eq_getElem hi0⟩
   refine zAh (Le.forget [(0,pN k t c ks),(1,.s (.sl 1 ((i::s::p).map (irow .i64)))),(4,.s .np),(5,nB false),(6,nI i),(7,nI s)] ⟨rfl,rfl,rfl,rfl,rfl,rfl,trivial⟩)<|yCp ?_;refine And.intro (show(0:Int)<=i/\i<(((Nd.encs ks).length:Nat):Int) by rw[zI4]; omega) ?_;show Tri ..
   refine zAh (Le.forget [(0,pN k t c ks),(1,.s (.sl 1 ((i::s::p).map (irow .i64)))),(4,.s .np),(5,nB false),(6,nI i),(7,nI s),(8,pN k2 t2 c2 ks2)] ⟨rfl,rfl,rfl,rfl,rfl,rfl,congrArg (fun z=>AV.s (.pt z)) (zXG hx),trivial⟩)<|zAa<|zAa ?_
   by_cases hs:s<0
   ·refine zAb [] [38] rfl ?_;intro b hb;obtain rfl:true=b:=(hb.trans (decide_eq_true hs)).symm;refine zAI rfl (fun _=>?_) (fun h=>by cases h)
    refine yCp ?_;refine zAd ?_;obtain rfl:none=y:=(zHP (n:=.mk k t c ks) (by omega) hx (fun h=>by omega)).symm.trans hI;exact gA
   by_cases hs2:(ks2.length:Int)<=s
   ·refine zAb [] [38,46] rfl ?_;intro b hb;obtain rfl:false=b:=(hb.trans (decide_eq_false hs)).symm;intro b hb;obtain rfl:true=b:=(hb.trans (decide_eq_true (show(((Nd.encs ks2).length:Nat):Int)<=s by rw[zI4]; exact hs2))).symm;refine zAI rfl (fun _=>?_) (fun h=>by cases h)
    refine yCp ?_;refine zAd ?_;obtain rfl:none=y:=(zHP (n:=.mk k t c ks) (by omega) hx (fun h=>by have:s<ks2.length:=h.2; omega)).symm.trans hI;exact gA
   refine zAb [] [38,46] rfl ?_;intro b hb;obtain rfl:false=b:=(hb.trans (decide_eq_false hs)).symm;intro b hb;obtain rfl:false=b:=(hb.trans (decide_eq_false (show ¬ (((Nd.encs ks2).length:Nat):Int)<=s by rw[zI4]; exact hs2))).symm;refine zAI rfl (fun h=>by cases h) (fun _=>?_)
   refine zAe ?_;show Tri ..;have hs0:s.toNat<ks2.length :=(by omega);obtain⟨z,hz⟩:∃ z,ks2[s.toNat]? = some z:=⟨_,List.getElem?_eq_getElem hs0⟩
   refine zAh (Le.forget [(0,pN k t c ks),(1,.s (.sl 1 ((i::s::p).map (irow .i64)))),(4,.s .np),(5,nB false),(6,nI i),(7,nI s),(8,pN k2 t2 c2 ks2)] ⟨rfl,rfl,rfl,rfl,rfl,rfl,rfl,trivial⟩)<|yCo ?_;refine And.intro (show(0:Int)<=s/\s<(((Nd.encs ks2).length:Nat):Int) by rw[zI4]; omega) ?_;show Tri ..
   refine zAh (Le.forget [(0,.s (.pt (Nd.enc z))),(1,.s (.sl 1 ((i::s::p).map (irow .i64)))),(4,.s .np),(5,nB false)] ⟨congrArg (fun z=>AV.s (.pt z)) (zXG hz),rfl,rfl,rfl,trivial⟩)<|yCo ?_;refine And.intro (show(0:Int)<=2/\(2:Int)<=((((i::s::p).map (irow .i64)).length:Nat):Int)/\_<=_ from⟨by decide,by simp only[map_cons,length_cons]; omega,Int.le_refl _⟩) ?_
   exact⟨(z,p),(zPA (n:=.mk k t c ks) (by omega) hx (by omega) hz).symm.trans hI,Le.forget [(0,.s (.pt (Nd.enc z))),(1,.s (.sl 1 (p.map (irow .i64)))),(4,.s .np),(5,nB false)] ⟨rfl,congrArg (fun z=>AV.s (.sl 1 z)) (by rw[Int.toNat_natCast,take_length]; rfl),rfl,rfl,trivial⟩,by show p.length<p.length+1+1; omega⟩
 ·refine zAD<|zAa ?_
  match p,hI,hb with
  | [],hI,_ =>
   refine yCo ?_;refine zAd ?_;obtain rfl:some (.mk k t c ks)=y:=hI;unfold zBK;exact gR
  | [i],hI,_ =>
   refine yCo ?_;refine zAd ?_;obtain rfl:none=y:=hI;exact gA
  | i::s::p,_,hb=>exact absurd (of_decide_eq_false hb) (by simp only[map_cons,length_cons]; omega)
def zGb (n:Nat):Nd->(List Int)->Int->Option (Nd×Int)
| ⟨n1A,n1C,n1D,n1B⟩,path2,i3=>(zFH n (Nd.mk n1A n1C n1D n1B) path2).bind fun⟨⟨y4A,y4C,y4D,y4B⟩,y5⟩=>bif (y5 != 0) then (some (Nd.mk 0 [] 0 [],y5)) else ((bif decide (i3<0) then (some true) else (some (decide ((y4B.length:Int)<=i3))):Option (Bool)).bind fun x6=>bif x6 then (some (Nd.mk 0 [] 0 [],2)) else ((at? y4B i3).bind fun⟨e8A,e8C,e8D,e8B⟩=>some (Nd.mk e8A e8C e8D e8B,0)))
def zAW (slices1:List (List Nd)):Nat->Int->Int->Option (Int)
| 0,_,_=>none
| k+1,x3,size4=>bif decide (x3<(slices1.length:Int)) then ((at? slices1 x3).bind fun e6=>bif decide ((i64.wrap (size4+(e6.length:Int)))<0) then (none) else (zAW slices1 k (i64.wrap (x3+1)) (i64.wrap (size4+(e6.length:Int))))) else (some size4)
def zAX (slices1:List (List Nd)):Nat->Int->(List Nd)->Option ((List Nd))
| 0,_,_=>none
| k+1,x11,l13=>bif decide (x11<(slices1.length:Int)) then ((at? slices1 x11).bind fun e15=>req (l13.length+e15.length<=4294967296) <| zAX slices1 k (i64.wrap (x11+1)) (l13++e15)) else (some l13)
def zBW (n:Nat):(List (List Nd))->Option (List Nd)
| slices1=>(zAW slices1 n 0 0).bind fun size5=>(zEy size5).bind fun y9=>(zAX slices1 n 0 y9).bind fun l14=>some l14
def zAZ (n:Nat):(zO8×List Nd)->Int->(List Nd)->Option (List Nd)
| ⟨⟨c1Y,c1Al,c1J,c1U,c1X,c1V,c1Ak,c1Aj⟩,c1Am⟩,n2,nodes3=>req (0<=(0:Int)/\(0:Int)<=c1J/\c1J<=(c1Am.length:Int)) <| req (0<=(i64.wrap (c1J+n2))/\(i64.wrap (c1J+n2))<=(c1Am.length:Int)/\(c1Am.length:Int)<=(c1Am.length:Int)) <| (zBW n [(c1Am.take c1J.toNat).drop (0:Int).toNat,nodes3,(c1Am.take (c1Am.length:Int).toNat).drop (i64.wrap (c1J+n2)).toNat]).bind fun y7=>some y7
def zBp (n:Nat):(zO8×List Nd)->Option ((List Nd)×Int)
| ⟨⟨c1Y,c1Al,c1J,c1U,c1X,c1V,c1Ak,c1Aj⟩,c1Am⟩=>(at? c1Am c1J).bind fun⟨e2A,e2C,e2D,e2B⟩=>(zCW (Nd.mk e2A e2C e2D e2B)).bind fun⟨y4A,y4C,y4D,y4B⟩=>(zDJ (Nd.mk y4A y4C y4D y4B)).bind fun y5=>bif decide (y5<=c1V) then (some ([],7)) else ((at? y4B c1V).bind fun⟨e6A,e6C,e6D,e6B⟩=>(at? y4B c1V).bind fun⟨e7A,e7C,e7D,e7B⟩=>(bif ((e6B.length:Int) != c1U) then (some true) else ((at? c1X 0).bind fun⟨e11A,e11C,e11D,e11B⟩=>(zCg n (Nd.mk y4A y4C y4D (y4B.set c1V.toNat (Nd.mk e7A e7C e7D []))) (Nd.mk e11A e11C e11D e11B)).bind fun y13=>some (!y13))
   : Option (Bool)).bind fun x9=>bif x9 then (some ([],7)) else ((zAZ n ((c1Y,c1Al,c1J,c1U,c1X,c1V,c1Ak,c1Aj),c1Am) 1 e6B).bind fun y14=>some (y14,0)))
def zDC (n:Nat):(zO8×List Nd)->Option ((List Nd)×Int)
| ⟨⟨c1Y,c1Al,c1J,c1U,c1X,c1V,c1Ak,c1Aj⟩,c1Am⟩=>(at? c1X 0).bind fun⟨e2A,e2C,e2D,e2B⟩=>(zCW (Nd.mk e2A e2C e2D e2B)).bind fun⟨y4A,y4C,y4D,y4B⟩=>req (0<=c1J/\c1J<=i64.wrap (c1J+c1U)/\i64.wrap (c1J+c1U)<=(c1Am.length:Int)) <| (zEh ((c1Am.take (i64.wrap (c1J+c1U)).toNat).drop c1J.toNat)).bind fun y6=>(at? y4B c1V).bind fun⟨e7A,e7C,e7D,e7B⟩=>(zAZ n ((c1Y,c1Al,c1J,c1U,c1X,c1V,c1Ak,c1Aj),c1Am) c1U [Nd.mk y4A y4C y4D (y4B.set c1V.toNat (Nd.mk e7A e7C e7D y6))]).bind fun y10=>some (y10,0)
def zCS (n:Nat):(zO8×List Nd)->Option ((List Nd)×Int)
| ⟨⟨c1Y,c1Al,c1J,c1U,c1X,c1V,c1Ak,c1Aj⟩,c1Am⟩=>(zAZ n ((c1Y,c1Al,c1J,c1U,c1X,c1V,c1Ak,c1Aj),c1Am) 0 c1X).bind fun y2=>some (y2,0)
def zCT (n:Nat):(zO8×List Nd)->Option ((List Nd)×Int)
| ⟨⟨c1Y,c1Al,c1J,c1U,c1X,c1V,c1Ak,c1Aj⟩,c1Am⟩=>req (0<=c1J/\c1J<=i64.wrap (c1J+(c1X.length:Int))/\i64.wrap (c1J+(c1X.length:Int))<=(c1Am.length:Int)) <| (zAY n ((c1Am.take (i64.wrap (c1J+(c1X.length:Int))).toNat).drop c1J.toNat) c1X).bind fun y4=>bif (!y4) then (some ([],7)) else ((zAZ n ((c1Y,c1Al,c1J,c1U,c1X,c1V,c1Ak,c1Aj),c1Am) (c1X.length:Int) []).bind fun y5=>some (y5,0))
def zDY (n:Nat):(zO8×List Nd)->Option ((List Nd)×Int)
| ⟨⟨c1Y,c1Al,c1J,c1U,c1X,c1V,c1Ak,c1Aj⟩,c1Am⟩=>(at? c1Am c1J).bind fun⟨e2A,e2C,e2D,e2B⟩=>((bif (e2A == 2) then (some (e2A == 2)) else (bif (e2A == 3) then (some (e2A == 3)) else (bif (e2A == 4) then (some (e2A == 4)) else (bif (e2A == 10) then (some (e2A == 10)) else (some (e2A == 11))))):Option (Bool)).bind fun x4=>bif x4 then (some (.go ())) else (some (.ret ([],7))):Option (Fl ((List Nd)×Int) Unit)).bind fun fl=>match fl with
 | .ret r=>some r
 | .go _=>bif (!(e2C == c1Ak)) then (some ([],7)) else ((zAZ n ((c1Y,c1Al,c1J,c1U,c1X,c1V,c1Ak,c1Aj),c1Am) 1 [Nd.mk e2A c1Aj e2D e2B]).bind fun y6=>some (y6,0))
def zB8:(zO8×List Nd)->Option Int
| ⟨⟨c1Y,c1Al,c1J,c1U,c1X,c1V,c1Ak,c1Aj⟩,c1Am⟩=>(bif (c1Y == 1) then (some 0) else (bif (c1Y == 2) then (some (c1X.length:Int)) else (bif (c1Y == 3) then (some c1U) else (some 1))):Option (Int)).bind fun need2=>(bif decide (c1J<0) then (some true) else (bif decide ((c1Am.length:Int)<c1J) then (some true) else (some (decide ((i64.wrap ((c1Am.length:Int) - c1J))<need2)))):Option (Bool)).bind fun x4=>bif x4 then (some 2) else (some 0)
def zDo (n:Nat):(List Nd)->Int->Option Bool
| l1,slot2=>(bif ((l1.length:Int) != 1) then (some true) else ((zCm n l1).bind fun y5=>bif (!y5) then (some true) else (bif decide (slot2<0) then (some true) else ((at? l1 0).bind fun⟨e6A,e6C,e6D,e6B⟩=>(zDJ (Nd.mk e6A e6C e6D e6B)).bind fun y8=>some (decide (y8<=slot2))))):Option (Bool)).bind fun x3=>bif x3 then (some false) else ((at? l1 0).bind fun⟨e9A,e9C,e9D,e9B⟩=>(at? e9B slot2).bind fun⟨e11A,e11C,e11D,e11B⟩=>some ((e11B.length:Int) == 0))
def zEW (n:Nat):zO8->Option Bool
| ⟨a1A,a1E,a1F,a1K,a1G,a1H,a1L,a1C⟩=>(bif (!(a1L == [])) then (some true) else (some (!(a1C == []))):Option (Bool)).bind fun x2=>((bif (a1A == 1) then (some (a1A == 1)) else (some (a1A == 2)):Option (Bool)).bind fun x3=>bif x3 then ((bif (a1K == 0) then (bif (a1H == 0) then (bif (!x2) then (bif decide (0<(a1G.length:Int)) then ((zCm n a1G).bind fun y6=>some y6) else (some false)) else (some false)) else (some false)) else (some false):Option (Bool)).bind fun x4=>some (.ret x4)) else ((bif (a1A == 3) then (some (a1A == 3)) else (some (a1A == 4)):Option (Bool)).bind fun x7=>bif x7 then ((bif decide (0<=a1K) then (bif (!x2) then ((zDo n a1G a1H).bind fun y9=>some y9) else (some false)) else (some false):Option (Bool)).bind fun x8=>some (.ret x8)
   ) else (bif (a1A == 5) then ((bif (a1K == 0) then (bif (a1H == 0) then (bif ((a1G.length:Int) == 0) then (some (!(a1L == a1C))) else (some false)) else (some false)) else (some false):Option (Bool)).bind fun x10=>some (.ret x10)) else (some (.go ())))):Option (Fl Bool Unit)).bind fun fl=>match fl with
 | .ret r=>some r
 | .go _=>some false
def zDI:(List Int)->Option (List Int)
| l1=>(zAP l1).bind fun y2=>some y2
def zBG (l1:List Nd):Nat->Int->(List Nd)->Option ((List Nd))
| 0,_,_=>none
| k+1,x4,l5=>bif decide (x4<(l1.length:Int)) then ((at? l1 x4).bind fun⟨e7A,e7C,e7D,e7B⟩=>(zA0 (Nd.mk e7A e7C e7D e7B)).bind fun⟨y9A,y9C,y9D,y9B⟩=>req (l5.length + [Nd.mk y9A y9C y9D y9B].length<=4294967296) <| zBG l1 k (i64.wrap (x4+1)) (l5++[Nd.mk y9A y9C y9D y9B])) else (some l5)
def zFC (n:Nat):(List Nd)->Option (List Nd)
| l1=>(zBG l1 n 0 []).bind fun l6=>some l6
def zFD (n:Nat):zO8->Option zO8
| ⟨op1A,op1E,op1F,op1K,op1G,op1H,op1L,op1C⟩=>(zDI op1E).bind fun y2=>(zFC n op1G).bind fun y3=>some (op1A,y2,op1F,op1K,y3,op1H,op1L,op1C)
def zBq:(zO8×List Nd)->Option ((List Nd)×Int)
| ⟨⟨c1Y,c1Al,c1J,c1U,c1X,c1V,c1Ak,c1Aj⟩,c1Am⟩=>(at? c1Am c1J).bind fun⟨e2A,e2C,e2D,e2B⟩=>(zA0 (Nd.mk e2A e2C e2D e2B)).bind fun⟨y4A,y4C,y4D,y4B⟩=>(zDJ (Nd.mk y4A y4C y4D y4B)).bind fun y5=>bif decide (y5<=c1V) then (some ([],7)) else (none)
def zBj (n:Nat) (c:zO8×List Nd):Option (List Nd×Int) :=
 match zBq c with
 | some r=>some r
 | none=>zBp n c
def zCo (n:Nat):(zO8×List Nd)->Option ((List Nd)×Int)
| ⟨⟨c1Y,c1Al,c1J,c1U,c1X,c1V,c1Ak,c1Aj⟩,c1Am⟩=>(zB8 ((c1Y,c1Al,c1J,c1U,c1X,c1V,c1Ak,c1Aj),c1Am)).bind fun y2=>bif (y2 != 0) then (some ([],y2)) else (bif (c1Y == 1) then ((zCS n ((c1Y,c1Al,c1J,c1U,c1X,c1V,c1Ak,c1Aj),c1Am)).bind fun⟨y3,y4⟩=>some (y3,y4)) else (bif (c1Y == 2) then ((zCT n ((c1Y,c1Al,c1J,c1U,c1X,c1V,c1Ak,c1Aj),c1Am)).bind fun⟨y5,y6⟩=>some (y5,y6)) else (bif (c1Y == 3) then ((zDC n ((c1Y,c1Al,c1J,c1U,c1X,c1V,c1Ak,c1Aj),c1Am)).bind fun⟨y7,y8⟩=>some (y7,y8)) else (
     bif (c1Y == 4) then ((zBj n ((c1Y,c1Al,c1J,c1U,c1X,c1V,c1Ak,c1Aj),c1Am)).bind fun⟨y9,y10⟩=>some (y9,y10)) else ((zDY n ((c1Y,c1Al,c1J,c1U,c1X,c1V,c1Ak,c1Aj),c1Am)).bind fun⟨y11,y12⟩=>some (y11,y12))))))
def zEJ (n:Nat):Nd->zO8->Option (Nd×Int)
| ⟨n1A,n1C,n1D,n1B⟩,⟨op2A,op2E,op2F,op2K,op2G,op2H,op2L,op2C⟩=>(zA8 n (Nd.mk n1A n1C n1D n1B)).bind fun y3=>bif (!y3) then (some (Nd.mk 0 [] 0 [],1)) else ((zEW n (op2A,op2E,op2F,op2K,op2G,op2H,op2L,op2C)).bind fun y4=>bif (!y4) then (some (Nd.mk 0 [] 0 [],4)) else ((zHs n (Nd.mk n1A n1C n1D n1B) op2E).bind fun⟨⟨y5A,y5C,y5D,y5B⟩,y6⟩=>bif (y6 != 0) then (some (Nd.mk 0 [] 0 [],y6)) else ((zCo n ((op2A,op2E,op2F,op2K,op2G,op2H,op2L,op2C),y5B)).bind fun⟨y7,y8⟩=>bif (y8 != 0) then (some (Nd.mk 0 [] 0 [],y8)) else (
     (zFf n (Nd.mk n1A n1C n1D n1B) op2E (Nd.mk y5A y5C y5D y7)).bind fun⟨⟨y9A,y9C,y9D,y9B⟩,y10⟩=>bif (y10 != 0) then (some (Nd.mk 0 [] 0 [],6)) else (some (Nd.mk y9A y9C y9D y9B,0))))))
def zBa (n:Nat) (ops2:List zO8):Nat->Int->(List UInt8)->Int->(List Nd)->Int->Option (Fl (Nd×Int×Int) (Int×(List UInt8)×Int×(List Nd)))
| 0,_,_,_,_,_=>none
| k+1,x7,x8,x9,x10,x11=>bif decide (x11<(ops2.length:Int)) then ((at? ops2 x11).bind fun⟨e16A,e16E,e16F,e16K,e16G,e16H,e16L,e16C⟩=>(zEJ n (Nd.mk x7 x8 x9 x10) (e16A,e16E,e16F,e16K,e16G,e16H,e16L,e16C)).bind fun⟨⟨y18A,y18C,y18D,y18B⟩,y19⟩=>bif (y19 != 0) then (some (.ret (Nd.mk 0 [] 0 [],x11,y19))) else (zBa n ops2 k y18A y18C y18D y18B (i64.wrap (x11+1)))) else (some (.go (x7,x8,x9,x10)))
def zBR (n:Nat):Nd->(List zO8)->Option (Nd×Int×Int)
| ⟨n1A,n1C,n1D,n1B⟩,ops2=>(zA8 n (Nd.mk n1A n1C n1D n1B)).bind fun y3=>bif (!y3) then (some (Nd.mk 0 [] 0 [],0,1)) else ((zA0 (Nd.mk n1A n1C n1D n1B)).bind fun⟨y4A,y4C,y4D,y4B⟩=>(zBa n ops2 n y4A y4C y4D y4B 0).bind fun fl=>match fl with
  | .ret r=>some r
  | .go ⟨x12,x13,x14,x15⟩=>some (Nd.mk x12 x13 x14 x15,0,0))
def zCd (n:Nat):zO8->Option zO8
| ⟨op1A,op1E,op1F,op1K,op1G,op1H,op1L,op1C⟩=>(zFD n (op1A,op1E,op1F,op1K,op1G,op1H,op1L,op1C)).bind fun⟨y2A,y2E,y2F,y2K,y2G,y2H,y2L,y2C⟩=>(bif (op1A == 1) then (some (2,y2L,y2C)) else (bif (op1A == 2) then (some (1,y2L,y2C)) else (bif (op1A == 3) then (some (4,y2L,y2C)) else (bif (op1A == 4) then (some (3,y2L,y2C)) else (bif (op1A == 5) then (some (y2A,op1C,op1L)) else (some (y2A,y2L,y2C)))))):Option (Int×(List UInt8)×(List UInt8))).bind fun⟨x3,x4,x5⟩=>some (x3,y2E,y2F,y2K,y2G,y2H,x4,x5)
def zBb (n:Nat) (ops:List zO8):Nat->Option (List zO8)
| 0=>some []
| i+1=>(zBb n ops i).bind fun acc=>(ops[ops.length - 1 - i]?).bind fun o=>(zCd n o).bind fun y=>req (acc.length+1<=4294967296) <| some (acc++[y])
def zCA (n:Nat):(List zO8)->Option (List zO8)
| ops2=>req (ops2.length<=4294967296) <| zBb n ops2 ops2.length
def zA3 (slices1:List (List Int)):Nat->Int->Int->Option (Int)
| 0,_,_=>none
| k+1,x3,size4=>bif decide (x3<(slices1.length:Int)) then ((at? slices1 x3).bind fun e6=>bif decide ((i64.wrap (size4+(e6.length:Int)))<0) then (none) else (zA3 slices1 k (i64.wrap (x3+1)) (i64.wrap (size4+(e6.length:Int))))) else (some size4)
def zA4 (slices1:List (List Int)):Nat->Int->(List Int)->Option ((List Int))
| 0,_,_=>none
| k+1,x11,l13=>bif decide (x11<(slices1.length:Int)) then ((at? slices1 x11).bind fun e15=>req (l13.length+e15.length<=4294967296) <| zA4 slices1 k (i64.wrap (x11+1)) (l13++e15)) else (some l13)
def zAy (n:Nat):(List (List Int))->Option (List Int)
| slices1=>(zA3 slices1 n 0 0).bind fun size5=>(zE0 size5).bind fun y9=>(zA4 slices1 n 0 y9).bind fun l14=>some l14
def zNU:List Int->List Int->Option (List Int)
| p,q=>req (p.length+q.length<=4294967296) <| some (p++q)
def zF3:Option Bool:=some true
def zEX (n:Nat):Nd->Option ((Option (Nd×Nd×List zRc×Int))×Int)
| ⟨n1A,n1C,n1D,n1B⟩=>(zA8 n (Nd.mk n1A n1C n1D n1B)).bind fun y2=>bif (!y2) then (some (none,1)) else ((zA0 (Nd.mk n1A n1C n1D n1B)).bind fun⟨y3A,y3C,y3D,y3B⟩=>(zA0 (Nd.mk n1A n1C n1D n1B)).bind fun⟨y4A,y4C,y4D,y4B⟩=>some (some (Nd.mk y3A y3C y3D y3B,Nd.mk y4A y4C y4D y4B,[],0),0))
def zDb (n:Nat) (l1:List zO8):Nat->Int->(List zO8)->Option ((List zO8))
| 0,_,_=>none
| k+1,x4,l5=>bif decide (x4<(l1.length:Int)) then ((at? l1 x4).bind fun⟨e7A,e7E,e7F,e7K,e7G,e7H,e7L,e7C⟩=>(zFD n (e7A,e7E,e7F,e7K,e7G,e7H,e7L,e7C)).bind fun⟨y9A,y9E,y9F,y9K,y9G,y9H,y9L,y9C⟩=>req (l5.length + [(y9A,y9E,y9F,y9K,y9G,y9H,y9L,y9C)].length<=4294967296) <| zDb n l1 k (i64.wrap (x4+1)) (l5++[(y9A,y9E,y9F,y9K,y9G,y9H,y9L,y9C)])) else (some l5)
def zI7 (n:Nat):(List zO8)->Option (List zO8)
| l1=>(zDb n l1 n 0 []).bind fun l6=>some l6
def zCE:zCu->Option zCu
| ⟨c1I,c1M⟩=>(zDI c1I).bind fun y2=>(zDI c1M).bind fun y3=>some (y2,y3)
def zDc (n:Nat):zRc->Option zRc
| ⟨r1N,⟨r1P,r1Q⟩,⟨r1R,r1S⟩⟩=>(zI7 n r1N).bind fun y2=>(zCE (r1P,r1Q)).bind fun⟨y3I,y3M⟩=>(zCE (r1R,r1S)).bind fun⟨y4I,y4M⟩=>some (y2,(y3I,y3M),(y4I,y4M))
def zBk (n:Nat):(Nd×Nd×List zRc×Int)->zRc->Option (Int×(Nd×Nd×List zRc×Int))
| ⟨⟨o1Z,o1Aa,o1Ab,o1Ac⟩,⟨o1Ad,o1Ae,o1Af,o1Ag⟩,o1W,o1T⟩,⟨r2N,⟨r2P,r2Q⟩,⟨r2R,r2S⟩⟩=>(zBR n (Nd.mk o1Ad o1Ae o1Af o1Ag) r2N).bind fun⟨⟨y3A,y3C,y3D,y3B⟩,y4,y5⟩=>bif (y5 != 0) then (some (y5,(Nd.mk o1Z o1Aa o1Ab o1Ac,Nd.mk o1Ad o1Ae o1Af o1Ag,o1W,o1T))) else (bif decide (1000<=o1T) then (some (6,(Nd.mk o1Z o1Aa o1Ab o1Ac,Nd.mk o1Ad o1Ae o1Af o1Ag,o1W,o1T))) else (req (0<=o1T/\o1T<=(o1W.length:Int)) <|
   (zDc n (r2N,(r2P,r2Q),(r2R,r2S))).bind fun⟨y6N,⟨y6P,y6Q⟩,⟨y6R,y6S⟩⟩=>req ((o1W.take o1T.toNat).length + [(y6N,(y6P,y6Q),(y6R,y6S))].length<=4294967296) <| some (0,(Nd.mk o1Z o1Aa o1Ab o1Ac,Nd.mk y3A y3C y3D y3B,(o1W.take o1T.toNat)++[(y6N,(y6P,y6Q),(y6R,y6S))],i64.wrap (o1T+1)))))
def zBo:(Nd×Nd×List zRc×Int)->Option (Nd×(Nd×Nd×List zRc×Int))
| ⟨⟨o1Z,o1Aa,o1Ab,o1Ac⟩,⟨o1Ad,o1Ae,o1Af,o1Ag⟩,o1W,o1T⟩=>(zA0 (Nd.mk o1Ad o1Ae o1Af o1Ag)).bind fun⟨y2A,y2C,y2D,y2B⟩=>some (Nd.mk y2A y2C y2D y2B,(Nd.mk o1Z o1Aa o1Ab o1Ac,Nd.mk o1Ad o1Ae o1Af o1Ag,o1W,o1T))
def zBe (n:Nat) (o1:List zRc):Nat->Int->(List zRc)->Option ((List zRc))
| 0,_,_=>none
| k+1,x4,l5=>bif decide (x4<(o1.length:Int)) then ((at? o1 x4).bind fun⟨e7N,⟨e7P,e7Q⟩,⟨e7R,e7S⟩⟩=>(zDc n (e7N,(e7P,e7Q),(e7R,e7S))).bind fun⟨y8N,⟨y8P,y8Q⟩,⟨y8R,y8S⟩⟩=>req (l5.length + [(y8N,(y8P,y8Q),(y8R,y8S))].length<=4294967296) <| zBe n o1 k (i64.wrap (x4+1)) (l5++[(y8N,(y8P,y8Q),(y8R,y8S))])) else (some l5)
def zDB (n:Nat):(List zRc)->Option (List zRc)
| o1=>(zBe n o1 n 0 []).bind fun l6=>some l6
def zBr (n:Nat):(Nd×Nd×List zRc×Int)->Option ((List zRc)×(Nd×Nd×List zRc×Int))
| ⟨⟨o1Z,o1Aa,o1Ab,o1Ac⟩,⟨o1Ad,o1Ae,o1Af,o1Ag⟩,o1W,o1T⟩=>(zDB n o1W).bind fun y2=>some (y2,(Nd.mk o1Z o1Aa o1Ab o1Ac,Nd.mk o1Ad o1Ae o1Af o1Ag,o1W,o1T))
def zII (n:Nat):(Int×List Nd×Int×List UInt8×Bool)->Option Bool
| ⟨x1A,x1Am,x1H,x1C,x1Be⟩=>((zA2 x1Am).bind fun⟨y3A,y3C,y3D,y3B⟩=>(zGy n (Nd.mk y3A y3C y3D y3B) 100).bind fun y4=>bif y4 then (some (decide ((x1C.length:Int)<=300))) else (some false):Option (Bool)).bind fun x2=>some x2
def zDQ (F_r10_all:Nd->(List Int)->Option (List (List Int))) (row1B:List Nd) (path2:List Int) (i4:Int):Nat->Int->(List (List Int))->Option ((List (List Int)))
| 0,_,_=>none
| k+1,k13,l14=>(at? row1B i4).bind fun⟨e16A,e16C,e16D,e16B⟩=>bif decide (k13<(e16B.length:Int)) then ((at? row1B i4).bind fun⟨e19A,e19C,e19D,e19B⟩=>(at? e19B k13).bind fun⟨e21A,e21C,e21D,e21B⟩=>req (([]:List Int).length+path2.length<=4294967296) <| req (path2.length + [i4,k13].length<=4294967296) <| (F_r10_all (Nd.mk e21A e21C e21D e21B) (path2++[i4,k13])).bind fun y24=>req (l14.length+y24.length<=4294967296) <| zDQ F_r10_all row1B path2 i4 k (i64.wrap (k13+1)) (l14++y24)) else (some l14)
def zDP (F_r10_all:Nd->(List Int)->Option (List (List Int))) (n:Nat) (row1B:List Nd) (path2:List Int):Nat->Int->(List (List Int))->Option ((List (List Int)))
| 0,_,_=>none
| k+1,i4,l5=>bif decide (i4<=(row1B.length:Int)) then ((zNU path2 [i4]).bind fun y9=>req (l5.length + [y9].length<=4294967296) <| bif (i4 == (row1B.length:Int)) then (some (l5++[y9])) else ((zDQ F_r10_all row1B path2 i4 n 0 (l5++[y9])).bind fun l15=>zDP F_r10_all n row1B path2 k (i64.wrap (i4+1)) l15)) else (some l5)
def zDO:Nat->Nd->(List Int)->Option (List (List Int))
| 0,_,_=>none
| n+1,⟨row1A,row1C,row1D,row1B⟩,path2=>(zDP (zDO n) n row1B path2 n 0 []).bind fun l6=>some l6
def zFJ (n:Nat):Nd->Option ((List (List Int))×Int)
| ⟨n1A,n1C,n1D,n1B⟩=>(zAU n (Nd.mk n1A n1C n1D n1B)).bind fun y2=>bif (!y2) then (some ([],1)) else ((zDO n (Nd.mk n1A n1C n1D n1B) []).bind fun y3=>some (y3,0))
def zBx (a1:List Int) (b2:List Int):Nat->Int->Option (Fl Int Unit)
| 0,_=>none
| k+1,i3=>(bif decide (i3<(a1.length:Int)) then (some (decide (i3<(b2.length:Int)))) else (some false):Option (Bool)).bind fun x4=>bif x4 then ((at? a1 i3).bind fun e7=>(at? b2 i3).bind fun e9=>bif decide (e7<e9) then (some (.ret (-1))) else ((at? a1 i3).bind fun e11=>(at? b2 i3).bind fun e13=>bif decide (e13<e11) then (some (.ret 1)) else (zBx a1 b2 k (i64.wrap (i3+1))))) else (some (.go ()))
def zCf (n:Nat):(List Int)->(List Int)->Option Int
| a1,b2=>(zBx a1 b2 n 0).bind fun fl=>match fl with
 | .ret r=>some r
 | .go _=>bif decide ((a1.length:Int)<(b2.length:Int)) then (some (-1)) else (bif decide ((b2.length:Int)<(a1.length:Int)) then (some 1) else (some 0))
def zCO (n:Nat) (pos2:List Int) (y3:List (List Int)):Nat->Int->Option (Fl (Int×Int) Unit)
| 0,_=>none
| k+1,i5=>bif decide (i5<(y3.length:Int)) then ((at? y3 i5).bind fun e7=>(zCf n e7 pos2).bind fun y9=>bif (y9 == 0) then (some (.ret (i5,0))) else (zCO n pos2 y3 k (i64.wrap (i5+1)))) else (some (.go ()))
def zEv (n:Nat):Nd->(List Int)->Option (Int×Int)
| ⟨n1A,n1C,n1D,n1B⟩,pos2=>(zFJ n (Nd.mk n1A n1C n1D n1B)).bind fun⟨y3,y4⟩=>bif (y4 != 0) then (some (0,y4)) else ((zCO n pos2 y3 n 0).bind fun fl=>match fl with
  | .ret r=>some r
  | .go _=>some (0,2))
def zDN (n:Nat):Nd->(List Int)->Option Bool
| ⟨n1A,n1C,n1D,n1B⟩,pos2=>(zEv n (Nd.mk n1A n1C n1D n1B) pos2).bind fun⟨y3,y4⟩=>some (y4 == 0)
def zGc:(List Int)->Int->Option (Int×Int)
| pos1,k2=>bif ((pos1.length:Int) == (i64.wrap (k2+1))) then ((at? pos1 k2).bind fun e4=>(at? pos1 k2).bind fun e6=>some (e4,e6)) else ((at? pos1 k2).bind fun e8=>(at? pos1 k2).bind fun e10=>some (e8,i64.wrap (e10+1)))
def zB6 (a2:List Int) (a3:List Int):Nat->Int->Option (Int)
| 0,_=>none
| k+1,x8=>(bif decide ((i64.wrap (x8+2))<(a2.length:Int)) then (bif decide ((i64.wrap (x8+2))<(a3.length:Int)) then ((at? a2 x8).bind fun e13=>(at? a3 x8).bind fun e15=>bif (e13 == e15) then ((at? a2 (i64.wrap (x8+1))).bind fun e17=>(at? a3 (i64.wrap (x8+1))).bind fun e19=>some (e17 == e19)) else (some false)) else (some false)) else (some false):Option (Bool)).bind fun x10=>bif x10 then (zB6 a2 a3 k (i64.wrap (x8+2))) else (some x8)
def zCH (n:Nat):Nd->(List Int)->(List Int)->Option ((List Int×Int×Int)×Int)
| ⟨a1A,a1C,a1D,a1B⟩,a2,a3=>(zAU n (Nd.mk a1A a1C a1D a1B)).bind fun y4=>bif (!y4) then (some (([],0,0),1)) else (((zDN n (Nd.mk a1A a1C a1D a1B) a2).bind fun y6=>bif (!y6) then (some true) else ((zDN n (Nd.mk a1A a1C a1D a1B) a3).bind fun y7=>some (!y7)):Option (Bool)).bind fun x5=>bif x5 then (some (([],0,0),2)) else ((zB6 a2 a3 n 0).bind fun x9=>(zGc a2 x9).bind fun⟨y21,y22⟩=>(zGc a3 x9).bind fun⟨y23,y24⟩=>req (0<=(0:Int)/\(0:Int)<=x9/\x9<=(a2.length:Int)) <| req (([]:List Int).length+((a2.take x9.toNat).drop (0:Int).toNat).length<=4294967296) <| some (((a2.take x9.toNat).drop (0:Int).toNat,(if y23<y21 then y23 else y21),(if y22<y24 then y24 else y22)),0)))
def zKX (n:Nat):Nd->zCu->Option ((List Int×Int×Int)×Int)
| ⟨n1A,n1C,n1D,n1B⟩,⟨c2I,c2M⟩=>bif ((c2M.length:Int) == 0) then ((zCH n (Nd.mk n1A n1C n1D n1B) c2I c2I).bind fun⟨⟨y4E,y4O,y4Ai⟩,y5⟩=>some ((y4E,y4O,y4Ai),y5)) else ((zCH n (Nd.mk n1A n1C n1D n1B) c2I c2M).bind fun⟨⟨y6E,y6O,y6Ai⟩,y7⟩=>some ((y6E,y6O,y6Ai),y7))
def zCv (n:Nat):Nd->zCu->Option ((List Int×Int×Int)×Int)
| ⟨n1A,n1C,n1D,n1B⟩,⟨c2I,c2M⟩=>(zKX n (Nd.mk n1A n1C n1D n1B) (c2I,c2M)).bind fun⟨⟨y3E,y3O,y3Ai⟩,y4⟩=>some ((y3E,y3O,y3Ai),y4)
def zFh (n:Nat):Nd->(List Int×Int×Int)->Option ((List Nd)×Int)
| ⟨n1A,n1C,n1D,n1B⟩,⟨r2E,r2O,r2Ai⟩=>(zFH n (Nd.mk n1A n1C n1D n1B) r2E).bind fun⟨⟨y3A,y3C,y3D,y3B⟩,y4⟩=>bif (y4 != 0) then (some ([],y4)) else ((bif decide (r2O<0) then (some true) else (bif decide (r2Ai<r2O) then (some true) else (some (decide ((y3B.length:Int)<r2Ai)))):Option (Bool)).bind fun x5=>bif x5 then (some ([],2)) else (req (0<=r2O/\r2O<=r2Ai/\r2Ai<=(y3B.length:Int)) <| req (([]:List Nd).length+((y3B.take r2Ai.toNat).drop r2O.toNat).length<=4294967296) <| some ((y3B.take r2Ai.toNat).drop r2O.toNat,0)))
def zGA (n:Nat):Nd->(List Int×Int×Int)->Option (List zO8)
| ⟨n1A,n1C,n1D,n1B⟩,⟨r2E,r2O,r2Ai⟩=>(zFh n (Nd.mk n1A n1C n1D n1B) (r2E,r2O,r2Ai)).bind fun⟨y3,y4⟩=>bif ((y3.length:Int) == 0) then (some []) else (some [(2,r2E,r2O,0,y3,0,[],[])])
def zD5:(List Int)->(List Int)->Option (List Int)
| path1,more2=>req (([]:List Int).length+path1.length<=4294967296) <| req (path1.length+more2.length<=4294967296) <| some (path1++more2)
def zBC (n:Nat):Nd->zCu->(List zO8)->(List Int)->Option (zRc×Int)
| ⟨n1A,n1C,n1D,n1B⟩,⟨c2I,c2M⟩,ops3,pos4=>(zDt n (Nd.mk n1A n1C n1D n1B) ops3).bind fun⟨⟨y5A,y5C,y5D,y5B⟩,y6,y7⟩=>bif (y7 != 0) then (some (([],([],[]),([],[])),6)) else (some ((ops3,(c2I,c2M),(pos4,[])),0))
def zC0 (n:Nat):Nd->zCu->(List Nd)->Option (zRc×Int)
| ⟨n1A,n1C,n1D,n1B⟩,⟨c2I,c2M⟩,items3=>((zAU n (Nd.mk n1A n1C n1D n1B)).bind fun y5=>bif (!y5) then (some true) else ((zB5 n items3).bind fun y6=>some (!y6)):Option (Bool)).bind fun x4=>bif x4 then (some (([],([],[]),([],[])),1)) else ((zCv n (Nd.mk n1A n1C n1D n1B) (c2I,c2M)).bind fun⟨⟨y7E,y7O,y7Ai⟩,y8⟩=>bif (y8 != 0) then (some (([],([],[]),([],[])),y8)) else ((zGA n (Nd.mk n1A n1C n1D n1B) (y7E,y7O,y7Ai)).bind fun y9=>(bif decide (0<(items3.length:Int)) then (req (y9.length+([(1,y7E,y7O,0,items3,0,[],[])]:List zO8).length<=4294967296) <| some (y9++[(1,y7E,y7O,0,items3,0,[],[])])) else (some y9)
    : Option ((List zO8))).bind fun l11=>(zD5 y7E [i64.wrap (y7O+(items3.length:Int))]).bind fun y15=>(zBC n (Nd.mk n1A n1C n1D n1B) (c2I,c2M) l11 y15).bind fun⟨⟨y16N,⟨y16P,y16Q⟩,⟨y16R,y16S⟩⟩,y17⟩=>some ((y16N,(y16P,y16Q),(y16R,y16S)),y17)))
def zGz:(List Int×Int×Int)->Option (List Int)
| ⟨r1E,r1O,r1Ai⟩=>req (([]:List Int).length+r1E.length<=4294967296) <| req (r1E.length + [r1O].length<=4294967296) <| some (r1E++[r1O])
def zB7 (n1B:List Nd) (but2:Int):Nat->Int->Option (Fl Bool Unit)
| 0,_=>none
| k+1,i3=>bif decide (i3<(n1B.length:Int)) then ((bif (i3 != but2) then ((at? n1B i3).bind fun⟨e6A,e6C,e6D,e6B⟩=>some (decide (0<(e6B.length:Int)))) else (some false):Option (Bool)).bind fun x5=>bif x5 then (some (.ret true)) else (zB7 n1B but2 k (i64.wrap (i3+1)))) else (some (.go ()))
def zD6 (n:Nat):Nd->Int->Option Bool
| ⟨n1A,n1C,n1D,n1B⟩,but2=>(zB7 n1B but2 n 0).bind fun fl=>match fl with
 | .ret r=>some r
 | .go _=>some false
def zCk (n:Nat):Nd->(List Int)->Option ((List Int×Int×Int×Nd)×Bool)
| ⟨n1A,n1C,n1D,n1B⟩,pos2=>bif decide ((pos2.length:Int)<3) then (some (([],0,0,Nd.mk 0 [] 0 []),false)) else (req (0<=(0:Int)/\(0:Int)<=i64.wrap ((pos2.length:Int) - 3)/\i64.wrap ((pos2.length:Int) - 3)<=(pos2.length:Int)) <| (at? pos2 (i64.wrap ((pos2.length:Int) - 3))).bind fun e5=>(zGb n (Nd.mk n1A n1C n1D n1B) ((pos2.take (i64.wrap ((pos2.length:Int) - 3)).toNat).drop (0:Int).toNat) e5).bind fun⟨⟨y7A,y7C,y7D,y7B⟩,y8⟩=>req (0<=(0:Int)/\(0:Int)<=i64.wrap ((pos2.length:Int) - 3)/\i64.wrap ((pos2.length:Int) - 3)<=(pos2.length:Int)) <| (at? pos2 (i64.wrap ((pos2.length:Int) - 3))).bind fun e10=>(at? pos2 (i64.wrap ((pos2.length:Int) - 2))).bind fun e12 =>
  some (((pos2.take (i64.wrap ((pos2.length:Int) - 3)).toNat).drop (0:Int).toNat,e10,e12,Nd.mk y7A y7C y7D y7B),true))
def zEO:(List Int×Int×Int×Nd)->Option zO8
| ⟨x1E,x1F,x1Aq,⟨x1Av,x1Aw,x1Ah,x1Ar⟩⟩=>(at? x1Ar x1Aq).bind fun⟨e2A,e2C,e2D,e2B⟩=>(zA2 []).bind fun⟨y5A,y5C,y5D,y5B⟩=>(zBs (Nd.mk x1Av x1Aw x1Ah x1Ar) x1Aq (Nd.mk y5A y5C y5D y5B)).bind fun⟨y6A,y6C,y6D,y6B⟩=>some (4,x1E,x1F,(e2B.length:Int),[Nd.mk y6A y6C y6D y6B],x1Aq,[],[])
def zKW (n:Nat):Nd->Int->Option ((List Int)×Int)
| ⟨n1A,n1C,n1D,n1B⟩,i2=>(zFJ n (Nd.mk n1A n1C n1D n1B)).bind fun⟨y3,y4⟩=>bif (y4 != 0) then (some ([],y4)) else ((bif decide (i2<0) then (some true) else (some (decide ((y3.length:Int)<=i2))):Option (Bool)).bind fun x5=>bif x5 then (some ([],2)) else ((at? y3 i2).bind fun e7=>some (e7,0)))
def zFg (n:Nat):Nd->(List Int)->Int->Option ((List Int)×Int)
| ⟨n1A,n1C,n1D,n1B⟩,pos2,by3=>(zEv n (Nd.mk n1A n1C n1D n1B) pos2).bind fun⟨y4,y5⟩=>bif (y5 != 0) then (some ([],y5)) else ((zKW n (Nd.mk n1A n1C n1D n1B) (i64.wrap (y4+by3))).bind fun⟨y6,y7⟩=>bif (y7 != 0) then (some ([],8)) else (some (y6,0)))
def zFi (n:Nat):Nd->zCu->Bool->Option (zRc×Int)
| ⟨a1A,a1C,a1D,a1B⟩,⟨a2I,a2M⟩,a3=>(zCv n (Nd.mk a1A a1C a1D a1B) (a2I,a2M)).bind fun⟨⟨y4E,y4O,y4Ai⟩,y5⟩=>bif (y5 != 0) then (some (([],([],[]),([],[])),y5)) else (bif decide (y4O<y4Ai) then ((zGA n (Nd.mk a1A a1C a1D a1B) (y4E,y4O,y4Ai)).bind fun y6=>(zGz (y4E,y4O,y4Ai)).bind fun y7=>(zBC n (Nd.mk a1A a1C a1D a1B) (a2I,a2M) y6 y7).bind fun⟨⟨y8N,⟨y8P,y8Q⟩,⟨y8R,y8S⟩⟩,y9⟩=>some ((y8N,(y8P,y8Q),(y8R,y8S)),y9)) else (req (0<=(0:Int)/\(0:Int)<=i64.wrap ((a2I.length:Int) - 1)/\i64.wrap ((a2I.length:Int) - 1)<=(a2I.length:Int)) <|
   (at? a2I (i64.wrap ((a2I.length:Int) - 1))).bind fun e13=>(zFH n (Nd.mk a1A a1C a1D a1B) ((a2I.take (i64.wrap ((a2I.length:Int) - 1)).toNat).drop (0:Int).toNat)).bind fun⟨⟨y15A,y15C,y15D,y15B⟩,y16⟩=>(bif a3 then (some (i64.wrap (e13 - 1),-1)) else (some (e13,1)):Option (Int×Int)).bind fun⟨x17,x18⟩=>(bif decide (0<=x17) then (some (decide (x17<(y15B.length:Int)))) else (some false):Option (Bool)).bind fun x19=>(bif x19 then ((at? y15B x17).bind fun⟨e21A,e21C,e21D,e21B⟩=>(zD6 n (Nd.mk e21A e21C e21D e21B) (-1)).bind fun y23=>bif (!y23) then ((at? y15B x17).bind fun⟨e24A,e24C,e24D,e24B⟩ =>
      (zD5 ((a2I.take (i64.wrap ((a2I.length:Int) - 1)).toNat).drop (0:Int).toNat) [x17]).bind fun y29=>(zBC n (Nd.mk a1A a1C a1D a1B) (a2I,a2M) [(2,(a2I.take (i64.wrap ((a2I.length:Int) - 1)).toNat).drop (0:Int).toNat,x17,0,[Nd.mk e24A e24C e24D e24B],0,[],[])] y29).bind fun⟨⟨y30N,⟨y30P,y30Q⟩,⟨y30R,y30S⟩⟩,y31⟩=>some (.ret ((y30N,(y30P,y30Q),(y30R,y30S)),y31))) else (some (.go ()))) else ((zCk n (Nd.mk a1A a1C a1D a1B) a2I).bind fun⟨⟨y32E,y32F,y32Aq,⟨y32Av,y32Aw,y32Ah,y32Ar⟩⟩,y33⟩=>(bif y33 then ((zD6 n (Nd.mk y32Av y32Aw y32Ah y32Ar) y32Aq).bind fun y35=>some (!y35)
      ) else (some false):Option (Bool)).bind fun x34=>bif x34 then ((zEO (y32E,y32F,y32Aq,Nd.mk y32Av y32Aw y32Ah y32Ar)).bind fun⟨y36A,y36E,y36F,y36K,y36G,y36H,y36L,y36C⟩=>bif a3 then ((zD5 y32E [y32F]).bind fun y39=>(zBC n (Nd.mk a1A a1C a1D a1B) (a2I,a2M) [(y36A,y36E,y36F,y36K,y36G,y36H,y36L,y36C)] y39).bind fun⟨⟨y40N,⟨y40P,y40Q⟩,⟨y40R,y40S⟩⟩,y41⟩=>some (.ret ((y40N,(y40P,y40Q),(y40R,y40S)),y41))) else ((zD5 y32E [i64.wrap (y32F+y36K)]).bind fun y44 =>
       (zBC n (Nd.mk a1A a1C a1D a1B) (a2I,a2M) [(y36A,y36E,y36F,y36K,y36G,y36H,y36L,y36C)] y44).bind fun⟨⟨y45N,⟨y45P,y45Q⟩,⟨y45R,y45S⟩⟩,y46⟩=>some (.ret ((y45N,(y45P,y45Q),(y45R,y45S)),y46)))) else (some (.go ()))):Option (Fl (zRc×Int) Unit)).bind fun fl=>match fl with
   | .ret r=>some r
   | .go _=>(zFg n (Nd.mk a1A a1C a1D a1B) a2I x18).bind fun⟨y47,y48⟩=>bif (y48 != 0) then (some (([],([],[]),([],[])),y48)) else ((zBC n (Nd.mk a1A a1C a1D a1B) (a2I,a2M) [] y47).bind fun⟨⟨y49N,⟨y49P,y49Q⟩,⟨y49R,y49S⟩⟩,y50⟩=>some ((y49N,(y49P,y49Q),(y49R,y49S)),y50))))
def zGB:(List Nd)->Option Nd
| l1=>bif ((l1.length:Int) == 0) then (some (Nd.mk 0 [] 0 [])) else ((at? l1 0).bind fun⟨e3A,e3C,e3D,e3B⟩=>some (Nd.mk e3A e3C e3D e3B))
def zCJ (a3B:List Nd) (a4:Int) (y9E:List Int) (y9O:Int) (y9Ai:Int):Nat->(List Int)->Int->Option ((List Int))
| 0,_,_=>none
| k+1,x19,x20=>bif decide (0<=x20) then ((((at? a3B x20).bind fun⟨e24A,e24C,e24D,e24B⟩=>bif ((e24B.length:Int) == 0) then (bif (x20 != a4) then (some true) else (some ((i64.wrap (y9Ai - y9O)) == 0))) else (some false):Option (Bool)).bind fun x23=>bif x23 then ((zD5 y9E [y9O,x20,0]).bind fun y28=>some y28) else (some x19):Option ((List Int))).bind fun x22=>zCJ a3B a4 y9E y9O y9Ai k x22 (i64.wrap (x20 - 1))) else (some x19)
def zEN (n:Nat):Nd->zCu->Nd->Int->Option (zRc×Int)
| ⟨a1A,a1C,a1D,a1B⟩,⟨a2I,a2M⟩,⟨a3A,a3C,a3D,a3B⟩,a4=>((zAU n (Nd.mk a1A a1C a1D a1B)).bind fun y7=>bif (!y7) then (some true) else ((zEM n (3,[],0,0,[Nd.mk a3A a3C a3D a3B],a4,[],[])).bind fun y8=>some (!y8)):Option (Bool)).bind fun x6=>bif x6 then (some (([],([],[]),([],[])),1)) else ((zCv n (Nd.mk a1A a1C a1D a1B) (a2I,a2M)).bind fun⟨⟨y9E,y9O,y9Ai⟩,y10⟩=>bif (y10 != 0) then (some (([],([],[]),([],[])),y10)) else ((zD5 y9E [i64.wrap (y9O+1)]).bind fun y12=>(zCJ a3B a4 y9E y9O y9Ai n y12 (i64.wrap ((a3B.length:Int) - 1))).bind fun x21 =>
   (zBC n (Nd.mk a1A a1C a1D a1B) (a2I,a2M) [(3,y9E,y9O,i64.wrap (y9Ai - y9O),[Nd.mk a3A a3C a3D a3B],a4,[],[])] x21).bind fun⟨⟨y30N,⟨y30P,y30Q⟩,⟨y30R,y30S⟩⟩,y31⟩=>some ((y30N,(y30P,y30Q),(y30R,y30S)),y31)))
def zCt (pos1:List Int) (row2:List Int):Nat->Int->Option (Fl Bool Unit)
| 0,_=>none
| k+1,i5=>bif decide (i5<(row2.length:Int)) then ((at? pos1 i5).bind fun e7=>(at? row2 i5).bind fun e9=>bif (e7 != e9) then (some (.ret false)) else (zCt pos1 row2 k (i64.wrap (i5+1)))) else (some (.go ()))
def zFN (n:Nat):(List Int)->(List Int)->Option Bool
| pos1,row2=>bif decide ((pos1.length:Int)<=(row2.length:Int)) then (some false) else ((zCt pos1 row2 n 0).bind fun fl=>match fl with
  | .ret r=>some r
  | .go _=>some ((pos1.length:Int) != (i64.wrap ((row2.length:Int)+2))))
def zIH:zO8->Int->Bool->Option (List Int)
| ⟨a1A,a1E,a1F,a1K,a1G,a1H,a1L,a1C⟩,a2,a3=>(bif (a1A == 1) then ((bif decide (a1F<a2) then (some true) else (bif (a2 == a1F) then (some a3) else (some false)):Option (Bool)).bind fun x5=>bif x5 then (some (.ret [i64.wrap (a2+(a1G.length:Int))])) else (some (.go ()))) else (bif (a1A == 2) then ((bif decide (a1F<a2) then (some (decide (a2<(i64.wrap (a1F+(a1G.length:Int)))))) else (some false):Option (Bool)).bind fun x7=>bif x7 then (some (.ret [a1F])) else (bif decide (a1F<a2) then (some (.ret [i64.wrap (a2 - (a1G.length:Int))])) else (some (.go ())))) else (bif (a1A == 3) then ((bif decide (a1F<a2) then (some (decide (a2<(i64.wrap (a1F+a1K))))) else (some false):Option (Bool)).bind fun x10=>bif x10 then (
      some (.ret [a1F,a1H,i64.wrap (a2 - a1F)])) else (bif decide (a1F<a2) then (some (.ret [i64.wrap ((i64.wrap (a2 - a1K))+1)])) else ((bif (a2 == a1F) then (bif (a1K == 0) then (some a3) else (some false)) else (some false):Option (Bool)).bind fun x13=>bif x13 then (some (.ret [i64.wrap (a1F+1)])) else (some (.go ()))))) else (bif (a1A == 4) then (bif decide (a1F<a2) then (some (.ret [i64.wrap ((i64.wrap (a2 - 1))+a1K)])) else (some (.go ()))) else (some (.go ()))))):Option (Fl (List Int) Unit)).bind fun fl=>match fl with
 | .ret r=>some r
 | .go _=>some [a2]
def zFM:zO8->Int->Int->(List Int)->Option (List Int)
| ⟨a1A,a1E,a1F,a1K,a1G,a1H,a1L,a1C⟩,a2,a3,a4=>(bif decide (a2<a1F) then (some (.go [a2])) else (bif (a1A == 1) then (some (.go [i64.wrap (a2+(a1G.length:Int))])) else ((bif (a1A == 2) then (some (decide (a2<(i64.wrap (a1F+(a1G.length:Int)))))) else (some false):Option (Bool)).bind fun x7=>bif x7 then (some (.ret [a1F])) else (bif (a1A == 2) then (some (.go [i64.wrap (a2 - (a1G.length:Int))])) else ((bif (a1A == 3) then (some (decide (a2<(i64.wrap (a1F+a1K))))) else (some false):Option (Bool)).bind fun x8=>bif x8 then (some (.go [a1F,a1H,i64.wrap (a2 - a1F)])) else (bif (a1A == 3) then (some (.go [i64.wrap ((i64.wrap (a2 - a1K))+1)])) else ((bif (a1A == 4) then (bif (a2 == a1F) then (
           some (decide (a3<a1H))) else (some false)) else (some false):Option (Bool)).bind fun x9=>bif x9 then (some (.ret [a1F])) else ((bif (a1A == 4) then (bif (a2 == a1F) then (some (decide (a1H<a3))) else (some false)) else (some false):Option (Bool)).bind fun x10=>bif x10 then (some (.ret [i64.wrap (a1F+a1K)])) else ((bif (a1A == 4) then (some (a2 == a1F)) else (some false):Option (Bool)).bind fun x11=>bif x11 then ((at? a4 0).bind fun e12=>req (0<=(1:Int)/\(1:Int)<=(a4.length:Int)/\(a4.length:Int)<=(a4.length:Int)) <| req ([i64.wrap (a1F+e12)].length+((a4.take (a4.length:Int).toNat).drop (1:Int).toNat).length<=4294967296) <| some (.ret ([i64.wrap (a1F+e12)]++((a4.take (a4.length:Int).toNat).drop (1:Int).toNat)))) else (bif (a1A == 4) then (
            some (.go [i64.wrap ((i64.wrap (a2 - 1))+a1K)])) else (some (.go [a2]))))))))))):Option (Fl (List Int) ((List Int)))).bind fun fl=>match fl with
 | .ret r=>some r
 | .go l6=>req (l6.length + [a3].length<=4294967296) <| req ((l6++[a3]).length+a4.length<=4294967296) <| some ((l6++[a3])++a4)
def zIG (n:Nat):zO8->(List Int)->Bool->Option (List Int)
| ⟨op1A,op1E,op1F,op1K,op1G,op1H,op1L,op1C⟩,pos2,after3=>(zFN n pos2 op1E).bind fun y5=>bif (!y5) then (req (([]:List Int).length+pos2.length<=4294967296) <| some pos2) else (req (([]:List Int).length+op1E.length<=4294967296) <| bif ((pos2.length:Int) == (i64.wrap ((op1E.length:Int)+1))) then ((at? pos2 (op1E.length:Int)).bind fun e7=>(zIH (op1A,op1E,op1F,op1K,op1G,op1H,op1L,op1C) e7 after3).bind fun y9=>req (op1E.length+y9.length<=4294967296) <| some (op1E++y9)) else ((at? pos2 (op1E.length:Int)).bind fun e10=>(at? pos2 (i64.wrap ((op1E.length:Int)+1))).bind fun e12 =>
   req (0<=(i64.wrap ((op1E.length:Int)+2))/\(i64.wrap ((op1E.length:Int)+2))<=(pos2.length:Int)/\(pos2.length:Int)<=(pos2.length:Int)) <| (zFM (op1A,op1E,op1F,op1K,op1G,op1H,op1L,op1C) e10 e12 ((pos2.take (pos2.length:Int).toNat).drop (i64.wrap ((op1E.length:Int)+2)).toNat)).bind fun y15=>req (op1E.length+y15.length<=4294967296) <| some (op1E++y15)))
def zDS (n:Nat):Nd->zCu->Option (zRc×Int)
| ⟨n1A,n1C,n1D,n1B⟩,⟨c2I,c2M⟩=>(zCv n (Nd.mk n1A n1C n1D n1B) (c2I,c2M)).bind fun⟨⟨y3E,y3O,y3Ai⟩,y4⟩=>bif (y4 != 0) then (some (([],([],[]),([],[])),y4)) else ((zCk n (Nd.mk n1A n1C n1D n1B) c2I).bind fun⟨⟨y5E,y5F,y5Aq,⟨y5Av,y5Aw,y5Ah,y5Ar⟩⟩,y6⟩=>bif (!y6) then (some (([],([],[]),([],[])),8)) else ((zEO (y5E,y5F,y5Aq,Nd.mk y5Av y5Aw y5Ah y5Ar)).bind fun⟨y7A,y7E,y7F,y7K,y7G,y7H,y7L,y7C⟩=>(zIG n (y7A,y7E,y7F,y7K,y7G,y7H,y7L,y7C) c2I false).bind fun y9 =>
   (zBC n (Nd.mk n1A n1C n1D n1B) (c2I,c2M) [(y7A,y7E,y7F,y7K,y7G,y7H,y7L,y7C)] y9).bind fun⟨⟨y10N,⟨y10P,y10Q⟩,⟨y10R,y10S⟩⟩,y11⟩=>some ((y10N,(y10P,y10Q),(y10R,y10S)),y11)))
def zEx (n:Nat):Nd->zCu->Option (zRc×Int)
| ⟨a1A,a1C,a1D,a1B⟩,⟨a2I,a2M⟩=>(zCv n (Nd.mk a1A a1C a1D a1B) (a2I,a2M)).bind fun⟨⟨y3E,y3O,y3Ai⟩,y4⟩=>bif (y4 != 0) then (some (([],([],[]),([],[])),y4)) else ((zCk n (Nd.mk a1A a1C a1D a1B) a2I).bind fun⟨⟨y5E,y5F,y5Aq,⟨y5Av,y5Aw,y5Ah,y5Ar⟩⟩,y6⟩=>bif (!y6) then (some (([],([],[]),([],[])),8)) else ((bif decide (y3O<y3Ai) then (some true) else (bif (y5Av != 11) then (some (y5Av != 10)) else (some false)):Option (Bool)).bind fun x7=>bif x7 then (some (([],([],[]),([],[])),7)) else ((at? a2I (i64.wrap ((a2I.length:Int) - 1))).bind fun e9=>(zD5 y5E [y5F,y5Aq]).bind fun y12=>(at? y5Ar y5Aq).bind fun⟨e13A,e13C,e13D,e13B⟩ =>
    (zFh n (Nd.mk a1A a1C a1D a1B) (y12,e9,(e13B.length:Int))).bind fun⟨y16,y17⟩=>(zA2 y16).bind fun⟨y18A,y18C,y18D,y18B⟩=>(zBs (Nd.mk y5Av y5Aw y5Ah y5Ar) y5Aq (Nd.mk y18A y18C y18D y18B)).bind fun⟨y19A,y19C,y19D,y19B⟩=>(zGA n (Nd.mk a1A a1C a1D a1B) (y12,e9,(e13B.length:Int))).bind fun y20=>req (y20.length+([(1,y5E,i64.wrap (y5F+1),0,[Nd.mk y19A y19C y19D y19B],0,[],[])]:List zO8).length<=4294967296) <| (zD5 y5E [i64.wrap (y5F+1),y5Aq,0]).bind fun y24 =>
    (zBC n (Nd.mk a1A a1C a1D a1B) (a2I,a2M) (y20++[(1,y5E,i64.wrap (y5F+1),0,[Nd.mk y19A y19C y19D y19B],0,[],[])]) y24).bind fun⟨⟨y25N,⟨y25P,y25Q⟩,⟨y25R,y25S⟩⟩,y26⟩=>some ((y25N,(y25P,y25Q),(y25R,y25S)),y26))))
def zHw (n:Nat):Nd->zCu->(List UInt8)->Option (zRc×Int)
| ⟨a1A,a1C,a1D,a1B⟩,⟨a2I,a2M⟩,a3=>(zCv n (Nd.mk a1A a1C a1D a1B) (a2I,a2M)).bind fun⟨⟨y4E,y4O,y4Ai⟩,y5⟩=>bif (y5 != 0) then (some (([],([],[]),([],[])),y5)) else (req (0<=(0:Int)/\(0:Int)<=i64.wrap ((a2I.length:Int) - 1)/\i64.wrap ((a2I.length:Int) - 1)<=(a2I.length:Int)) <| (at? a2I (i64.wrap ((a2I.length:Int) - 1))).bind fun e9=>bif (e9 == 0) then (some (([],([],[]),([],[])),8)) else ((zGb n (Nd.mk a1A a1C a1D a1B) ((a2I.take (i64.wrap ((a2I.length:Int) - 1)).toNat).drop (0:Int).toNat) (i64.wrap (e9 - 1))).bind fun⟨⟨y11A,y11C,y11D,y11B⟩,y12⟩ =>
   (zEw n (Nd.mk a1A a1C a1D a1B) (5,(a2I.take (i64.wrap ((a2I.length:Int) - 1)).toNat).drop (0:Int).toNat,i64.wrap (e9 - 1),0,[],0,y11C,a3)).bind fun⟨⟨y13A,y13C,y13D,y13B⟩,y14⟩=>(bif (y14 == 4) then (some true) else (some (y14 == 7)):Option (Bool)).bind fun x15=>bif x15 then (some (([],([],[]),([],[])),7)) else ((zBC n (Nd.mk a1A a1C a1D a1B) (a2I,a2M) [(5,(a2I.take (i64.wrap ((a2I.length:Int) - 1)).toNat).drop (0:Int).toNat,i64.wrap (e9 - 1),0,[],0,y11C,a3)] []).bind fun⟨⟨y17N,⟨y17P,y17Q⟩,⟨y17R,y17S⟩⟩,y18⟩=>(bif (y18 == 0) then (some (a2I,a2M)) else (some (y17R,y17S)):Option ((List Int)×(List Int))).bind fun⟨x19,x20⟩ =>
    some ((y17N,(y17P,y17Q),(x19,x20)),y18))))
def zCI (a3:Bool) (y6Aq:Int) (y6Ah:Int) (x16:Int):Nat->Int->(List Nd)->Option ((List Nd))
| 0,_,_=>none
| k+1,x38,l39=>(bif decide (x38<y6Ah) then (bif (!a3) then (req (y6Ah ≠ 0) <| some (x16 == (i64.wrap ((i64.wrap ((i64.wrap ((i64.wrap (y6Aq.tdiv y6Ah)) * y6Ah))+y6Ah)) - 1)))) else (some false)) else (some false):Option (Bool)).bind fun x41=>bif x41 then ((zA2 []).bind fun⟨y42A,y42C,y42D,y42B⟩=>req (l39.length + [Nd.mk y42A y42C y42D y42B].length<=4294967296) <| zCI a3 y6Aq y6Ah x16 k (i64.wrap (x38+1)) (l39++[Nd.mk y42A y42C y42D y42B])) else (some l39)
def zDg (n:Nat) (a3:Bool) (y6Aq:Int) (y6Ah:Int) (y6Ar:List Nd):Nat->Int->Int->(List Nd)->Option (Int×(List Nd))
| 0,_,_,_=>none
| k+1,x15,x16,l17=>bif decide (x16<(y6Ar.length:Int)) then (((bif (x16 == y6Aq) then (some (l17.length:Int)) else (some x15):Option (Int)).bind fun x23=>(at? y6Ar x16).bind fun⟨e25A,e25C,e25D,e25B⟩=>req (l17.length + [Nd.mk e25A e25C e25D e25B].length<=4294967296) <| (bif a3 then (req (y6Ah ≠ 0) <| req (y6Ah ≠ 0) <| some ((x16.tmod y6Ah) == (y6Aq.tmod y6Ah))) else (some false):Option (Bool)).bind fun x28=>(bif x28 then ((zA2 []).bind fun⟨y30A,y30C,y30D,y30B⟩=>req ((l17++[Nd.mk e25A e25C e25D e25B]).length + [Nd.mk y30A y30C y30D y30B].length<=4294967296) <| some ((l17++[Nd.mk e25A e25C e25D e25B])++[Nd.mk y30A y30C y30D y30B])) else (
     some (l17++[Nd.mk e25A e25C e25D e25B])):Option ((List Nd))).bind fun l29=>(zCI a3 y6Aq y6Ah x16 n 0 l29).bind fun l40=>some (x23,l40):Option (Int×(List Nd))).bind fun⟨x21,l22⟩=>zDg n a3 y6Aq y6Ah y6Ar k x21 (i64.wrap (x16+1)) l22) else (some (x15,l17))
def zFj (n:Nat):Nd->zCu->Bool->Option (zRc×Int)
| ⟨a1A,a1C,a1D,a1B⟩,⟨a2I,a2M⟩,a3=>(zCv n (Nd.mk a1A a1C a1D a1B) (a2I,a2M)).bind fun⟨⟨y4E,y4O,y4Ai⟩,y5⟩=>bif (y5 != 0) then (some (([],([],[]),([],[])),y5)) else ((zCk n (Nd.mk a1A a1C a1D a1B) a2I).bind fun⟨⟨y6E,y6F,y6Aq,⟨y6Av,y6Aw,y6Ah,y6Ar⟩⟩,y7⟩=>bif (!y7) then (some (([],([],[]),([],[])),8)) else (bif (y6Av != 12) then (some (([],([],[]),([],[])),7)) else ((bif a3 then (some (i64.wrap (y6Ah+1))) else (some y6Ah):Option (Int)).bind fun x8=>(zDg n a3 y6Aq y6Ah y6Ar n 0 0 []).bind fun⟨x18,l19⟩=>(at? a2I (i64.wrap ((a2I.length:Int) - 1))).bind fun e48=>(zD5 y6E [y6F,x18,e48]).bind fun y51 =>
    (zBC n (Nd.mk a1A a1C a1D a1B) (a2I,a2M) [(2,y6E,y6F,0,[Nd.mk y6Av y6Aw y6Ah y6Ar],0,[],[]),(1,y6E,y6F,0,[Nd.mk 12 [] x8 l19],0,[],[])] y51).bind fun⟨⟨y52N,⟨y52P,y52Q⟩,⟨y52R,y52S⟩⟩,y53⟩=>some ((y52N,(y52P,y52Q),(y52R,y52S)),y53))))
def zIJ (n:Nat):Nd->zCu->(Int×List Nd×Int×List UInt8×Bool)->Option (zRc×Int)
| ⟨a1A,a1C,a1D,a1B⟩,⟨a2I,a2M⟩,⟨a3A,a3Am,a3H,a3C,a3Be⟩=>bif (a3A == 0) then ((zC0 n (Nd.mk a1A a1C a1D a1B) (a2I,a2M) a3Am).bind fun⟨⟨y4N,⟨y4P,y4Q⟩,⟨y4R,y4S⟩⟩,y5⟩=>some ((y4N,(y4P,y4Q),(y4R,y4S)),y5)) else (bif (a3A == 1) then ((zFi n (Nd.mk a1A a1C a1D a1B) (a2I,a2M) a3Be).bind fun⟨⟨y6N,⟨y6P,y6Q⟩,⟨y6R,y6S⟩⟩,y7⟩=>some ((y6N,(y6P,y6Q),(y6R,y6S)),y7)) else (bif (a3A == 2) then ((zGB a3Am).bind fun⟨y8A,y8C,y8D,y8B⟩ =>
    (zEN n (Nd.mk a1A a1C a1D a1B) (a2I,a2M) (Nd.mk y8A y8C y8D y8B) a3H).bind fun⟨⟨y9N,⟨y9P,y9Q⟩,⟨y9R,y9S⟩⟩,y10⟩=>some ((y9N,(y9P,y9Q),(y9R,y9S)),y10)) else (bif (a3A == 3) then ((zDS n (Nd.mk a1A a1C a1D a1B) (a2I,a2M)).bind fun⟨⟨y11N,⟨y11P,y11Q⟩,⟨y11R,y11S⟩⟩,y12⟩=>some ((y11N,(y11P,y11Q),(y11R,y11S)),y12)) else (bif (a3A == 4) then ((zEx n (Nd.mk a1A a1C a1D a1B) (a2I,a2M)).bind fun⟨⟨y13N,⟨y13P,y13Q⟩,⟨y13R,y13S⟩⟩,y14⟩=>some ((y13N,(y13P,y13Q),(y13R,y13S)),y14)) else (
      bif (a3A == 5) then ((zHw n (Nd.mk a1A a1C a1D a1B) (a2I,a2M) a3C).bind fun⟨⟨y15N,⟨y15P,y15Q⟩,⟨y15R,y15S⟩⟩,y16⟩=>some ((y15N,(y15P,y15Q),(y15R,y15S)),y16)) else (bif (a3A == 6) then ((zFj n (Nd.mk a1A a1C a1D a1B) (a2I,a2M) a3Be).bind fun⟨⟨y17N,⟨y17P,y17Q⟩,⟨y17R,y17S⟩⟩,y18⟩=>some ((y17N,(y17P,y17Q),(y17R,y17S)),y18)) else (some (([],([],[]),([],[])),1))))))))
def zHS (n:Nat):Nd->Option Bool
| ⟨n1A,n1C,n1D,n1B⟩=>(zGy n (Nd.mk n1A n1C n1D n1B) 60).bind fun y2=>some y2
def zC1 (n:Nat) (l2:List ((Int×List Nd×Int×List UInt8×Bool)×Int×Int)):Nat->Int->Option (Fl Bool Unit)
| 0,_=>none
| k+1,x4=>bif decide (x4<(l2.length:Int)) then ((at? l2 x4).bind fun⟨⟨e5Ba,e5Az,e5Bb,e5Bc,e5Bd⟩,e5I,e5M⟩=>((zII n (e5Ba,e5Az,e5Bb,e5Bc,e5Bd)).bind fun y8=>bif (!y8) then (some true) else ((zA2 e5Az).bind fun⟨y9A,y9C,y9D,y9B⟩=>(zGy n (Nd.mk y9A y9C y9D y9B) 12).bind fun y10=>some (!y10)):Option (Bool)).bind fun x7=>bif x7 then (some (.ret false)) else (zC1 n l2 k (i64.wrap (x4+1)))) else (some (.go ()))
def zIK (n:Nat):Nd->(List ((Int×List Nd×Int×List UInt8×Bool)×Int×Int))->Option Bool
| ⟨n1A,n1C,n1D,n1B⟩,l2=>(zC1 n l2 n 0).bind fun fl=>match fl with
 | .ret r=>some r
 | .go _=>((zHS n (Nd.mk n1A n1C n1D n1B)).bind fun y12=>bif y12 then (some (decide ((l2.length:Int)<=12))) else (some false):Option (Bool)).bind fun x11=>some x11
def zA9 (s11:List Int) (s22:List Int):Nat->Int->Option (Fl Bool Unit)
| 0,_=>none
| k+1,x6=>bif decide (x6<(s11.length:Int)) then ((at? s11 x6).bind fun e7=>(at? s22 x6).bind fun e9=>bif (e7 != e9) then (some (.ret false)) else (zA9 s11 s22 k (i64.wrap (x6+1)))) else (some (.go ()))
def zCw (n:Nat):(List Int)->(List Int)->Option Bool
| s11,s22=>bif ((s11.length:Int) != (s22.length:Int)) then (some false) else ((zA9 s11 s22 n 0).bind fun fl=>match fl with
  | .ret r=>some r
  | .go _=>some true)
def zCi (n:Nat):zO8->(List Int)->Option ((zO8×Int×Int×Bool×Int×List Int)×Bool)
| ⟨op1A,op1E,op1F,op1K,op1G,op1H,op1L,op1C⟩,pos2=>(bif decide ((pos2.length:Int)<=(op1E.length:Int)) then (some true) else (bif ((pos2.length:Int) == (i64.wrap ((op1E.length:Int)+2))) then (some true) else (req (0<=(0:Int)/\(0:Int)<=(op1E.length:Int)/\(op1E.length:Int)<=(pos2.length:Int)) <| (zCw n ((pos2.take (op1E.length:Int).toNat).drop (0:Int).toNat) op1E).bind fun y8=>some (!y8))):Option (Bool)).bind fun x4=>bif x4 then (some (((0,[],0,0,[],0,[],[]),0,0,false,0,[]),false)) else ((at? pos2 (op1E.length:Int)).bind fun e10=>(bif decide ((i64.wrap ((op1E.length:Int)+1))<(pos2.length:Int)) then ((at? pos2 (i64.wrap ((op1E.length:Int)+1))).bind fun e16 =>
    req (0<=(i64.wrap ((op1E.length:Int)+2))/\(i64.wrap ((op1E.length:Int)+2))<=(pos2.length:Int)/\(pos2.length:Int)<=(pos2.length:Int)) <| some (true,e16,(pos2.take (pos2.length:Int).toNat).drop (i64.wrap ((op1E.length:Int)+2)).toNat)) else (some (false,0,[])):Option (Bool×Int×(List Int))).bind fun⟨x13,x14,x15⟩=>some (((op1A,op1E,op1F,op1K,op1G,op1H,op1L,op1C),(op1G.length:Int),e10,x13,x14,x15),true))
def zAt (n:Nat):(zO8×Int×Int×Bool×Int×List Int)->(List Int)->Option (List Int)
| ⟨⟨p1Y,p1Al,p1J,p1U,p1X,p1V,p1Ak,p1Aj⟩,p1Ay,p1An,p1Ax,p1H,p1As⟩,l2=>bif (!p1Ax) then (some l2) else ((zAy n [l2,[p1H],p1As]).bind fun y5=>some y5)
def zBT (n:Nat):(zO8×Int×Int×Bool×Int×List Int)->Bool->Option (List Int)
| ⟨⟨p1Y,p1Al,p1J,p1U,p1X,p1V,p1Ak,p1Aj⟩,p1Ay,p1An,p1Ax,p1H,p1As⟩,after2=>(bif decide (p1An<p1J) then (some true) else (bif (p1An == p1J) then (bif (!p1Ax) then (some (!after2)) else (some false)) else (some false)):Option (Bool)).bind fun x3=>bif x3 then ((zAt n ((p1Y,p1Al,p1J,p1U,p1X,p1V,p1Ak,p1Aj),p1Ay,p1An,p1Ax,p1H,p1As) [p1An]).bind fun y5=>some y5) else ((zAt n ((p1Y,p1Al,p1J,p1U,p1X,p1V,p1Ak,p1Aj),p1Ay,p1An,p1Ax,p1H,p1As) [i64.wrap (p1An+p1Ay)]).bind fun y7=>some y7)
def zBU (n:Nat):(zO8×Int×Int×Bool×Int×List Int)->Option ((List Int)×Bool)
| ⟨⟨p1Y,p1Al,p1J,p1U,p1X,p1V,p1Ak,p1Aj⟩,p1Ay,p1An,p1Ax,p1H,p1As⟩=>(bif decide (p1An<p1J) then (some true) else (bif (p1An == p1J) then (some (!p1Ax)) else (some false)):Option (Bool)).bind fun x2=>bif x2 then ((zAt n ((p1Y,p1Al,p1J,p1U,p1X,p1V,p1Ak,p1Aj),p1Ay,p1An,p1Ax,p1H,p1As) [p1An]).bind fun y4=>some (y4,false)) else (bif decide (p1An<(i64.wrap (p1J+p1Ay))) then (some ([p1J],true)) else ((zAt n ((p1Y,p1Al,p1J,p1U,p1X,p1V,p1Ak,p1Aj),p1Ay,p1An,p1Ax,p1H,p1As) [i64.wrap (p1An - p1Ay)]).bind fun y7=>some (y7,false)))
def zCp (n:Nat):(zO8×Int×Int×Bool×Int×List Int)->Bool->Option (List Int)
| ⟨⟨a1Y,a1Al,a1J,a1U,a1X,a1V,a1Ak,a1Aj⟩,a1Ay,a1An,a1Ax,a1H,a1As⟩,a2=>(bif (!a1Ax) then (bif (a1An == a1J) then (bif (a1U == 0) then (some a2) else (some false)) else (some false)) else (some false):Option (Bool)).bind fun x3=>bif x3 then (some [i64.wrap (a1J+1)]) else ((bif decide (a1An<a1J) then (some true) else (bif (a1An == a1J) then (some (!a1Ax)) else (some false)):Option (Bool)).bind fun x5=>bif x5 then ((zAt n ((a1Y,a1Al,a1J,a1U,a1X,a1V,a1Ak,a1Aj),a1Ay,a1An,a1Ax,a1H,a1As) [a1An]).bind fun y7=>some y7) else (bif decide (a1An<(i64.wrap (a1J+a1U))) then (
    (zAt n ((a1Y,a1Al,a1J,a1U,a1X,a1V,a1Ak,a1Aj),a1Ay,a1An,a1Ax,a1H,a1As) [a1J,a1V,i64.wrap (a1An - a1J)]).bind fun y9=>some y9) else ((zAt n ((a1Y,a1Al,a1J,a1U,a1X,a1V,a1Ak,a1Aj),a1Ay,a1An,a1Ax,a1H,a1As) [i64.wrap ((i64.wrap (a1An - a1U))+1)]).bind fun y11=>some y11)))
def zBV (n:Nat):(zO8×Int×Int×Bool×Int×List Int)->Option ((List Int)×Bool)
| ⟨⟨a1Y,a1Al,a1J,a1U,a1X,a1V,a1Ak,a1Aj⟩,a1Ay,a1An,a1Ax,a1H,a1As⟩=>(bif decide (a1An<a1J) then (some true) else (bif (a1An == a1J) then (some (!a1Ax)) else (some false)):Option (Bool)).bind fun x2=>bif x2 then ((zAt n ((a1Y,a1Al,a1J,a1U,a1X,a1V,a1Ak,a1Aj),a1Ay,a1An,a1Ax,a1H,a1As) [a1An]).bind fun y4=>some (y4,false)) else (bif decide (a1J<a1An) then ((zAt n ((a1Y,a1Al,a1J,a1U,a1X,a1V,a1Ak,a1Aj),a1Ay,a1An,a1Ax,a1H,a1As) [i64.wrap ((i64.wrap (a1An - 1))+a1U)]).bind fun y6=>some (y6,false)) else (bif decide (a1H<a1V) then (
    some ([a1J],true)) else (bif decide (a1V<a1H) then (some ([i64.wrap (a1J+a1U)],true)) else ((at? a1As 0).bind fun e9=>req (0<=(1:Int)/\(1:Int)<=(a1As.length:Int)/\(a1As.length:Int)<=(a1As.length:Int)) <| (zAy n [[i64.wrap (a1J+e9)],(a1As.take (a1As.length:Int).toNat).drop (1:Int).toNat]).bind fun y14=>some (y14,false)))))
def zAs (n:Nat):(zO8×Int×Int×Bool×Int×List Int)->Bool->Option ((List Int)×Bool)
| ⟨⟨p1Y,p1Al,p1J,p1U,p1X,p1V,p1Ak,p1Aj⟩,p1Ay,p1An,p1Ax,p1H,p1As⟩,after2=>bif (p1Y == 1) then ((zBT n ((p1Y,p1Al,p1J,p1U,p1X,p1V,p1Ak,p1Aj),p1Ay,p1An,p1Ax,p1H,p1As) after2).bind fun y3=>some (y3,false)) else (bif (p1Y == 2) then ((zBU n ((p1Y,p1Al,p1J,p1U,p1X,p1V,p1Ak,p1Aj),p1Ay,p1An,p1Ax,p1H,p1As)).bind fun⟨y4,y5⟩=>some (y4,y5)) else (bif (p1Y == 3) then ((zCp n ((p1Y,p1Al,p1J,p1U,p1X,p1V,p1Ak,p1Aj),p1Ay,p1An,p1Ax,p1H,p1As) after2).bind fun y6=>some (y6,false)) else (bif (p1Y == 4) then (
     (zBV n ((p1Y,p1Al,p1J,p1U,p1X,p1V,p1Ak,p1Aj),p1Ay,p1An,p1Ax,p1H,p1As)).bind fun⟨y7,y8⟩=>some (y7,y8)) else ((zAt n ((p1Y,p1Al,p1J,p1U,p1X,p1V,p1Ak,p1Aj),p1Ay,p1An,p1Ax,p1H,p1As) [p1An]).bind fun y10=>some (y10,false)))))
def zEK (n:Nat):zO8->(List Int)->Bool->Option (List Int)
| ⟨op1A,op1E,op1F,op1K,op1G,op1H,op1L,op1C⟩,pos2,after3=>(zCi n (op1A,op1E,op1F,op1K,op1G,op1H,op1L,op1C) pos2).bind fun⟨⟨⟨y4Y,y4Al,y4J,y4U,y4X,y4V,y4Ak,y4Aj⟩,y4Ay,y4An,y4Ax,y4H,y4As⟩,y5⟩=>bif (!y5) then ((zAP pos2).bind fun y6=>some y6) else ((zAs n ((y4Y,y4Al,y4J,y4U,y4X,y4V,y4Ak,y4Aj),y4Ay,y4An,y4Ax,y4H,y4As) after3).bind fun⟨y7,y8⟩=>(zAy n [op1E,y7]).bind fun y10=>some y10)
def zBH (n:Nat) (ops1:List zO8) (after3:Bool):Nat->Int->(List Int)->Option ((List Int))
| 0,_,_=>none
| k+1,x6,image7=>bif decide (x6<(ops1.length:Int)) then ((at? ops1 x6).bind fun⟨e9A,e9E,e9F,e9K,e9G,e9H,e9L,e9C⟩=>(zEK n (e9A,e9E,e9F,e9K,e9G,e9H,e9L,e9C) image7 after3).bind fun y11=>zBH n ops1 after3 k (i64.wrap (x6+1)) y11) else (some image7)
def zCX (n:Nat):(List zO8)->(List Int)->Bool->Option (List Int)
| ops1,pos2,after3=>(zAP pos2).bind fun y4=>(zBH n ops1 after3 n 0 y4).bind fun image8=>some image8
def zBP (n:Nat) (a2:List ((Int×List Nd×Int×List UInt8×Bool)×Int×Int)):Nat->Int->(List UInt8)->Int->(List Nd)->Int->(List UInt8)->Int->(List Nd)->Int->Int->(List zRc)->Option (Fl (Bool×(Nd×Nd×List zRc×Int)) (Int×(List UInt8)×Int×(List Nd)×Int×(List UInt8)×Int×(List Nd)×Int×(List zRc)))
| 0,_,_,_,_,_,_,_,_,_,_,_=>none
| k+1,x4,x5,x6,x7,x8,x9,x10,x11,x13,x14,l15=>bif decide (x14<(a2.length:Int)) then ((at? a2 x14).bind fun⟨⟨e26Ba,e26Az,e26Bb,e26Bc,e26Bd⟩,e26I,e26M⟩=>(zBo (Nd.mk x4 x5 x6 x7,Nd.mk x8 x9 x10 x11,l15,x13)).bind fun⟨⟨y28A,y28C,y28D,y28B⟩,⟨⟨w29Z,w29Aa,w29Ab,w29Ac⟩,⟨w29Ad,w29Ae,w29Af,w29Ag⟩,w29W,w29T⟩⟩=>(zFJ n (Nd.mk y28A y28C y28D y28B)).bind fun⟨y30,y31⟩=>bif ((y30.length:Int) == 0) then (some (.ret (false,(Nd.mk w29Z w29Aa w29Ab w29Ac,Nd.mk w29Ad w29Ae w29Af w29Ag,w29W,w29T)))) else (req ((y30.length:Int) ≠ 0) <|
   (at? y30 ((i64.wrap e26I).tmod (y30.length:Int))).bind fun e34=>req ((y30.length:Int) ≠ 0) <| (at? y30 ((i64.wrap e26M).tmod (y30.length:Int))).bind fun e37=>(zIJ n (Nd.mk y28A y28C y28D y28B) (e34,e37) (e26Ba,e26Az,e26Bb,e26Bc,e26Bd)).bind fun⟨⟨y39N,⟨y39P,y39Q⟩,⟨y39R,y39S⟩⟩,y40⟩=>(bif (y40 == 0) then (
     (zBk n (Nd.mk w29Z w29Aa w29Ab w29Ac,Nd.mk w29Ad w29Ae w29Af w29Ag,w29W,w29T) (y39N,(y39P,y39Q),(y39R,y39S))).bind fun⟨y52,⟨⟨w53Z,w53Aa,w53Ab,w53Ac⟩,⟨w53Ad,w53Ae,w53Af,w53Ag⟩,w53W,w53T⟩⟩=>some ((y52 != 0),w53Z,w53Aa,w53Ab,w53Ac,w53Ad,w53Ae,w53Af,w53Ag,w53T,w53W)) else (some (false,w29Z,w29Aa,w29Ab,w29Ac,w29Ad,w29Ae,w29Af,w29Ag,w29T,w29W))
    : Option (Bool×Int×(List UInt8)×Int×(List Nd)×Int×(List UInt8)×Int×(List Nd)×Int×(List zRc))).bind fun⟨x41,x42,x43,x44,x45,x46,x47,x48,x49,x50,l51⟩=>bif x41 then (some (.ret (false,(Nd.mk x42 x43 x44 x45,Nd.mk x46 x47 x48 x49,l51,x50)))) else (zBP n a2 k x42 x43 x44 x45 x46 x47 x48 x49 x50 (i64.wrap (x14+1)) l51))) else (some (.go (x4,x5,x6,x7,x8,x9,x10,x11,x13,l15)))
def zFr (n:Nat):(Nd×Nd×List zRc×Int)->(List ((Int×List Nd×Int×List UInt8×Bool)×Int×Int))->Option (Bool×(Nd×Nd×List zRc×Int))
| ⟨⟨o1Z,o1Aa,o1Ab,o1Ac⟩,⟨o1Ad,o1Ae,o1Af,o1Ag⟩,o1W,o1T⟩,a2=>(zBP n a2 n o1Z o1Aa o1Ab o1Ac o1Ad o1Ae o1Af o1Ag o1T 0 o1W).bind fun fl=>match fl with
 | .ret r=>some r
 | .go ⟨x16,x17,x18,x19,x20,x21,x22,x23,x24,l25⟩=>some (true,(Nd.mk x16 x17 x18 x19,Nd.mk x20 x21 x22 x23,l25,x24))
def zBf (y13:List zRc):Nat->Int->(List zO8)->Option ((List zO8))
| 0,_,_=>none
| k+1,x17,l19=>bif decide (x17<(y13.length:Int)) then ((at? y13 x17).bind fun⟨e21N,⟨e21P,e21Q⟩,⟨e21R,e21S⟩⟩=>req (l19.length+e21N.length<=4294967296) <| zBf y13 k (i64.wrap (x17+1)) (l19++e21N)) else (some l19)
def zBg (n:Nat) (a1A:Int) (a1C:List UInt8) (a1D:Int) (a1B:List Nd) (a3:Bool) (l20:List zO8) (y23:List (List Int)):Nat->Int->(List UInt8)->Int->(List Nd)->Int->(List UInt8)->Int->(List Nd)->Int->(List Int)->(List Int)->Int->(List zRc)->Option (Fl Bool Unit)
| 0,_,_,_,_,_,_,_,_,_,_,_,_,_=>none
| k+1,x26,x27,x28,x29,x30,x31,x32,x33,x35,x36,x37,x38,l39=>bif decide (x38<(y23.length:Int)) then ((at? y23 x38).bind fun e40=>(zCX n l20 e40 a3).bind fun y42=>(zCA n l20).bind fun y43=>(zCX n y43 y42 a3).bind fun y44=>((zBo (Nd.mk x26 x27 x28 x29,Nd.mk x30 x31 x32 x33,l39,x35)).bind fun⟨⟨y56A,y56C,y56D,y56B⟩,⟨⟨w57Z,w57Aa,w57Ab,w57Ac⟩,⟨w57Ad,w57Ae,w57Af,w57Ag⟩,w57W,w57T⟩⟩=>(zDN n (Nd.mk y56A y56C y56D y56B) y42).bind fun y58=>bif (!y58) then (some (true,w57Z,w57Aa,w57Ab,w57Ac,w57Ad,w57Ae,w57Af,w57Ag,w57T,w57W)) else (
    (zDN n (Nd.mk a1A a1C a1D a1B) y44).bind fun y59=>bif (!y59) then (some (true,w57Z,w57Aa,w57Ab,w57Ac,w57Ad,w57Ae,w57Af,w57Ag,w57T,w57W)) else ((zCf n x36 y42).bind fun y60=>bif decide (0<y60) then (some (true,w57Z,w57Aa,w57Ab,w57Ac,w57Ad,w57Ae,w57Af,w57Ag,w57T,w57W)) else ((zCf n x37 y44).bind fun y61=>some (decide (0<y61),w57Z,w57Aa,w57Ab,w57Ac,w57Ad,w57Ae,w57Af,w57Ag,w57T,w57W))))
   : Option (Bool×Int×(List UInt8)×Int×(List Nd)×Int×(List UInt8)×Int×(List Nd)×Int×(List zRc))).bind fun⟨x45,x46,x47,x48,x49,x50,x51,x52,x53,x54,l55⟩=>bif x45 then (some (.ret false)) else (zBg n a1A a1C a1D a1B a3 l20 y23 k x46 x47 x48 x49 x50 x51 x52 x53 x54 y42 y44 (i64.wrap (x38+1)) l55)) else (some (.go ()))
def zB0 (n:Nat):Nd->(List ((Int×List Nd×Int×List UInt8×Bool)×Int×Int))->Bool->Option Bool
| ⟨a1A,a1C,a1D,a1B⟩,a2,a3=>((zF3 ).bind fun y5=>bif (!y5) then (some true) else ((zIK n (Nd.mk a1A a1C a1D a1B) a2).bind fun y6=>some (!y6)):Option (Bool)).bind fun x4=>bif x4 then ((zF3 ).bind fun y7=>some y7) else ((zEX n (Nd.mk a1A a1C a1D a1B)).bind fun⟨y8,y9⟩=>match y8 with
  | none=>(req (y9=1) <| some true)
  | some ⟨⟨w10Z,w10Aa,w10Ab,w10Ac⟩,⟨w10Ad,w10Ae,w10Af,w10Ag⟩,w10W,w10T⟩=>(req (y9=0) <| (zFr n (Nd.mk w10Z w10Aa w10Ab w10Ac,Nd.mk w10Ad w10Ae w10Af w10Ag,w10W,w10T) a2).bind fun⟨y11,⟨⟨w12Z,w12Aa,w12Ab,w12Ac⟩,⟨w12Ad,w12Ae,w12Af,w12Ag⟩,w12W,w12T⟩⟩=>bif (!y11) then (some false) else (
    (zBr n (Nd.mk w12Z w12Aa w12Ab w12Ac,Nd.mk w12Ad w12Ae w12Af w12Ag,w12W,w12T)).bind fun⟨y13,⟨⟨w14Z,w14Aa,w14Ab,w14Ac⟩,⟨w14Ad,w14Ae,w14Af,w14Ag⟩,w14W,w14T⟩⟩=>(zBf y13 n 0 []).bind fun l20=>(zFJ n (Nd.mk a1A a1C a1D a1B)).bind fun⟨y23,y24⟩=>(zBg n a1A a1C a1D a1B a3 l20 y23 n w14Z w14Aa w14Ab w14Ac w14Ad w14Ae w14Af w14Ag w14T [] [] 0 w14W).bind fun fl=>match fl with
    | .ret r=>some r
    | .go _=>some true)))
def zRU (xs:List AV) (r:Ret):Prop:=∃ a0 y0,zCh a0=some y0/\xs=[nS a0]/\r = .val (nB y0)
def zLY:zAr:=zAu fun xs r=>zRU xs r
theorem jB {P:Prop} (h:P:=by have hy:=osi h;subst hy;exact fin0 rfl rfl):P:=h
theorem jM {P:Prop} (h:P:=by refine zAd ?_;exact jB):P:=h
theorem gG {P:Prop} (h:P:=by refine yCp ?_;exact jM):P:=h
theorem zQ6:PSound prog 79 zLY:=by
 have gok:=@gok0 prog;refine psq tokW call79 func79 rfl ?_;rintro xs r w0 G0 ⟨s1,y0,h,rfl,rfl⟩ _;rw[zCh]at h;refine yCp ?_;exact gG
variable (n:Nat) (xs:List AV) (r:Ret)
def zOK:Prop:=∃ a0 y0,zDs n a0=some y0/\xs=[nS a0]/\r = .val (nB y0)
def zJz:zAr:=pG zOK
theorem jD {P:Prop} (h:P:=by cases h;exact Le.fgt):P:=h
theorem jE {P:Prop} (h:P:=by refine yCp ?_;refine zAd ?_;cases h;replace h:some _=some _:=ho1;exact jB):P:=h
theorem jF {P:Prop} (h:P:=by subst hz;obtain _:=z;replace h:=ho1;refine zAh hle<|yCp ?_;refine zAd ?_;exact jB):P:=h
theorem jG {P:Prop} (h:P:=by replace h:=zAw hb.symm h;exact jD):P:=h
theorem jI {P:Prop} (h:P:=by replace h:=zAv hb.symm h;exact jD):P:=h
theorem jQ {P:Prop} (h:P:=by cases h;exact⟨_,rfl,Le.fgt⟩):P:=h
theorem gP {P:Prop} (h:P:=by refine zAe<|yCo ?_;refine⟨(k,i64.wrap (i2+1)),h,Le.fgt,Nat.lt_succ_self k⟩):P:=h
theorem gV {P:Prop} (h:P:=by refine zAD ?_;exact jQ):P:=h
theorem zN3:PSound prog 141 zJz:=by
 have gok:=@gok0 prog;refine psq tokW call141 func141 rfl ?_;rintro xs r w0 G0 ⟨n,s1,y0,h,rfl,rfl⟩ _;rw[zDs]at h;refine yCp ?_;refine zAa<|yCp ?_;show Tri ..;obtain⟨fl,hl,ho1⟩:=zAc h;refine zB3 (fl:=fl) (fun z=>match z with | _=>⟨ofL [],fun _=>none,0⟩) ?_ (fun z σ' hz hle=>?_)
 ·refine zAk (zAA (X:=Nat×Int) (fun y=>match y with | (k,i2)=>⟨ofL [(0,nS s1),(3,nI i2)],fun _=>none,0⟩) (fun y=>zBB s1 y.1 y.2=some fl) (fun y=>y.1) (n,0) hl ?_ ?_)
  ·exact Le.fgt
  ·rintro⟨k,i2⟩ h;cases k with
   | zero=>cases h
   | succ k =>
    replace h:zBB s1 (k+1) i2=some fl:=h;rw[zBB]at h;refine zAa<|yCp ?_;refine zAf rfl h (fun hb h=>?_) (fun hb h=>?_)
    ·refine zAe<|zAa<|zAk<|yBn [] [13] rfl ?_;obtain⟨c3,hc3,h⟩:=zAc h;refine And.intro (zCl hc3).1 ?_;intro v4 hv4;obtain rfl:(c3.toNat:Int)=v4:=(hv4.trans (zCl hc3).2).symm;refine zAa ?_;obtain⟨x5,hj,h⟩:=zAc h;refine pL [(0,nS s1),(3,nI i2),(20,nB x5)] ?_ (fun σ' hle=>?_)
     ·replace h:=hj;refine zAb [] [17] rfl ?_;intro b hb;cases b with
      | true =>
       exact jG
      | false =>
       exact jI
     ·refine zAh hle<|zAf rfl h (fun hb h=>?_) (fun hb h=>?_)
      ·exact jE
      ·exact gP
    ·exact gV
 ·exact jF
def zOJ (xs:List AV) (r:Ret):Prop:=∃ a0 y0,zEm a0=some y0/\xs=[nS a0]/\r = .val (nB y0)
def zJy:zAr:=zAu fun xs r=>zOJ xs r
theorem gI {P:Prop} (h:P:=by refine zAe ?_;exact jD):P:=h
theorem kF {P:Prop} (h:P:=by refine yCo ?_;exact jD):P:=h
theorem kP {P:Prop} (h:P:=by refine zAe ?_;exact jQ):P:=h
theorem zN2:PSound prog 143 zJy:=by
 have gok:=@gok0 prog;refine psq tokW call143 func143 rfl ?_;rintro xs r w0 G0 ⟨s1,y0,h,rfl,rfl⟩ _;rw[zEm]at h;refine yCp ?_;refine zAa<|yCp ?_;show Tri ..;obtain⟨fl,hj,ho1⟩:=zAc h;refine zB3 (fl:=fl) (fun z=>match z with | _=>⟨ofL [],fun _=>none,0⟩) ?_ (fun z σ' hz hle=>?_)
 ·replace h:=hj;refine zAk<|zAa<|yCp ?_;show Tri ..;obtain⟨x2,hj,h⟩:=zAc h;refine pL [(4,nB x2)] ?_ (fun σ' hle=>?_)
  ·replace h:=hj;refine zAf rfl h (fun hb h=>?_) (fun hb h=>?_)
   ·exact gI
   ·refine yCp ?_;refine zAf rfl h (fun hb h=>?_) (fun hb h=>?_)
    ·exact gI
    ·refine yCp ?_;refine zAf rfl h (fun hb h=>?_) (fun hb h=>?_)
     ·exact gI
     ·exact kF
  ·refine zAh hle<|zAf rfl h (fun hb h=>?_) (fun hb h=>?_)
   ·exact jE
   ·exact kP
 ·exact jF
def zQj (xs:List AV) (r:Ret):Prop:=∃ a0 y0,zD0 a0=some y0/\xs=[nS a0]/\r = .val (nB y0)
def zHH:zAr:=zAu fun xs r=>zQj xs r
theorem zJM:PSound prog 83 zHH:=by
 have gok:=@gok0 prog;refine psq tokW call83 func83 rfl ?_;rintro xs r w0 G0 ⟨s1,y0,h,rfl,rfl⟩ _;rw[zD0]at h;refine yCp ?_;refine zAa<|yCp ?_;show Tri ..;obtain⟨fl,hj,ho1⟩:=zAc h;refine zB3 (fl:=fl) (fun z=>match z with | _=>⟨ofL [],fun _=>none,0⟩) ?_ (fun z σ' hz hle=>?_)
 ·replace h:=hj;refine zAk<|zAa<|yCp ?_;show Tri ..;obtain⟨x2,hj,h⟩:=zAc h;refine pL [(4,nB x2)] ?_ (fun σ' hle=>?_)
  ·replace h:=hj;refine zAf rfl h (fun hb h=>?_) (fun hb h=>?_)
   ·exact gI
   ·refine yCp ?_;refine zAf rfl h (fun hb h=>?_) (fun hb h=>?_)
    ·exact gI
    ·refine yCp ?_;refine zAf rfl h (fun hb h=>?_) (fun hb h=>?_)
     ·exact gI
     ·refine yCp ?_;refine zAf rfl h (fun hb h=>?_) (fun hb h=>?_)
      ·exact gI
      ·refine yCp ?_;refine zAf rfl h (fun hb h=>?_) (fun hb h=>?_)
       ·exact gI
       ·exact kF
  ·refine zAh hle<|zAf rfl h (fun hb h=>?_) (fun hb h=>?_)
   ·exact jE
   ·exact kP
 ·exact jF
def zQi:Prop:=∃ a0 y0,zEY n a0=some y0/\xs=[nS a0]/\r = .val (nB y0)
def zKy:zAr:=pG zQi
theorem jJ {P:Prop} (h:P:=by replace h:=zAv hb.symm h;intro b hb;subst hb;exact jD):P:=h
theorem jL {P:Prop} (h:P:=by replace h:=zAv hb.symm h;intro b hb;subst hb;intro b hb;subst hb;exact jD):P:=h
theorem jR {P:Prop} (h:P:=by refine zAh hle<|zAd ?_;exact jB):P:=h
theorem jW {P:Prop} (h:P:=by replace h:=zAv hb.symm h;intro b hb;subst hb;intro b hb;subst hb;intro b hb;subst hb;exact jD):P:=h
theorem zO1:PSound prog 80 zKy:=by
 have gok:=gk1 zN3<|gk1 zKe<|gk1 zN2<|gk1 zJM<|gk0
 refine psq tokW call80 func80 rfl ?_;rintro xs r w0 G0 ⟨n,s1,y0,h,rfl,rfl⟩ _;rw[zEY]at h;refine yCp ?_;refine zAa<|yCp ?_;refine zAf rfl h (fun hb h=>?_) (fun hb h=>?_)
 ·refine zAa ?_;obtain⟨x2,hj,h⟩:=zAc h;refine pL [(2,nB x2)] ?_ (fun σ' hle=>?_)
  ·replace h:=hj;refine zAb [] [8] rfl ?_;obtain⟨y3,hy3,h⟩:=zAc h;refine⟨_,⟨_,_,_,hy3,rfl,rfl⟩,?_⟩
   intro b hb;cases b with
   | true =>
    exact jG
   | false =>
    replace h:=zAv hb.symm h;obtain⟨y4,hy4,h⟩:=zAc h;refine⟨_,⟨_,_,_,hy4,rfl,rfl⟩,?_⟩
    exact jD
  ·exact jR
 ·refine zAe<|zAa ?_;obtain⟨x5,hj,h⟩:=zAc h;refine pL [(2,nB x5)] ?_ (fun σ' hle=>?_)
  ·replace h:=hj;refine zAb [] [15,20,24,29] rfl ?_;intro b hb;cases b with
   | true =>
    replace h:=zAw hb.symm h;intro b hb;cases b with
    | true =>
     replace h:=zAw hb.symm h;obtain⟨y6,hy6,h⟩:=zAc h;refine⟨_,⟨_,_,_,hy6,rfl,rfl⟩,?_⟩
     intro b hb;cases b with
     | true =>
      replace h:=zAw hb.symm h;obtain⟨y7,hy7,h⟩:=zAc h;refine⟨_,⟨_,_,hy7,rfl,rfl⟩,?_⟩
      intro b hb;cases b with
      | true =>
       replace h:=zAw hb.symm h;obtain⟨y8,hy8,h⟩:=zAc h;refine⟨_,⟨_,_,hy8,rfl,rfl⟩,?_⟩
       exact jD
      | false =>
       exact jI
     | false =>
      exact jJ
    | false =>
     exact jL
   | false =>
    exact jW
  ·exact jR
def zLp (xs:List AV) (r:Ret):Prop:=∃ a0 a1 y0 y1 y2,zCY a0 a1=some (y0,y1,y2)/\xs=[nS a0,nS a1]/\r = .val (.tup [nS y0,nS y1,nB y2])
def zHl:zAr:=zAu fun xs r=>zLp xs r
theorem jK {P:Prop} (h:P:=by obtain⟨hj1,hk1⟩:=pij h;subst hj1;obtain⟨hj2,hk2⟩:=Prod.mk.inj hk1;subst hj2;subst hk2;exact fin0 rfl rfl):P:=h
theorem zK6:PSound prog 196 zHl:=by
 have gok:=gk1 zF0<|gk0
 refine psq tokW call196 func196 rfl ?_;rintro xs r w0 G0 ⟨s1,sep2,y0,y1,y2,h,rfl,rfl⟩ _;rw[zCY]at h;refine yCp ?_;refine zAa<|yCp ?_;obtain⟨y3,hy3,h⟩:=zAc h;refine⟨_,⟨_,_,_,hy3,rfl,rfl⟩,?_⟩
 refine yCp ?_;refine zAf rfl h (fun hb h=>?_) (fun hb h=>?_)
 ·refine zAa<|zAC [] [] [] rfl (by decide +kernel) ?_;obtain⟨hq,h⟩:=zAx h;refine And.intro hq ?_;obtain⟨hq,h⟩:=zAx h;refine And.intro hq ?_;refine zAd ?_;exact jK
 ·refine zAe<|yCp ?_;refine zAd ?_;exact jK
def zQp (xs:List AV) (r:Ret):Prop:=∃ a0 a1 y0 y1 y2,zE2 a0 a1=some (y0,y1,y2)/\xs=[nS a0,nS a1]/\r = .val (.tup [nS y0,nS y1,nB y2])
def zKE:zAr:=zAu fun xs r=>zQp xs r
theorem zO5:PSound prog 144 zKE:=by
 have gok:=gk1 zK6<|gk0
 refine psq tokW call144 func144 rfl ?_;rintro xs r w0 G0 ⟨s1,sep2,y0,y1,y2,h,rfl,rfl⟩ _;rw[zE2]at h;refine yCp ?_;refine yCp ?_;obtain⟨⟨y3,y4,y5⟩,hy3,h⟩:=zAc h;refine⟨_,⟨_,_,_,_,_,hy3,rfl,rfl⟩,?_⟩
 refine zAd ?_;exact jK
def zQk:Prop:=∃ a0 y0,zD1 n a0=some y0/\xs=[nS a0]/\r = .val (nB y0)
def zKz:zAr:=pG zQk
theorem jX {P:Prop} (h:P:=by replace h:=zAv hb.symm h;obtain⟨c6,hc6,h⟩:=zAc h;refine And.intro (zCl hc6).1 ?_;intro v7 hv7;obtain rfl:(c6.toNat:Int)=v7:=(hv7.trans (zCl hc6).2).symm;exact jD):P:=h
theorem zO2:PSound prog 145 zKz:=by
 have gok:=@gok0 prog;refine psq tokW call145 func145 rfl ?_;rintro xs r w0 G0 ⟨n,s1,y0,h,rfl,rfl⟩ _;rw[zD1]at h;refine yCp ?_;refine zAa<|yCp ?_;show Tri ..;obtain⟨fl,hl,ho1⟩:=zAc h;refine zB3 (fl:=fl) (fun z=>match z with | _=>⟨ofL [(0,nS s1)],fun _=>none,0⟩) ?_ (fun z σ' hz hle=>?_)
 ·refine zAk (zAA (X:=Nat×Int) (fun y=>match y with | (k,i2)=>⟨ofL [(0,nS s1),(3,nI i2)],fun _=>none,0⟩) (fun y=>zBM s1 y.1 y.2=some fl) (fun y=>y.1) (n,0) hl ?_ ?_)
  ·exact Le.fgt
  ·rintro⟨k,i2⟩ h;cases k with
   | zero=>cases h
   | succ k =>
    replace h:zBM s1 (k+1) i2=some fl:=h;rw[zBM]at h;refine zAa<|yCp ?_;refine zAf rfl h (fun hb h=>?_) (fun hb h=>?_)
    ·refine zAe<|zAa<|zAk<|zAa ?_;obtain⟨x3,hj,h⟩:=zAc h;refine pL [(0,nS s1),(3,nI i2),(19,nB x3)] ?_ (fun σ' hle=>?_)
     ·replace h:=hj;refine zAb [] [12,14,17] rfl ?_;obtain⟨c4,hc4,h⟩:=zAc h;refine And.intro (zCl hc4).1 ?_;intro v5 hv5;obtain rfl:(c4.toNat:Int)=v5:=(hv5.trans (zCl hc4).2).symm;intro b hb;cases b with
      | true =>
       exact jG
      | false =>
       exact jX
     ·refine zAh hle<|zAf rfl h (fun hb h=>?_) (fun hb h=>?_)
      ·exact jE
      ·exact gP
    ·exact gV
 ·exact jF
def zQh:Prop:=∃ a0 y0,zDZ n a0=some y0/\xs=[nS a0]/\r = .val (nB y0)
def zKx:zAr:=pG zQh
theorem zO0:PSound prog 81 zKx:=by
 have gok:=gk1 zO5<|gk1 zO2<|gk0
 refine psq tokW call81 func81 rfl ?_;rintro xs r w0 G0 ⟨n,s1,y0,h,rfl,rfl⟩ _;rw[zDZ]at h;refine yCp ?_;refine yCp ?_;obtain⟨⟨y2,y3,y4⟩,hy2,h⟩:=zAc h;refine⟨_,⟨_,_,_,_,_,hy2,rfl,rfl⟩,?_⟩
 refine zAa ?_;obtain⟨x5,hj,h⟩:=zAc h;refine pL [(2,nB x5)] ?_ (fun σ' hle=>?_)
 ·replace h:=hj;refine zAb [] [15,19,22] rfl ?_;intro b hb;cases b with
  | true =>
   replace h:=zAw hb.symm h;obtain⟨y6,hy6,h⟩:=zAc h;refine⟨_,⟨_,_,_,hy6,rfl,rfl⟩,?_⟩
   intro b hb;cases b with
   | true =>
    replace h:=zAw hb.symm h;intro b hb;cases b with
    | true =>
     exact jG
    | false =>
     replace h:=zAv hb.symm h;obtain⟨y7,hy7,h⟩:=zAc h;refine⟨_,⟨_,_,_,hy7,rfl,rfl⟩,?_⟩
     exact jD
   | false =>
    exact jI
  | false =>
   exact jJ
 ·exact jR
def zRX:Prop:=∃ a0 y0,zFF n a0=some y0/\xs=[nS a0]/\r = .val (nB y0)
def zL1:zAr:=pG zRX
theorem zQ9:PSound prog 82 zL1:=by
 have gok:=@gok0 prog;refine psq tokW call82 func82 rfl ?_;rintro xs r w0 G0 ⟨n,s1,y0,h,rfl,rfl⟩ _;rw[zFF]at h;refine yCp ?_;refine zAa<|yCp ?_;show Tri ..;obtain⟨fl,hl,ho1⟩:=zAc h;refine zB3 (fl:=fl) (fun z=>match z with | _=>⟨ofL [(0,nS s1)],fun _=>none,0⟩) ?_ (fun z σ' hz hle=>?_)
 ·refine zAk (zAA (X:=Nat×Int) (fun y=>match y with | (k,i2)=>⟨ofL [(0,nS s1),(3,nI i2)],fun _=>none,0⟩) (fun y=>zBS s1 y.1 y.2=some fl) (fun y=>y.1) (n,0) hl ?_ ?_)
  ·exact Le.fgt
  ·rintro⟨k,i2⟩ h;cases k with
   | zero=>cases h
   | succ k =>
    replace h:zBS s1 (k+1) i2=some fl:=h;rw[zBS]at h;refine zAa<|yCp ?_;refine zAf rfl h (fun hb h=>?_) (fun hb h=>?_)
    ·refine zAe<|zAa<|zAk<|zAa ?_;obtain⟨x3,hj,h⟩:=zAc h;refine pL [(0,nS s1),(3,nI i2),(19,nB x3)] ?_ (fun σ' hle=>?_)
     ·replace h:=hj;refine zAb [] [12,14,17] rfl ?_;obtain⟨c4,hc4,h⟩:=zAc h;refine And.intro (zCl hc4).1 ?_;intro v5 hv5;obtain rfl:(c4.toNat:Int)=v5:=(hv5.trans (zCl hc4).2).symm;intro b hb;cases b with
      | true =>
       exact jG
      | false =>
       exact jX
     ·refine zAh hle<|zAf rfl h (fun hb h=>?_) (fun hb h=>?_)
      ·exact jE
      ·exact gP
    ·exact gV
 ·exact jF
def zRV (xs:List AV) (r:Ret):Prop:=∃ a0 y0,zFE a0=some y0/\xs=[nS a0]/\r = .val (nB y0)
def zLZ:zAr:=zAu fun xs r=>zRV xs r
theorem zQ7:PSound prog 84 zLZ:=by
 have gok:=gk1 zJu<|gk0
 refine psq tokW call84 func84 rfl ?_;rintro xs r w0 G0 ⟨s1,y0,h,rfl,rfl⟩ _;rw[zFE]at h;refine yCp ?_;refine zAa ?_;obtain⟨x2,hj,h⟩:=zAc h;refine pL [(2,nB x2)] ?_ (fun σ' hle=>?_)
 ·replace h:=hj;refine zAb [] [6,8,12,14] rfl ?_;intro b hb;cases b with
  | true =>
   replace h:=zAw hb.symm h;obtain⟨c3,hc3,h⟩:=zAc h;refine And.intro (zCl hc3).1 ?_;intro v4 hv4;obtain rfl:(c3.toNat:Int)=v4:=(hv4.trans (zCl hc3).2).symm;obtain⟨y5,hy5,h⟩:=zAc h;refine⟨_,⟨_,_,_,hy5,rfl,rfl⟩,?_⟩
   intro b hb;cases b with
   | true =>
    replace h:=zAw hb.symm h;obtain⟨c6,hc6,h⟩:=zAc h;refine And.intro (zCl hc6).1 ?_;intro v7 hv7;obtain rfl:(c6.toNat:Int)=v7:=(hv7.trans (zCl hc6).2).symm;obtain⟨y8,hy8,h⟩:=zAc h;refine⟨_,⟨_,_,_,hy8,rfl,rfl⟩,?_⟩
    exact jD
   | false =>
    exact jI
  | false =>
   exact jJ
 ·exact jR
def zBu (p:Unit):List S:=[.str [],.int .i64 0,.nf,.str [114,111,119],.int .i64 0,.fn 79,.str [115,121,109],.int .i64 0,.fn 80,.str [110,117,109],.int .i64 0,.fn 81,.str [116,101,120,116],.int .i64 0,.fn 82,.str [102,114,97,99],.int .i64 2,.fn 79,.str [114,111,111,116],.int .i64 2,.fn 79,.str [115,117,98],.int .i64 2,.fn 79,.str [115,117,112],.int .i64 2,.fn 79,.str [98,111,116,104],.int .i64 3,.fn 79,.str [97,99,99,101,110,116],.int .i64 1,.fn 83,.str [102,101,110,99,101],.int .i64 1,.fn 84,.str [109,97,116,114,105,120],.int .i64 0,.fn 79]
def zRW (xs:List AV) (r:Ret):Prop:=∃ y0,zGY=some y0/\xs=[]/\r = .val (.agg ((zBu y0).map .s))
def zL0:zAr:=zAu fun xs r=>zRW xs r
theorem zQ8:PSound prog 49 zL0:=by
 have gok:=@gok0 prog;refine psq tokW call49 func49 rfl ?_;rintro xs r w0 G0 ⟨y0,h,rfl,rfl⟩ _;rw[zGY]at h;refine yBn [0] [] rfl ?_;exact gG
def zAS (p:(Unit×Int)):List S:=[.str [],.int .i64 0,.nf,.str [114,111,119],.int .i64 0,.fn 79,.str [115,121,109],.int .i64 0,.fn 80,.str [110,117,109],.int .i64 0,.fn 81,.str [116,101,120,116],.int .i64 0,.fn 82,.str [102,114,97,99],.int .i64 2,.fn 79,.str [114,111,111,116],.int .i64 2,.fn 79,.str [115,117,98],.int .i64 2,.fn 79,.str [115,117,112],.int .i64 2,.fn 79,.str [98,111,116,104],.int .i64 3,.fn 79,.str [97,99,99,101,110,116],.int .i64 1,.fn 83,.str [102,101,110,99,101],.int .i64 1,.fn 84,.str [109,97,116,114,105,120],.int .i64 0,.fn 79,.int .i64 p.2]
def zKp (n:Nat) (xs:List AV) (os:List Ob) (x:AV) (os':List (Option Ob)):Prop:=∃ a0 a1 y0 z0,zCF n a0 a1=some (y0,z0)/\xs=[.op 0 0,.s (.pt (Nd.enc a1))]/\os=[.box 118 ((zAS a0).map .s)]/\x = .s (.bool y0)/\os'=[some (.box 118 ((zAS z0).map .s))]
def zGU:zAr:=zEA (fun xs os x os'=>∃ n,zKp n xs os x os')
abbrev kq0 (a:AV):List AV:=[.s (.str []),nI 0,.s (.nf),.s (.str [114,111,119]),nI 0,.s (.fn 79),.s (.str [115,121,109]),nI 0,.s (.fn 80),.s (.str [110,117,109]),nI 0,.s (.fn 81),.s (.str [116,101,120,116]),nI 0,.s (.fn 82),.s (.str [102,114,97,99]),nI 2,.s (.fn 79),.s (.str [114,111,111,116]),nI 2,.s (.fn 79),.s (.str [115,117,98]),nI 2,.s (.fn 79),.s (.str [115,117,112]),nI 2,.s (.fn 79),.s (.str [98,111,116,104]),nI 3,.s (.fn 79),.s (.str [97,99,99,101,110,116]),nI 1,.s (.fn 83),.s (.str [102,101,110,99,101]),nI 1,.s (.fn 84),.s (.str [109,97,116,114,105,120]),nI 0,.s (.fn 79),a]
theorem jC {P:Prop} (h:P:=by cases h;exact(Le.rnq [(0,0)] _ _ _)):P:=h
theorem jT {P:Prop} (h:P:=by replace h:=zAw hb.symm h;exact jC):P:=h
theorem jV {P:Prop} (h:P:=by refine And.intro (by decide) ?_;exact jC):P:=h
theorem gB {P:Prop} (h:P:=by replace h:=zAv hb.symm h;exact jC):P:=h
theorem gY {P:Prop} (h:P:=by intro b hb;subst hb;exact jC):P:=h
theorem zKc:PSound prog 85 zGU:=by
 have gok:=gk1 zQ6<|gk1 zO1<|gk1 zO0<|gk1 zQ9<|gk1 zJM<|gk1 zQ7<|gk0
 refine PSound.withNil (osq tokW call85 func85 rfl ?_) _;rintro xs os x os' w0 G0 B0 ⟨n,⟨_,o1G⟩,⟨a2A,a2C,a2D,a2B⟩,y0,z0,h,rfl,rfl,rfl,rfl⟩ _;rw[zCF]at h;refine yCp ?_;refine zAa<|zAa ?_;obtain⟨x3,hj,h⟩:=zAc h;refine zAm ⟨ofL [(0,.op 0 0),(1,pN a2A a2C a2D a2B),(34,nB x3)],ofH [(0,.box 118 (kq0 (nI o1G)))],1⟩ ?_ (fun σ' hle=>?_)
 ·replace h:=hj;refine zAC [] [10,17,22] [22] rfl (by decide +kernel) ?_;intro b hb;cases b with
  | true =>
   replace h:=zAw hb.symm h;exact gY
  | false =>
   replace h:=zAv hb.symm h;intro b hb;cases b with
   | true =>
    exact jT
   | false =>
    replace h:=zAv hb.symm h;intro vsp hvsp;cases hc:(a2A == 1) with
    | true =>
     replace h:=zAw hc h;obtain rfl:(1:Int)=vsp:=(hvsp.trans (eq_of_beq hc)).symm;refine And.intro (by decide) ?_;obtain⟨y4,hy4,h⟩:=zAc h;refine⟨_,⟨_,_,hy4,rfl,rfl⟩,?_⟩
     exact jC
    | false =>
     replace h:=zAv hc h;cases hc:(a2A == 2) with
     | true =>
      replace h:=zAw hc h;obtain rfl:(2:Int)=vsp:=(hvsp.trans (eq_of_beq hc)).symm;refine And.intro (by decide) ?_;obtain⟨y5,hy5,h⟩:=zAc h;refine⟨_,⟨_,_,_,hy5,rfl,rfl⟩,?_⟩
      exact jC
     | false =>
      replace h:=zAv hc h;cases hc:(a2A == 3) with
      | true =>
       replace h:=zAw hc h;obtain rfl:(3:Int)=vsp:=(hvsp.trans (eq_of_beq hc)).symm;refine And.intro (by decide) ?_;obtain⟨y6,hy6,h⟩:=zAc h;refine⟨_,⟨_,_,_,hy6,rfl,rfl⟩,?_⟩
       exact jC
      | false =>
       replace h:=zAv hc h;cases hc:(a2A == 4) with
       | true =>
        replace h:=zAw hc h;obtain rfl:(4:Int)=vsp:=(hvsp.trans (eq_of_beq hc)).symm;refine And.intro (by decide) ?_;obtain⟨y7,hy7,h⟩:=zAc h;refine⟨_,⟨_,_,_,hy7,rfl,rfl⟩,?_⟩
        exact jC
       | false =>
        replace h:=zAv hc h;cases hc:(a2A == 5) with
        | true =>
         replace h:=zAw hc h;obtain rfl:(5:Int)=vsp:=(hvsp.trans (eq_of_beq hc)).symm;refine And.intro (by decide) ?_;obtain⟨y8,hy8,h⟩:=zAc h;refine⟨_,⟨_,_,hy8,rfl,rfl⟩,?_⟩
         exact jC
        | false =>
         replace h:=zAv hc h;cases hc:(a2A == 6) with
         | true =>
          replace h:=zAw hc h;obtain rfl:(6:Int)=vsp:=(hvsp.trans (eq_of_beq hc)).symm;refine And.intro (by decide) ?_;obtain⟨y9,hy9,h⟩:=zAc h;refine⟨_,⟨_,_,hy9,rfl,rfl⟩,?_⟩
          exact jC
         | false =>
          replace h:=zAv hc h;cases hc:(a2A == 7) with
          | true =>
           replace h:=zAw hc h;obtain rfl:(7:Int)=vsp:=(hvsp.trans (eq_of_beq hc)).symm;refine And.intro (by decide) ?_;obtain⟨y10,hy10,h⟩:=zAc h;refine⟨_,⟨_,_,hy10,rfl,rfl⟩,?_⟩
           exact jC
          | false =>
           replace h:=zAv hc h;cases hc:(a2A == 8) with
           | true =>
            replace h:=zAw hc h;obtain rfl:(8:Int)=vsp:=(hvsp.trans (eq_of_beq hc)).symm;refine And.intro (by decide) ?_;obtain⟨y11,hy11,h⟩:=zAc h;refine⟨_,⟨_,_,hy11,rfl,rfl⟩,?_⟩
            exact jC
           | false =>
            replace h:=zAv hc h;cases hc:(a2A == 9) with
            | true =>
             replace h:=zAw hc h;obtain rfl:(9:Int)=vsp:=(hvsp.trans (eq_of_beq hc)).symm;refine And.intro (by decide) ?_;obtain⟨y12,hy12,h⟩:=zAc h;refine⟨_,⟨_,_,hy12,rfl,rfl⟩,?_⟩
             exact jC
            | false =>
             replace h:=zAv hc h;cases hc:(a2A == 10) with
             | true =>
              replace h:=zAw hc h;obtain rfl:(10:Int)=vsp:=(hvsp.trans (eq_of_beq hc)).symm;refine And.intro (by decide) ?_;obtain⟨y13,hy13,h⟩:=zAc h;refine⟨_,⟨_,_,hy13,rfl,rfl⟩,?_⟩
              exact jC
             | false =>
              replace h:=zAv hc h;cases hc:(a2A == 11) with
              | true =>
               replace h:=zAw hc h;obtain rfl:(11:Int)=vsp:=(hvsp.trans (eq_of_beq hc)).symm;refine And.intro (by decide) ?_;obtain⟨y14,hy14,h⟩:=zAc h;refine⟨_,⟨_,_,hy14,rfl,rfl⟩,?_⟩
               exact jC
              | false =>
               replace h:=zAv hc h;cases hc:(a2A == 12) with
               | true =>
                replace h:=zAw hc h;obtain rfl:(12:Int)=vsp:=(hvsp.trans (eq_of_beq hc)).symm;refine And.intro (by decide) ?_;obtain⟨y15,hy15,h⟩:=zAc h;refine⟨_,⟨_,_,hy15,rfl,rfl⟩,?_⟩
                exact jC
               | false =>
                replace h:=zAv hc h;cases h
 ·refine zAh hle<|zAf rfl h (fun hb h=>?_) (fun hb h=>?_)
  ·refine yCp ?_;refine zAd ?_;obtain⟨hj1,hk1⟩:=pij h;subst hj1 hk1;unfold zDz;exact⟨_,(Le.rnq [(0,0)] [(4,nB false)] [(0,.box 118 (kq0 (nI o1G)))] 1),rfl,rfl,rfl,rfl,trivial⟩
  ·refine zAe<|zAa<|yCp ?_;refine zAk<|yCp ?_;refine zAf rfl h (fun hb h=>?_) (fun hb h=>?_)
   ·refine zAa ?_;obtain⟨x16,hj,h⟩:=zAc h;refine zAm ⟨ofL [(4,nB x16)],ofH [(0,.box 118 (kq0 (nI o1G)))],1⟩ ?_ (fun σ' hle=>?_)
    ·replace h:=hj;refine zAb [] [46,51] rfl ?_;intro b hb;cases b with
     | true =>
      replace h:=zAw hb.symm h;intro n17 hn17;obtain rfl:=rlE Nd.encs_eq a2B hn17;exact jC
     | false =>
      exact gB
    ·refine zAh hle<|zAd ?_;obtain⟨hj1,hk1⟩:=pij h;subst hj1 hk1;unfold zDz;exact⟨_,(Le.rnq [(0,0)] [(4,nB x16)] [(0,.box 118 (kq0 (nI o1G)))] 1),rfl,rfl,rfl,rfl,trivial⟩
   ·refine yCp ?_;refine zAf rfl h (fun hb h=>?_) (fun hb h=>?_)
    ·refine zAa ?_;obtain⟨x18,hj,h⟩:=zAc h;refine zAm ⟨ofL [(4,nB x18)],ofH [(0,.box 118 (kq0 (nI o1G)))],1⟩ ?_ (fun σ' hle=>?_)
     ·replace h:=hj;refine zAC [] [61,68,73,76,81,84,89] [] rfl (by decide +kernel) ?_;intro b hb;cases b with
      | true =>
       replace h:=zAw hb.symm h;intro b hb;cases b with
       | true =>
        replace h:=zAw hb.symm h;intro n19 hn19;obtain rfl:=rlE Nd.encs_eq a2B hn19;intro b hb;cases b with
        | true =>
         replace h:=zAw hb.symm h;intro n20 hn20;obtain rfl:=rlE Nd.encs_eq a2B hn20;intro b hb;cases b with
         | true =>
          replace h:=zAw hb.symm h;intro n21 hn21;obtain rfl:=rlE Nd.encs_eq a2B hn21;obtain⟨hq,h⟩:=zAx h;refine And.intro hq ?_;exact jC
         | false =>
          exact gB
        | false =>
         replace h:=zAv hb.symm h;exact gY
       | false =>
        replace h:=zAv hb.symm h;intro b hb;subst hb;exact gY
      | false =>
       replace h:=zAv hb.symm h;intro b hb;subst hb;intro b hb;subst hb;exact gY
     ·refine zAh hle<|zAd ?_;obtain⟨hj1,hk1⟩:=pij h;subst hj1 hk1;unfold zDz;exact⟨_,(Le.rnq [(0,0)] [(4,nB x18)] [(0,.box 118 (kq0 (nI o1G)))] 1),rfl,rfl,rfl,rfl,trivial⟩
    ·refine zAe<|zAa ?_;obtain⟨x22,hj,h⟩:=zAc h;refine zAm ⟨ofL [(4,nB x22)],ofH [(0,.box 118 (kq0 (nI o1G)))],1⟩ ?_ (fun σ' hle=>?_)
     ·replace h:=hj;refine zAC [] [102,107,112] [20] rfl (by decide +kernel) ?_;intro b hb;cases b with
      | true =>
       replace h:=zAw hb.symm h;intro n23 hn23;obtain rfl:=rlE Nd.encs_eq a2B hn23;intro vsp hvsp;cases hc:(a2A == 1) with
       | true =>
        replace h:=zAw hc h;obtain rfl:(1:Int)=vsp:=(hvsp.trans (eq_of_beq hc)).symm;exact jV
       | false =>
        replace h:=zAv hc h;cases hc:(a2A == 2) with
        | true =>
         replace h:=zAw hc h;obtain rfl:(2:Int)=vsp:=(hvsp.trans (eq_of_beq hc)).symm;exact jV
        | false =>
         replace h:=zAv hc h;cases hc:(a2A == 3) with
         | true =>
          replace h:=zAw hc h;obtain rfl:(3:Int)=vsp:=(hvsp.trans (eq_of_beq hc)).symm;exact jV
         | false =>
          replace h:=zAv hc h;cases hc:(a2A == 4) with
          | true =>
           replace h:=zAw hc h;obtain rfl:(4:Int)=vsp:=(hvsp.trans (eq_of_beq hc)).symm;exact jV
          | false =>
           replace h:=zAv hc h;cases hc:(a2A == 5) with
           | true =>
            replace h:=zAw hc h;obtain rfl:(5:Int)=vsp:=(hvsp.trans (eq_of_beq hc)).symm;exact jV
           | false =>
            replace h:=zAv hc h;cases hc:(a2A == 6) with
            | true =>
             replace h:=zAw hc h;obtain rfl:(6:Int)=vsp:=(hvsp.trans (eq_of_beq hc)).symm;exact jV
            | false =>
             replace h:=zAv hc h;cases hc:(a2A == 7) with
             | true =>
              replace h:=zAw hc h;obtain rfl:(7:Int)=vsp:=(hvsp.trans (eq_of_beq hc)).symm;exact jV
             | false =>
              replace h:=zAv hc h;cases hc:(a2A == 8) with
              | true =>
               replace h:=zAw hc h;obtain rfl:(8:Int)=vsp:=(hvsp.trans (eq_of_beq hc)).symm;exact jV
              | false =>
               replace h:=zAv hc h;cases hc:(a2A == 9) with
               | true =>
                replace h:=zAw hc h;obtain rfl:(9:Int)=vsp:=(hvsp.trans (eq_of_beq hc)).symm;exact jV
               | false =>
                replace h:=zAv hc h;cases hc:(a2A == 10) with
                | true =>
                 replace h:=zAw hc h;obtain rfl:(10:Int)=vsp:=(hvsp.trans (eq_of_beq hc)).symm;exact jV
                | false =>
                 replace h:=zAv hc h;cases hc:(a2A == 11) with
                 | true =>
                  replace h:=zAw hc h;obtain rfl:(11:Int)=vsp:=(hvsp.trans (eq_of_beq hc)).symm;exact jV
                 | false =>
                  replace h:=zAv hc h;cases hc:(a2A == 12) with
                  | true =>
                   replace h:=zAw hc h;obtain rfl:(12:Int)=vsp:=(hvsp.trans (eq_of_beq hc)).symm;exact jV
                  | false =>
                   replace h:=zAv hc h;cases h
      | false =>
       exact gB
     ·refine zAh hle<|zAd ?_;obtain⟨hj1,hk1⟩:=pij h;subst hj1 hk1;unfold zDz;exact⟨_,(Le.rnq [(0,0)] [(4,nB x22)] [(0,.box 118 (kq0 (nI o1G)))] 1),rfl,rfl,rfl,rfl,trivial⟩
def zCn (n:Nat) (xs:List AV) (os:List Ob) (x:AV) (os':List (Option Ob)):Prop:=∃ a0 a1 a2 y0 z0,zA1 n a0 a1 a2=some (y0,z0)/\xs=[.op 0 0,.s (.pt (Nd.enc a1)),nI a2]/\os=[.box 118 ((zAS a0).map .s)]/\x = .s (.bool y0)/\os'=[some (.box 118 ((zAS z0).map .s))]
theorem kR {P:Prop} (h:P:=by exact(Le.rnq [(0,0)] _ _ _)):P:=h
theorem zIa (n:Nat) (ih:PSound prog 50 (zEA (zCn n))):PSound prog 50 (zEA (zCn (n+1))):=by
 have gok:=gk1 zKc<|gk1 ih<|gk0
 refine PSound.withNil (osq tokW call50 func50 rfl ?_) _;rintro xs os x os' w0 G0 B0 ⟨⟨_,o1G⟩,⟨a2A,a2C,a2D,a2B⟩,a3,y0,z0,h,rfl,rfl,rfl,rfl⟩ _;rw[zA1]at h;refine yCp ?_;refine yCp ?_;refine zAa<|zAa ?_;obtain⟨⟨x4,x5⟩,hj,h⟩:=zAc h;refine zAm ⟨ofL [(0,.op 0 0),(1,pN a2A a2C a2D a2B),(2,nI a3),(29,nB x4)],ofH [(0,.box 118 (kq0 (nI x5)))],1⟩ ?_ (fun σ' hle=>?_)
 ·replace h:=hj;refine zAb [] [20,24] rfl ?_;intro b hb;cases b with
  | true =>
   replace h:=zAw hb.symm h;exact gY
  | false =>
   replace h:=zAv hb.symm h;intro b hb;cases b with
   | true =>
    exact jT
   | false =>
    replace h:=zAv hb.symm h;obtain⟨⟨y6,⟨_,w7G⟩⟩,hy6,h⟩:=zAc h;refine⟨_,_,⟨_,_,_,_,_,hy6,rfl,rfl,rfl,rfl⟩,?_⟩
    exact jC
 ·refine zAh hle<|zAf rfl h (fun hb h=>?_) (fun hb h=>?_)
  ·refine yCp ?_;refine zAd ?_;obtain⟨hj1,hk1⟩:=pij h;subst hj1 hk1;unfold zDz;exact⟨_,(Le.rnq [(0,0)] [(6,nB false)] [(0,.box 118 (kq0 (nI x5)))] 1),rfl,rfl,rfl,rfl,trivial⟩
  ·refine zAe<|zAa<|yBn [] [34] rfl ?_;intro n8 hn8;obtain rfl:=rlE Nd.encs_eq a2B hn8;show Tri ..;obtain⟨fl,hl,ho1⟩:=zAc h;refine zB3 (fl:=fl) (fun z=>match z with | x11=>⟨ofL [],ofH [(0,.box 118 (kq0 (nI x11)))],1⟩) ?_ (fun x11 σ' hz hle=>?_)
   ·refine zAk (zAA (X:=Nat×Int×Int) (fun y=>match y with | (k,x9,x10)=>⟨ofL [(0,.op 0 0),(1,pN a2A a2C a2D a2B),(2,nI a3),(34,nI (a2B.length:Int)),(35,nI x10)],ofH [(0,.box 118 (kq0 (nI x9)))],1⟩) (fun y=>zAR (zA1 n) a2A a2B a3 y.1 y.2.1 y.2.2=some fl) (fun y=>y.1) (n,x5,0) hl ?_ ?_)
    ·exact kR
    ·rintro⟨k,x9,x10⟩ h;cases k with
     | zero=>cases h
     | succ k =>
      replace h:zAR (zA1 n) a2A a2B a3 (k+1) x9 x10=some fl:=h;rw[zAR]at h;refine yCp ?_;refine zAa<|zAf rfl h (fun hb h=>?_) (fun hb h=>?_)
      ·refine zAe<|zAa<|zAk<|yCp ?_;refine zAa ?_;obtain⟨⟨x12,x13⟩,hj,h⟩:=zAc h;refine zAm ⟨ofL [(0,.op 0 0),(1,pN a2A a2C a2D a2B),(2,nI a3),(34,nI (a2B.length:Int)),(35,nI x10),(65,nB x12)],ofH [(0,.box 118 (kq0 (nI x13)))],1⟩ ?_ (fun σ' hle=>?_)
       ·replace h:=hj;refine zAC [] [48,53,60] [25] rfl (by decide +kernel) ?_;obtain⟨⟨e14A,e14C,e14D,e14B⟩,he14,h⟩:=zAc h;refine And.intro (zAq Nd.encs_eq he14).1 ?_;intro r15 hr15;obtain rfl:(nN e14A e14C e14D e14B)=r15:=(hr15.trans (zAq Nd.encs_eq he14).2.1).symm;intro b hb;cases b with
        | true =>
         exact jT
        | false =>
         replace h:=zAv hb.symm h;obtain⟨⟨e16A,e16C,e16D,e16B⟩,he16,h⟩:=zAc h;refine And.intro (zAq Nd.encs_eq he16).1 ?_;intro r17 hr17;obtain rfl:(nN e16A e16C e16D e16B)=r17:=(hr17.trans (zAq Nd.encs_eq he16).2.1).symm;obtain⟨⟨y18,⟨_,w19G⟩⟩,hy18,h⟩:=zAc h;refine⟨_,_,⟨_,_,_,_,_,hy18,rfl,rfl,rfl,rfl⟩,?_⟩
         exact jC
       ·refine zAh hle<|zAf rfl h (fun hb h=>?_) (fun hb h=>?_)
        ·refine yCp ?_;refine zAd ?_;cases h;replace h:some _=some _:=ho1;obtain⟨hj1,hk1⟩:=pij h;subst hj1 hk1;unfold zDz;exact⟨_,(Le.rnq [(0,0)] [(6,nB false)] [(0,.box 118 (kq0 (nI x13)))] 1),rfl,rfl,rfl,rfl,trivial⟩
        ·refine zAe<|yCo ?_;refine⟨(k,x13,i64.wrap (x10+1)),h,(Le.rnq [(0,0)] _ _ _),Nat.lt_succ_self k⟩
      ·refine zAD ?_;cases h;exact⟨_,rfl,(Le.rnq [(0,0)] _ _ _)⟩
   ·subst hz;replace h:=ho1;refine zAh hle<|yCp ?_;refine zAd ?_;obtain⟨hj1,hk1⟩:=pij h;subst hj1 hk1;unfold zDz;exact⟨_,(Le.rnq [(0,0)] [(6,nB true)] [(0,.box 118 (kq0 (nI x11)))] 1),rfl,rfl,rfl,rfl,trivial⟩
theorem zIs:∀ n,PSound prog 50 (zEA (zCn n)):=by
 intro n
 induction n with
 | zero=>exact zHW call50 (fun xs os x os' h=>by obtain⟨_,_,_,_,_,h,_⟩:=h; cases h) _
 | succ n ih=>exact zIa n ih
def zGj:zAr:=zEA (fun xs os x os'=>∃ n,zCn n xs os x os')
theorem zJq:PSound prog 50 zGj:=zWP zIs _
def zRT:Prop:=∃ a0 y0,zA8 n a0=some y0/\xs=[.agg ((Nd.enc a0).map .s)]/\r = .val (nB y0)
def zDD:zAr:=pG zRT
theorem kA {P:Prop} (h:P:=by cases h;exact(Le.rnq [] _ [] 0)):P:=h
theorem zD9:PSound prog 27 zDD:=by
 have gok:=gk1 zQ8<|gk1 zJq<|gk0
 refine psq tokW call27 func27 rfl ?_;rintro xs r w0 G0 ⟨n,⟨n1A,n1C,n1D,n1B⟩,y0,h,rfl,rfl⟩ _;rw[zA8]at h;refine yCp ?_;refine yBn [6] [] rfl ?_;obtain⟨_,hy2,h⟩:=zAc h;refine⟨_,⟨_,hy2,rfl,rfl⟩,?_⟩
 refine zAa ?_;obtain⟨x3,hj,h⟩:=zAc h;refine pL [(2,nB x3)] ?_ (fun σ' hle=>?_)
 ·replace h:=hj;refine zAb [] [10] rfl ?_;intro b hb;cases b with
  | true =>
   replace h:=zAw hb.symm h;obtain⟨⟨y4,⟨_,w5G⟩⟩,hy4,h⟩:=zAc h;refine⟨_,_,⟨_,_,_,_,_,_,hy4,rfl,rfl,rfl,rfl⟩,?_⟩
   exact kA
  | false =>
   replace h:=zAv hb.symm h;exact kA
 ·exact jR
def zLo:Prop:=∃ a0 y0,zCm n a0=some y0/\xs=[.s (.sl 4 (Nd.encs a0))]/\r = .val (nB y0)
def zFa:zAr:=pG zLo
theorem zG0:PSound prog 178 zFa:=by
 have gok:=gk1 zD9<|gk0
 refine psq tokW call178 func178 rfl ?_;rintro xs r w0 G0 ⟨n,l1,y0,h,rfl,rfl⟩ _;rw[zCm]at h;refine yCp ?_;refine yCp ?_;obtain⟨y2,hy2,h⟩:=zAc h;refine⟨_,⟨_,_,_,hy2,rfl,rfl⟩,?_⟩
 exact jM
def zRS (xs:List AV) (r:Ret):Prop:=∃ a0 y0,zDJ a0=some y0/\xs=[.agg ((Nd.enc a0).map .s)]/\r = .val (nI y0)
def zGT:zAr:=zAu fun xs r=>zRS xs r
theorem zHV:PSound prog 217 zGT:=by
 have gok:=@gok0 prog;refine psq tokW call217 func217 rfl ?_;rintro xs r w0 G0 ⟨⟨n1A,n1C,n1D,n1B⟩,y0,h,rfl,rfl⟩ _;rw[zDJ]at h;refine yCp ?_;refine zAa<|yCp ?_;refine zAf rfl h (fun hb h=>?_) (fun hb h=>?_)
 ·exact gG
 ·refine zAe<|yBn [] [8] rfl ?_;intro n2 hn2;obtain rfl:=rlE Nd.encs_eq n1B hn2;exact jM
def zR0 (xs:List AV) (r:Ret):Prop:=∃ a0 y0,zEL a0=some y0/\xs=[.s (.int .u8 a0)]/\r = .val (nB y0)
def zIl:zAr:=zAu fun xs r=>zR0 xs r
theorem zK3:PSound prog 202 zIl:=by
 have gok:=@gok0 prog;refine psq tokW call202 func202 rfl ?_;rintro xs r w0 G0 ⟨c1,y0,h,rfl,rfl⟩ _;rw[zEL]at h;refine yCp ?_;refine zAa ?_;obtain⟨x2,hj,h⟩:=zAc h;refine pL [(2,nB x2)] ?_ (fun σ' hle=>?_)
 ·replace h:=hj;refine zAb [] [5,9,12] rfl ?_;intro b hb;cases b with
  | true =>
   replace h:=zAw hb.symm h;intro b hb;cases b with
   | true =>
    exact jG
   | false =>
    replace h:=zAv hb.symm h;intro b hb;cases b with
    | true =>
     exact jG
    | false =>
     exact jI
  | false =>
   replace h:=zAv hb.symm h;intro b hb;subst hb;intro b hb;cases b with
   | true =>
    exact jG
   | false =>
    exact jI
 ·exact jR
def zXe:Prop:=∃ a0 a1 y0,zDM n a0 a1=some y0/\xs=[nS a0,.s (.int .u8 a1)]/\r = .val (nB y0)
def zNi:zAr:=pG zXe
theorem gQ {P:Prop} (h:P:=by refine zAe<|yCo ?_;refine⟨(k,i64.wrap (i3+1)),h,Le.fgt,Nat.lt_succ_self k⟩):P:=h
theorem zPQ:PSound prog 162 zNi:=by
 have gok:=@gok0 prog;refine psq tokW call162 func162 rfl ?_;rintro xs r w0 G0 ⟨n,s1,c2,y0,h,rfl,rfl⟩ _;rw[zDM]at h;refine yCp ?_;refine zAa<|yCp ?_;show Tri ..;obtain⟨fl,hl,ho1⟩:=zAc h;refine zB3 (fl:=fl) (fun z=>match z with | _=>⟨ofL [],fun _=>none,0⟩) ?_ (fun z σ' hz hle=>?_)
 ·refine zAk (zAA (X:=Nat×Int) (fun y=>match y with | (k,i3)=>⟨ofL [(0,nS s1),(1,.s (.int .u8 c2)),(5,nI i3)],fun _=>none,0⟩) (fun y=>zCZ s1 c2 y.1 y.2=some fl) (fun y=>y.1) (n,0) hl ?_ ?_)
  ·exact Le.fgt
  ·rintro⟨k,i3⟩ h;cases k with
   | zero=>cases h
   | succ k =>
    replace h:zCZ s1 c2 (k+1) i3=some fl:=h;rw[zCZ]at h;refine zAa<|yCp ?_;refine zAf rfl h (fun hb h=>?_) (fun hb h=>?_)
    ·refine zAe<|zAa<|zAk<|yBn [] [14] rfl ?_;obtain⟨c4,hc4,h⟩:=zAc h;refine And.intro (zCl hc4).1 ?_;intro v5 hv5;obtain rfl:(c4.toNat:Int)=v5:=(hv5.trans (zCl hc4).2).symm;refine zAf rfl h (fun hb h=>?_) (fun hb h=>?_)
     ·exact jE
     ·exact gQ
    ·exact gV
 ·exact jF
def zM9:Prop:=∃ a0 y0,zEZ n a0=some y0/\xs=[.s (.int .u8 a0)]/\r = .val (nB y0)
def zIk:zAr:=pG zM9
theorem zMM:PSound prog 201 zIk:=by
 have gok:=gk1 zK3<|gk1 zPQ<|gk0
 refine psq tokW call201 func201 rfl ?_;rintro xs r w0 G0 ⟨n,c1,y0,h,rfl,rfl⟩ _;rw[zEZ]at h;refine yCp ?_;refine zAa ?_;obtain⟨x2,hj,h⟩:=zAc h;refine pL [(2,nB x2)] ?_ (fun σ' hle=>?_)
 ·replace h:=hj;refine zAb [] [5] rfl ?_;obtain⟨y3,hy3,h⟩:=zAc h;refine⟨_,⟨_,_,hy3,rfl,rfl⟩,?_⟩
  intro b hb;cases b with
  | true =>
   exact jG
  | false =>
   replace h:=zAv hb.symm h;obtain⟨y4,hy4,h⟩:=zAc h;refine⟨_,⟨_,_,_,_,hy4,rfl,rfl⟩,?_⟩
   exact jD
 ·exact jR
def zBY (p:List UInt8):List S:=[.str p]
def zOL (xs:List AV) (r:Ret):Prop:=∃ y0,zFq=some y0/\xs=[]/\r = .val (.s (.sl 1 ((List.map zBY) y0)))
def zJA:zAr:=zAu fun xs r=>zOL xs r
theorem yB2 {α:Type}{a b:α} (h:a=b:=by simp[map_append,map_take,map_drop,irow,brow,zF1,map_cons,map_nil,zFx,Nd.encs_eq,Nd.enc,zBu,zAS,zBY]):a=b :=
 h
theorem zN5:PSound prog 203 zJA:=by
 have gok:=@gok0 prog;refine psq tokW call203 func203 rfl ?_;rintro xs r w0 G0 ⟨y0,h,rfl,rfl⟩ _;rw[zFq]at h;refine yCp ?_;refine yBn [] [1] rfl ?_;intro r1 hr1;obtain rfl:(List.map zBY) [[102,114,97,99],[114,111,111,116],[109,97,116,114,105,120],[102,101,110,99,101]]=r1:=(hr1.trans yB2).symm;refine zAd ?_;have hy:=osi h;subst hy;unfold zBK
 exact gR
def zY5:Prop:=∃ a0 a1 y0,zFp n a0 a1=some y0/\xs=[.s (.sl 1 ((List.map zBY) a0)),nS a1]/\r = .val (nB y0)
def zQr:zAr:=pG zY5
theorem zTk:PSound prog 160 zQr:=by
 have gok:=@gok0 prog;refine psq tokW call160 func160 rfl ?_;rintro xs r w0 G0 ⟨n,l1,s2,y0,h,rfl,rfl⟩ _;rw[zFp]at h;refine yCp ?_;refine zAa<|yCp ?_;show Tri ..;obtain⟨fl,hl,ho1⟩:=zAc h;refine zB3 (fl:=fl) (fun z=>match z with | _=>⟨ofL [],fun _=>none,0⟩) ?_ (fun z σ' hz hle=>?_)
 ·refine zAk (zAA (X:=Nat×Int) (fun y=>match y with | (k,i3)=>⟨ofL [(0,.s (.sl 1 ((List.map zBY) l1))),(1,nS s2),(5,nI i3)],fun _=>none,0⟩) (fun y=>zDK l1 s2 y.1 y.2=some fl) (fun y=>y.1) (n,0) hl ?_ ?_)
  ·exact Le.fgt
  ·rintro⟨k,i3⟩ h;cases k with
   | zero=>cases h
   | succ k =>
    replace h:zDK l1 s2 (k+1) i3=some fl:=h;rw[zDK]at h;refine zAa<|yBn [] [8] rfl ?_;intro n4 hn4;obtain rfl:=rlE (fun _=>rfl) l1 hn4;refine zAf rfl h (fun hb h=>?_) (fun hb h=>?_)
    ·refine zAe<|zAa<|zAk<|yBn [] [14] rfl ?_;obtain⟨e5,he5,h⟩:=zAc h;refine And.intro (zAq (fun _=>rfl) he5).1 ?_;intro r6 hr6;obtain rfl:[.str e5]=r6:=(hr6.trans (zAq (fun _=>rfl) he5).2.1).symm;refine zAf rfl h (fun hb h=>?_) (fun hb h=>?_)
     ·exact jE
     ·exact gQ
    ·exact gV
 ·exact jF
def zQl (xs:List AV) (r:Ret):Prop:=∃ y0,zD2=some y0/\xs=[]/\r = .val (.s (.sl 1 ((List.map zBY) y0)))
def zHI:zAr:=zAu fun xs r=>zQl xs r
theorem zJN:PSound prog 161 zHI:=by
 have gok:=@gok0 prog;refine psq tokW call161 func161 rfl ?_;rintro xs r w0 G0 ⟨y0,h,rfl,rfl⟩ _;rw[zD2]at h;refine yCp ?_;refine yBn [] [1] rfl ?_;intro r1 hr1;obtain rfl:(List.map zBY) [[104,97,116],[98,97,114],[118,101,99],[100,111,116],[116,105,108,100,101],[99,104,101,99,107]]=r1:=(hr1.trans yB2).symm;refine zAd ?_;have hy:=osi h
 subst hy;exact fin0 rfl rfl
def zR2:Prop:=∃ a0 y0,zFI n a0=some y0/\xs=[nS a0]/\r = .val (nB y0)
def zL5:zAr:=pG zR2
theorem jY {P:Prop} (h:P:=by refine zAe<|yCo ?_;refine⟨(k,i64.wrap (i5+1)),h,Le.fgt,Nat.lt_succ_self k⟩):P:=h
theorem zRe:PSound prog 157 zL5:=by
 have gok:=gk1 zMM<|gk1 zK3<|gk1 zN5<|gk1 zTk<|gk1 zJN<|gk0
 refine psq tokW call157 func157 rfl ?_;rintro xs r w0 G0 ⟨n,s1,y0,h,rfl,rfl⟩ _;rw[zFI]at h;refine yCp ?_;refine zAa<|yCp ?_;refine zAf rfl h (fun hb h=>?_) (fun hb h=>?_)
 ·refine yBn [] [8] rfl ?_;obtain⟨c2,hc2,h⟩:=zAc h;refine And.intro (zCl hc2).1 ?_;intro v3 hv3;obtain rfl:(c2.toNat:Int)=v3:=(hv3.trans (zCl hc2).2).symm;obtain⟨y4,hy4,h⟩:=zAc h;refine⟨_,⟨_,_,_,hy4,rfl,rfl⟩,?_⟩
  exact jM
 ·refine zAe<|zAa<|yCp ?_;show Tri ..;obtain⟨fl,hl,ho1⟩:=zAc h;refine zB3 (fl:=fl) (fun z=>match z with | _=>⟨ofL [(0,nS s1)],fun _=>none,0⟩) ?_ (fun z σ' hz hle=>?_)
  ·refine zAk (zAA (X:=Nat×Int) (fun y=>match y with | (k,i5)=>⟨ofL [(0,nS s1),(3,nI i5)],fun _=>none,0⟩) (fun y=>zBJ s1 y.1 y.2=some fl) (fun y=>y.1) (n,0) hl ?_ ?_)
   ·exact Le.fgt
   ·rintro⟨k,i5⟩ h;cases k with
    | zero=>cases h
    | succ k =>
     replace h:zBJ s1 (k+1) i5=some fl:=h;rw[zBJ]at h;refine zAa<|yCp ?_;refine zAf rfl h (fun hb h=>?_) (fun hb h=>?_)
     ·refine zAe<|zAa<|zAk<|yBn [] [18] rfl ?_;obtain⟨c6,hc6,h⟩:=zAc h;refine And.intro (zCl hc6).1 ?_;intro v7 hv7;obtain rfl:(c6.toNat:Int)=v7:=(hv7.trans (zCl hc6).2).symm;obtain⟨y8,hy8,h⟩:=zAc h;refine⟨_,⟨_,_,hy8,rfl,rfl⟩,?_⟩
      refine zAf rfl h (fun hb h=>?_) (fun hb h=>?_)
      ·exact jE
      ·exact jY
     ·exact gV
  ·subst hz;obtain _:=z;replace h:=ho1;refine zAh hle<|zAa ?_;obtain⟨x9,hj,h⟩:=zAc h;refine pL [(2,nB x9)] ?_ (fun σ' hle=>?_)
   ·replace h:=hj;refine zAb [] [24,29,35] rfl ?_;intro b hb;cases b with
    | true =>
     replace h:=zAw hb.symm h;intro b hb;cases b with
     | true =>
      replace h:=zAw hb.symm h;obtain⟨y10,hy10,h⟩:=zAc h;refine⟨_,⟨_,hy10,rfl,rfl⟩,?_⟩
      obtain⟨y11,hy11,h⟩:=zAc h;refine⟨_,⟨_,_,_,_,hy11,rfl,rfl⟩,?_⟩
      intro b hb;cases b with
      | true =>
       replace h:=zAw hb.symm h;obtain⟨y12,hy12,h⟩:=zAc h;refine⟨_,⟨_,hy12,rfl,rfl⟩,?_⟩
       obtain⟨y13,hy13,h⟩:=zAc h;refine⟨_,⟨_,_,_,_,hy13,rfl,rfl⟩,?_⟩
       exact jD
      | false =>
       exact jI
     | false =>
      exact jJ
    | false =>
     exact jL
   ·exact jR
def zTY (xs:List AV) (r:Ret):Prop:=∃ a0 y0,zGx a0=some y0/\xs=[.s (.int .u8 a0)]/\r = .val (nB y0)
def zNg:zAr:=zAu fun xs r=>zTY xs r
theorem zTi:PSound prog 204 zNg:=by
 have gok:=@gok0 prog;refine psq tokW call204 func204 rfl ?_;rintro xs r w0 G0 ⟨c1,y0,h,rfl,rfl⟩ _;rw[zGx]at h;refine yCp ?_;refine zAa ?_;obtain⟨x2,hj,h⟩:=zAc h;refine pL [(2,nB x2)] ?_ (fun σ' hle=>?_)
 ·replace h:=hj;refine zAb [] [5] rfl ?_;intro b hb;cases b with
  | true =>
   exact jG
  | false =>
   exact jI
 ·exact jR
def zR1:Prop:=∃ a0 y0,zFG n a0=some y0/\xs=[nS a0]/\r = .val (nB y0)
def zL4:zAr:=pG zR1
theorem zRd:PSound prog 158 zL4:=by
 have gok:=gk1 zTi<|gk0
 refine psq tokW call158 func158 rfl ?_;rintro xs r w0 G0 ⟨n,s1,y0,h,rfl,rfl⟩ _;rw[zFG]at h;refine yCp ?_;refine yCp ?_;refine zAa<|yCp ?_;show Tri ..;obtain⟨fl,hl,ho1⟩:=zAc h;refine zB3 (fl:=fl) (fun z=>match z with | points4=>⟨ofL [(0,nS s1),(3,nI points4)],fun _=>none,0⟩) ?_ (fun points4 σ' hz hle=>?_)
 ·refine zAk (zAA (X:=Nat×Int×Int) (fun y=>match y with | (k,points2,i3)=>⟨ofL [(0,nS s1),(3,nI points2),(4,nI i3)],fun _=>none,0⟩) (fun y=>zCr s1 y.1 y.2.1 y.2.2=some fl) (fun y=>y.1) (n,0,0) hl ?_ ?_)
  ·exact Le.fgt
  ·rintro⟨k,points2,i3⟩ h;cases k with
   | zero=>cases h
   | succ k =>
    replace h:zCr s1 (k+1) points2 i3=some fl:=h;rw[zCr]at h;refine zAa<|yCp ?_;refine zAf rfl h (fun hb h=>?_) (fun hb h=>?_)
    ·refine zAe<|zAa ?_;obtain⟨fl,hj,ho2⟩:=zAc h;refine zB3 (fl:=fl) (fun z=>match z with | points5=>⟨ofL [(0,nS s1),(3,nI points5),(4,nI i3)],fun _=>none,0⟩) ?_ (fun points5 σ' hz hle=>?_)
     ·replace h:=hj;refine zAk<|zAa ?_;obtain⟨x6,hj,h⟩:=zAc h;refine pL [(0,nS s1),(3,nI points2),(4,nI i3),(25,nB x6)] ?_ (fun σ' hle=>?_)
      ·replace h:=hj;refine zAb [] [13,15,19] rfl ?_;obtain⟨c7,hc7,h⟩:=zAc h;refine And.intro (zCl hc7).1 ?_;intro v8 hv8;obtain rfl:(c7.toNat:Int)=v8:=(hv8.trans (zCl hc7).2).symm;intro b hb;cases b with
       | true =>
        replace h:=zAw hb.symm h;intro b hb;cases b with
        | true =>
         exact jG
        | false =>
         exact jI
       | false =>
        exact jJ
      ·refine zAh hle<|zAf rfl h (fun hb h=>?_) (fun hb h=>?_)
       ·refine yCo ?_;exact jQ
       ·refine yBn [] [30] rfl ?_;obtain⟨c9,hc9,h⟩:=zAc h;refine And.intro (zCl hc9).1 ?_;intro v10 hv10;obtain rfl:(c9.toNat:Int)=v10:=(hv10.trans (zCl hc9).2).symm;obtain⟨y11,hy11,h⟩:=zAc h;refine⟨_,⟨_,_,hy11,rfl,rfl⟩,?_⟩
        refine zAf rfl h (fun hb h=>?_) (fun hb h=>?_)
        ·refine yCp ?_;refine zAd ?_;cases h;replace h:some _=some _:=ho2;cases h;replace h:some _=some _:=ho1;exact jB
        ·exact kP
     ·subst hz;replace h:=ho2;refine zAh hle<|yCo ?_;refine⟨(k,points5,i64.wrap (i3+1)),h,Le.fgt,Nat.lt_succ_self k⟩
    ·exact gV
 ·subst hz;replace h:=ho1;refine zAh hle<|zAa ?_;obtain⟨x12,hj,h⟩:=zAc h;refine pL [(2,nB x12)] ?_ (fun σ' hle=>?_)
  ·replace h:=hj;refine zAb [] [36,41] rfl ?_;intro b hb;cases b with
   | true =>
    replace h:=zAw hb.symm h;intro b hb;cases b with
    | true =>
     exact jG
    | false =>
     exact jI
   | false =>
    exact jJ
  ·exact jR
def zNa:Prop:=∃ a0 y0,zDL n a0=some y0/\xs=[nS a0]/\r = .val (nB y0)
def zIm:zAr:=pG zNa
theorem zMN:PSound prog 159 zIm:=by
 have gok:=@gok0 prog;refine psq tokW call159 func159 rfl ?_;rintro xs r w0 G0 ⟨n,s1,y0,h,rfl,rfl⟩ _;rw[zDL]at h;refine yCp ?_;refine zAa<|yCp ?_;show Tri ..;obtain⟨fl,hl,ho1⟩:=zAc h;refine zB3 (fl:=fl) (fun z=>match z with | _=>⟨ofL [],fun _=>none,0⟩) ?_ (fun z σ' hz hle=>?_)
 ·refine zAk (zAA (X:=Nat×Int) (fun y=>match y with | (k,i2)=>⟨ofL [(0,nS s1),(3,nI i2)],fun _=>none,0⟩) (fun y=>zBn s1 y.1 y.2=some fl) (fun y=>y.1) (n,0) hl ?_ ?_)
  ·exact Le.fgt
  ·rintro⟨k,i2⟩ h;cases k with
   | zero=>cases h
   | succ k =>
    replace h:zBn s1 (k+1) i2=some fl:=h;rw[zBn]at h;refine zAa<|yCp ?_;refine zAf rfl h (fun hb h=>?_) (fun hb h=>?_)
    ·refine zAe<|zAa<|zAk<|zAa ?_;obtain⟨x3,hj,h⟩:=zAc h;refine pL [(0,nS s1),(3,nI i2),(19,nB x3)] ?_ (fun σ' hle=>?_)
     ·replace h:=hj;refine zAb [] [12,14,17] rfl ?_;obtain⟨c4,hc4,h⟩:=zAc h;refine And.intro (zCl hc4).1 ?_;intro v5 hv5;obtain rfl:(c4.toNat:Int)=v5:=(hv5.trans (zCl hc4).2).symm;intro b hb;cases b with
      | true =>
       exact jG
      | false =>
       exact jX
     ·refine zAh hle<|zAf rfl h (fun hb h=>?_) (fun hb h=>?_)
      ·exact jE
      ·exact gP
    ·exact gV
 ·exact jF
def zV5:Prop:=∃ a0 y0,zHv n a0=some y0/\xs=[.agg ((Nd.enc a0).map .s)]/\r = .val (nB y0)
def zPn:zAr:=pG zV5
theorem zUH:PSound prog 104 zPn:=by
 have gok:=gk1 zRe<|gk1 zRd<|gk1 zMN<|gk1 zJN<|gk1 zTk<|gk1 zPQ<|gk0
 refine psq tokW call104 func104 rfl ?_;rintro xs r w0 G0 ⟨n,⟨n1A,n1C,n1D,n1B⟩,y0,h,rfl,rfl⟩ _;rw[zHv]at h;refine yCp ?_;refine zAa<|yCp ?_;refine zAk<|yCp ?_;refine zAf rfl h (fun hb h=>?_) (fun hb h=>?_)
 ·refine yCp ?_;obtain⟨y2,hy2,h⟩:=zAc h;refine⟨_,⟨_,_,_,hy2,rfl,rfl⟩,?_⟩
  exact jM
 ·refine yCp ?_;refine zAf rfl h (fun hb h=>?_) (fun hb h=>?_)
  ·refine yCp ?_;obtain⟨y3,hy3,h⟩:=zAc h;refine⟨_,⟨_,_,_,hy3,rfl,rfl⟩,?_⟩
   exact jM
  ·refine yCp ?_;refine zAf rfl h (fun hb h=>?_) (fun hb h=>?_)
   ·refine zAa ?_;obtain⟨x4,hj,h⟩:=zAc h;refine pL [(2,nB x4)] ?_ (fun σ' hle=>?_)
    ·replace h:=hj;refine zAb [] [21] rfl ?_;intro b hb;cases b with
     | true =>
      replace h:=zAw hb.symm h;obtain⟨y5,hy5,h⟩:=zAc h;refine⟨_,⟨_,_,_,hy5,rfl,rfl⟩,?_⟩
      exact jD
     | false =>
      exact jI
    ·exact jR
   ·refine yCp ?_;refine zAf rfl h (fun hb h=>?_) (fun hb h=>?_)
    ·refine zAa<|zAC [] [] [] rfl (by decide +kernel) ?_;obtain⟨y6,hy6,h⟩:=zAc h;refine⟨_,⟨_,hy6,rfl,rfl⟩,?_⟩
     obtain⟨y7,hy7,h⟩:=zAc h;refine⟨_,⟨_,_,_,_,hy7,rfl,rfl⟩,?_⟩
     exact jM
    ·refine yCp ?_;refine zAf rfl h (fun hb h=>?_) (fun hb h=>?_)
     ·refine zAa ?_;obtain⟨x8,hj,h⟩:=zAc h;refine pL [(2,nB x8)] ?_ (fun σ' hle=>?_)
      ·replace h:=hj;refine zAb [] [38,41,44,47] rfl ?_;intro b hb;cases b with
       | true =>
        replace h:=zAw hb.symm h;obtain⟨c9,hc9,h⟩:=zAc h;refine And.intro (zCl hc9).1 ?_;intro v10 hv10;obtain rfl:(c9.toNat:Int)=v10:=(hv10.trans (zCl hc9).2).symm;obtain⟨y11,hy11,h⟩:=zAc h;refine⟨_,⟨_,_,_,_,hy11,rfl,rfl⟩,?_⟩
        intro b hb;cases b with
        | true =>
         replace h:=zAw hb.symm h;obtain⟨c12,hc12,h⟩:=zAc h;refine And.intro (zCl hc12).1 ?_;intro v13 hv13;obtain rfl:(c12.toNat:Int)=v13:=(hv13.trans (zCl hc12).2).symm;obtain⟨y14,hy14,h⟩:=zAc h;refine⟨_,⟨_,_,_,_,hy14,rfl,rfl⟩,?_⟩
         exact jD
        | false =>
         exact jI
       | false =>
        exact jJ
      ·exact jR
     ·refine zAe<|yCp ?_;exact jM
def zV4 (xs:List AV) (r:Ret):Prop:=∃ a0 y0,zHu a0=some y0/\xs=[.agg ((Nd.enc a0).map .s)]/\r = .val (nB y0)
def zPl:zAr:=zAu fun xs r=>zV4 xs r
theorem zUF:PSound prog 105 zPl:=by
 have gok:=@gok0 prog;refine psq tokW call105 func105 rfl ?_;rintro xs r w0 G0 ⟨⟨n1A,n1C,n1D,n1B⟩,y0,h,rfl,rfl⟩ _;rw[zHu]at h;refine yCp ?_;refine yBn [] [6] rfl ?_;intro n2 hn2;obtain rfl:=rlE Nd.encs_eq n1B hn2;refine zAa<|yCp ?_;refine zAf rfl h (fun hb h=>?_) (fun hb h=>?_)
 ·refine zAa ?_;obtain⟨x3,hj,h⟩:=zAc h;refine pL [(2,nB x3)] ?_ (fun σ' hle=>?_)
  ·replace h:=hj;refine zAb [] [13,18,22,26] rfl ?_;intro b hb;cases b with
   | true =>
    replace h:=zAw hb.symm h;intro b hb;cases b with
    | true =>
     replace h:=zAw hb.symm h;intro b hb;cases b with
     | true =>
      replace h:=zAw hb.symm h;intro b hb;cases b with
      | true =>
       replace h:=zAw hb.symm h;obtain⟨hq,h⟩:=zAx h;refine And.intro hq ?_;exact jD
      | false =>
       exact jI
     | false =>
      exact jJ
    | false =>
     exact jL
   | false =>
    exact jW
  ·exact jR
 ·refine zAe<|zAa<|yCp ?_;refine zAf rfl h (fun hb h=>?_) (fun hb h=>?_)
  ·exact gG
  ·refine zAe<|zAa<|yCp ?_;show Tri ..;obtain⟨fl,hj,ho1⟩:=zAc h;refine zB3 (fl:=fl) (fun z=>match z with | _=>⟨ofL [],fun _=>none,0⟩) ?_ (fun z σ' hz hle=>?_)
   ·replace h:=hj;refine zAk<|yCp ?_;refine zAf rfl h (fun hb h=>?_) (fun hb h=>?_)
    ·exact jE
    ·refine zAa<|yCp ?_;show Tri ..;obtain⟨x4,hj,h⟩:=zAc h;refine pL [(3,nI (n1B.length:Int)),(37,nI n1A),(42,nB x4)] ?_ (fun σ' hle=>?_)
     ·replace h:=hj;refine zAf rfl h (fun hb h=>?_) (fun hb h=>?_)
      ·exact gI
      ·refine yCp ?_;refine zAf rfl h (fun hb h=>?_) (fun hb h=>?_)
       ·exact gI
       ·exact kF
     ·refine zAh hle<|zAf rfl h (fun hb h=>?_) (fun hb h=>?_)
      ·exact jE
      ·refine zAa<|yCp ?_;show Tri ..;obtain⟨x5,hj,h⟩:=zAc h;refine pL [(3,nI (n1B.length:Int)),(37,nI n1A),(48,nB x5)] ?_ (fun σ' hle=>?_)
       ·replace h:=hj;refine zAf rfl h (fun hb h=>?_) (fun hb h=>?_)
        ·exact gI
        ·refine yCp ?_;refine zAf rfl h (fun hb h=>?_) (fun hb h=>?_)
         ·exact gI
         ·refine yCp ?_;refine zAf rfl h (fun hb h=>?_) (fun hb h=>?_)
          ·exact gI
          ·exact kF
       ·refine zAh hle<|zAf rfl h (fun hb h=>?_) (fun hb h=>?_)
        ·exact jE
        ·refine yCp ?_;refine zAf rfl h (fun hb h=>?_) (fun hb h=>?_)
         ·exact jE
         ·refine zAa<|yCp ?_;show Tri ..;obtain⟨x6,hj,h⟩:=zAc h;refine pL [(3,nI (n1B.length:Int)),(59,nB x6)] ?_ (fun σ' hle=>?_)
          ·replace h:=hj;refine zAf rfl h (fun hb h=>?_) (fun hb h=>?_)
           ·exact gI
           ·exact kF
          ·refine zAh hle<|zAf rfl h (fun hb h=>?_) (fun hb h=>?_)
           ·exact jE
           ·exact kP
   ·exact jF
def zHi:Prop:=∃ a0 y0,zD3 n a0=some y0/\xs=[.agg ((Nd.enc a0).map .s)]/\r = .val (nB y0)
theorem zRF (n:Nat) (ih:PSound prog 60 (zAu (zHi n))):PSound prog 60 (zAu (zHi (n+1))):=by
 have gok:=gk1 zUH<|gk1 zUF<|gk1 ih<|gk0
 refine psq tokW call60 func60 rfl ?_;rintro xs r w0 G0 ⟨⟨n1A,n1C,n1D,n1B⟩,y0,h,rfl,rfl⟩ _;rw[zD3]at h;refine yCp ?_;refine zAa<|zAa ?_;obtain⟨x2,hj,h⟩:=zAc h;refine pL [(1,pN n1A n1C n1D n1B),(11,nB x2)] ?_ (fun σ' hle=>?_)
 ·replace h:=hj;refine zAb [] [7] rfl ?_;obtain⟨y3,hy3,h⟩:=zAc h;refine⟨_,⟨_,_,_,hy3,rfl,rfl⟩,?_⟩
  intro b hb;cases b with
  | true =>
   exact jG
  | false =>
   replace h:=zAv hb.symm h;obtain⟨y4,hy4,h⟩:=zAc h;refine⟨_,⟨_,_,hy4,rfl,rfl⟩,?_⟩
   exact jD
 ·refine zAh hle<|zAf rfl h (fun hb h=>?_) (fun hb h=>?_)
  ·exact gG
  ·refine zAe<|zAa<|yCp ?_;show Tri ..;obtain⟨fl,hl,ho1⟩:=zAc h;refine zB3 (fl:=fl) (fun z=>match z with | _=>⟨ofL [],fun _=>none,0⟩) ?_ (fun z σ' hz hle=>?_)
   ·refine zAk (zAA (X:=Nat×Int) (fun y=>match y with | (k,i5)=>⟨ofL [(1,pN n1A n1C n1D n1B),(3,nI i5)],fun _=>none,0⟩) (fun y=>zDf (zD3 n) n1A n1B y.1 y.2=some fl) (fun y=>y.1) (n,0) hl ?_ ?_)
    ·exact Le.fgt
    ·rintro⟨k,i5⟩ h;cases k with
     | zero=>cases h
     | succ k =>
      replace h:zDf (zD3 n) n1A n1B (k+1) i5=some fl:=h;rw[zDf]at h;refine zAa<|yBn [] [15] rfl ?_;intro n6 hn6;obtain rfl:=rlE Nd.encs_eq n1B hn6;refine zAf rfl h (fun hb h=>?_) (fun hb h=>?_)
      ·refine zAe<|zAa<|zAk<|zAa ?_;obtain⟨x7,hj,h⟩:=zAc h;refine pL [(1,pN n1A n1C n1D n1B),(3,nI i5),(38,nB x7)] ?_ (fun σ' hle=>?_)
       ·replace h:=hj;refine zAC [] [22,30,34] [] rfl (by decide +kernel) ?_;obtain⟨⟨e8A,e8C,e8D,e8B⟩,he8,h⟩:=zAc h;refine And.intro (zAq Nd.encs_eq he8).1 ?_;intro r9 hr9;obtain rfl:(nN e8A e8C e8D e8B)=r9:=(hr9.trans (zAq Nd.encs_eq he8).2.1).symm;intro b hb;cases b with
        | true =>
         exact jG
        | false =>
         replace h:=zAv hb.symm h;obtain⟨⟨e10A,e10C,e10D,e10B⟩,he10,h⟩:=zAc h;refine And.intro (zAq Nd.encs_eq he10).1 ?_;intro r11 hr11;obtain rfl:(nN e10A e10C e10D e10B)=r11:=(hr11.trans (zAq Nd.encs_eq he10).2.1).symm;obtain⟨y12,hy12,h⟩:=zAc h;refine⟨_,⟨_,_,hy12,rfl,rfl⟩,?_⟩
         exact jD
       ·refine zAh hle<|zAf rfl h (fun hb h=>?_) (fun hb h=>?_)
        ·exact jE
        ·exact jY
      ·exact gV
   ·exact jF
theorem zSq:∀ n,PSound prog 60 (zAu (zHi n)):=by
 intro n
 induction n with
 | zero=>exact zCP call60 (fun xs r h=>by obtain⟨_,_,h,_⟩:=h; cases h)
 | succ n ih=>exact zRF n ih
def zPk:zAr:=pG zHi
theorem zUE:PSound prog 60 zPk:=zDu zSq
variable (n:Nat) (xs:List AV) (r:Ret)
def zGf:Prop:=∃ a0 y0,zDd n a0=some y0/\xs=[.agg ((Nd.enc a0).map .s)]/\r = .val (nI y0)
theorem zPd (n:Nat) (ih:PSound prog 61 (zAu (zGf n))):PSound prog 61 (zAu (zGf (n+1))):=by
 have gok:=gk1 ih<|gk0
 refine psq tokW call61 func61 rfl ?_;rintro xs r w0 G0 ⟨⟨n1A,n1C,n1D,n1B⟩,y0,h,rfl,rfl⟩ _;rw[zDd]at h;refine yCp ?_;refine yCp ?_;refine zAa<|yCp ?_;show Tri ..;obtain⟨out4,hl,h⟩:=zAc h;refine pL [(3,nI out4)] ?_ (fun σ' hle=>?_)
 ·refine zAk (zAA (X:=Nat×Int×Int) (fun y=>match y with | (k,out2,i3)=>⟨ofL [(1,pN n1A n1C n1D n1B),(3,nI out2),(4,nI i3)],fun _=>none,0⟩) (fun y=>zCM (zDd n) n1B y.1 y.2.1 y.2.2=some out4) (fun y=>y.1) (n,1,0) hl ?_ ?_)
  ·exact Le.fgt
  ·rintro⟨k,out2,i3⟩ h;cases k with
   | zero=>cases h
   | succ k =>
    replace h:zCM (zDd n) n1B (k+1) out2 i3=some out4:=h;rw[zCM]at h;refine zAa<|yBn [] [8] rfl ?_;intro n5 hn5;obtain rfl:=rlE Nd.encs_eq n1B hn5;refine zAf rfl h (fun hb h=>?_) (fun hb h=>?_)
    ·refine zAe<|zAa<|zAk<|zAb [] [16] rfl ?_;obtain⟨⟨e6A,e6C,e6D,e6B⟩,he6,h⟩:=zAc h;refine And.intro (zAq Nd.encs_eq he6).1 ?_;intro r7 hr7;obtain rfl:(nN e6A e6C e6D e6B)=r7:=(hr7.trans (zAq Nd.encs_eq he6).2.1).symm;obtain⟨y8,hy8,h⟩:=zAc h;refine⟨_,⟨_,_,hy8,rfl,rfl⟩,?_⟩
     refine yCo ?_;refine⟨(k,i64.wrap (out2+y8),i64.wrap (i3+1)),h,Le.fgt,Nat.lt_succ_self k⟩
    ·refine zAD ?_;exact jD
 ·refine zAh hle<|yCp ?_;exact jM
theorem zQu:∀ n,PSound prog 61 (zAu (zGf n)):=by
 intro n
 induction n with
 | zero=>exact zCP call61 (fun xs r h=>by obtain⟨_,_,h,_⟩:=h; cases h)
 | succ n ih=>exact zPd n ih
def zNe:zAr:=pG zGf
theorem zTg:PSound prog 61 zNe:=zDu zQu
def zGg:Prop:=∃ a0 y0,zDe n a0=some y0/\xs=[.agg ((Nd.enc a0).map .s)]/\r = .val (nI y0)
theorem zPe (n:Nat) (ih:PSound prog 62 (zAu (zGg n))):PSound prog 62 (zAu (zGg (n+1))):=by
 have gok:=gk1 ih<|gk0
 refine psq tokW call62 func62 rfl ?_;rintro xs r w0 G0 ⟨⟨n1A,n1C,n1D,n1B⟩,y0,h,rfl,rfl⟩ _;rw[zDe]at h;refine yCp ?_;refine yCp ?_;refine zAa<|yCp ?_;show Tri ..;obtain⟨out4,hl,h⟩:=zAc h;refine pL [(3,nI out4)] ?_ (fun σ' hle=>?_)
 ·refine zAk (zAA (X:=Nat×Int×Int) (fun y=>match y with | (k,out2,i3)=>⟨ofL [(1,pN n1A n1C n1D n1B),(3,nI out2),(4,nI i3)],fun _=>none,0⟩) (fun y=>zCN (zDe n) n1B y.1 y.2.1 y.2.2=some out4) (fun y=>y.1) (n,0,0) hl ?_ ?_)
  ·exact Le.fgt
  ·rintro⟨k,out2,i3⟩ h;cases k with
   | zero=>cases h
   | succ k =>
    replace h:zCN (zDe n) n1B (k+1) out2 i3=some out4:=h;rw[zCN]at h;refine zAa<|yBn [] [8] rfl ?_;intro n5 hn5;obtain rfl:=rlE Nd.encs_eq n1B hn5;refine zAf rfl h (fun hb h=>?_) (fun hb h=>?_)
    ·refine zAe<|zAa<|zAk<|zAb [] [16] rfl ?_;obtain⟨⟨e6A,e6C,e6D,e6B⟩,he6,h⟩:=zAc h;refine And.intro (zAq Nd.encs_eq he6).1 ?_;intro r7 hr7;obtain rfl:(nN e6A e6C e6D e6B)=r7:=(hr7.trans (zAq Nd.encs_eq he6).2.1).symm;obtain⟨y8,hy8,h⟩:=zAc h;refine⟨_,⟨_,_,hy8,rfl,rfl⟩,?_⟩
     refine yCo ?_;refine⟨(k,(if out2<y8 then y8 else out2),i64.wrap (i3+1)),h,Le.fgt,Nat.lt_succ_self k⟩
    ·refine zAD ?_;exact jD
 ·refine zAh hle<|yCp ?_;exact jM
theorem zQv:∀ n,PSound prog 62 (zAu (zGg n)):=by
 intro n
 induction n with
 | zero=>exact zCP call62 (fun xs r h=>by obtain⟨_,_,h,_⟩:=h; cases h)
 | succ n ih=>exact zPe n ih
def zNf:zAr:=pG zGg
theorem zTh:PSound prog 62 zNf:=zDu zQv
def zT0:Prop:=∃ a0 y0,zAU n a0=some y0/\xs=[.agg ((Nd.enc a0).map .s)]/\r = .val (nB y0)
def zC5:zAr:=pG zT0
theorem zC3:PSound prog 32 zC5:=by
 have gok:=gk1 zUE<|gk1 zTg<|gk1 zTh<|gk0
 refine psq tokW call32 func32 rfl ?_;rintro xs r w0 G0 ⟨n,⟨n1A,n1C,n1D,n1B⟩,y0,h,rfl,rfl⟩ _;rw[zAU]at h;refine yCp ?_;refine zAa ?_;obtain⟨x2,hj,h⟩:=zAc h;refine pL [(2,nB x2)] ?_ (fun σ' hle=>?_)
 ·replace h:=hj;refine zAb [] [6,10,15] rfl ?_;intro b hb;cases b with
  | true =>
   replace h:=zAw hb.symm h;obtain⟨y3,hy3,h⟩:=zAc h;refine⟨_,⟨_,_,_,hy3,rfl,rfl⟩,?_⟩
   intro b hb;cases b with
   | true =>
    replace h:=zAw hb.symm h;obtain⟨y4,hy4,h⟩:=zAc h;refine⟨_,⟨_,_,_,hy4,rfl,rfl⟩,?_⟩
    intro b hb;cases b with
    | true =>
     replace h:=zAw hb.symm h;obtain⟨y5,hy5,h⟩:=zAc h;refine⟨_,⟨_,_,_,hy5,rfl,rfl⟩,?_⟩
     exact jD
    | false =>
     exact jI
   | false =>
    exact jJ
  | false =>
   exact jL
 ·exact jR
def zE9:Prop:=∃ a0 a1 y0,zCq n a0 a1=some y0/\xs=[.agg ((Nd.enc a0).map .s),.agg ((Nd.enc a1).map .s)]/\r = .val (nB y0)
def zCU:Prop:=∃ a0 a1 y0,zCs n a0 a1=some y0/\xs=[.s (.sl 4 (Nd.encs a0)),.s (.sl 4 (Nd.encs a1))]/\r = .val (nB y0)
theorem zPf (n:Nat) (ih_r09_Equal:PSound prog 18 (zAu (zE9 n))) (ih_r09_SameItems:PSound prog 42 (zAu (zCU n))):PSound prog 18 (zAu (zE9 (n+1))):=by
 have gok:=gk1 ih_r09_SameItems<|gk0
 refine psq tokW call18 func18 rfl ?_;rintro xs r w0 G0 ⟨⟨a1A,a1C,a1D,a1B⟩,⟨b2A,b2C,b2D,b2B⟩,y0,h,rfl,rfl⟩ _;rw[zCq]at h;refine yCp ?_;refine zAa ?_;obtain⟨x3,hj,h⟩:=zAc h;refine pL [(4,nB x3)] ?_ (fun σ' hle=>?_)
 ·replace h:=hj;refine zAb [] [10,17,24] rfl ?_;intro b hb;cases b with
  | true =>
   replace h:=zAw hb.symm h;intro b hb;cases b with
   | true =>
    replace h:=zAw hb.symm h;intro b hb;cases b with
    | true =>
     replace h:=zAw hb.symm h;obtain⟨y4,hy4,h⟩:=zAc h;refine⟨_,⟨_,_,_,hy4,rfl,rfl⟩,?_⟩
     exact jD
    | false =>
     exact jI
   | false =>
    exact jJ
  | false =>
   exact jL
 ·exact jR
theorem zLh (n:Nat) (ih_r09_Equal:PSound prog 18 (zAu (zE9 n))) (ih_r09_SameItems:PSound prog 42 (zAu (zCU n))):PSound prog 42 (zAu (zCU (n+1))):=by
 have gok:=gk1 ih_r09_Equal<|gk0
 refine psq tokW call42 func42 rfl ?_;rintro xs r w0 G0 ⟨a1,b2,y0,h,rfl,rfl⟩ _;rw[zCs]at h;refine yCp ?_;refine zAa<|yBn [] [7,9] rfl ?_;intro n3 hn3;obtain rfl:=rlE Nd.encs_eq a1 hn3;intro n4 hn4;obtain rfl:=rlE Nd.encs_eq b2 hn4;refine zAf rfl h (fun hb h=>?_) (fun hb h=>?_)
 ·exact gG
 ·refine zAe<|zAa<|yCp ?_;show Tri ..;obtain⟨fl,hl,ho1⟩:=zAc h;refine zB3 (fl:=fl) (fun z=>match z with | _=>⟨ofL [],fun _=>none,0⟩) ?_ (fun z σ' hz hle=>?_)
  ·refine zAk (zAA (X:=Nat×Int) (fun y=>match y with | (k,i5)=>⟨ofL [(0,.s (.sl 4 (Nd.encs a1))),(1,.s (.sl 4 (Nd.encs b2))),(5,nI i5)],fun _=>none,0⟩) (fun y=>zBI (zCq n) a1 b2 y.1 y.2=some fl) (fun y=>y.1) (n,0) hl ?_ ?_)
   ·exact Le.fgt
   ·rintro⟨k,i5⟩ h;cases k with
    | zero=>cases h
    | succ k =>
     replace h:zBI (zCq n) a1 b2 (k+1) i5=some fl:=h;rw[zBI]at h;refine zAa<|yBn [] [13] rfl ?_;intro n6 hn6;obtain rfl:=rlE Nd.encs_eq a1 hn6;refine zAf rfl h (fun hb h=>?_) (fun hb h=>?_)
     ·refine zAe<|zAa<|zAk<|zAa<|zAC [] [19,23] [] rfl (by decide +kernel) ?_;obtain⟨⟨e7A,e7C,e7D,e7B⟩,he7,h⟩:=zAc h;refine And.intro (zAq Nd.encs_eq he7).1 ?_;intro r8 hr8;obtain rfl:(nN e7A e7C e7D e7B)=r8:=(hr8.trans (zAq Nd.encs_eq he7).2.1).symm;obtain⟨⟨e9A,e9C,e9D,e9B⟩,he9,h⟩:=zAc h;refine And.intro (zAq Nd.encs_eq he9).1 ?_;intro r10 hr10
      obtain rfl:(nN e9A e9C e9D e9B)=r10:=(hr10.trans (zAq Nd.encs_eq he9).2.1).symm;obtain⟨y11,hy11,h⟩:=zAc h;refine⟨_,⟨_,_,_,hy11,rfl,rfl⟩,?_⟩
      refine zAf rfl h (fun hb h=>?_) (fun hb h=>?_)
      ·exact jE
      ·exact jY
     ·exact gV
  ·exact jF
theorem zJE:∀ n,PSound prog 18 (zAu (zE9 n))/\PSound prog 42 (zAu (zCU n)):=by
 intro n
 induction n with
 | zero =>
  refine⟨?_,?_⟩
  ·exact zCP call18 (fun xs r h=>by obtain⟨_,_,_,h,_⟩:=h; rw[zCq]at h; cases h)
  ·exact zCP call42 (fun xs r h=>by obtain⟨_,_,_,h,_⟩:=h; rw[zCs]at h; cases h)
 | succ n ih =>
  obtain⟨ih_r09_Equal,ih_r09_SameItems⟩:=ih;exact⟨zPf n ih_r09_Equal ih_r09_SameItems,zLh n ih_r09_Equal ih_r09_SameItems⟩
def zNh:zAr:=pG zE9
theorem zTj:PSound prog 18 zNh:=zDu (fun n=>(zJE n).1)
def zIo:zAr:=pG zCU
theorem zMO:PSound prog 42 zIo:=zDu (fun n=>(zJE n).2)
def zV1 (n:Nat) (xs:List AV) (r:Ret):Prop:=∃ (a0:Nd) (a1:List Int) (y0:Nd) (y1:Int),zHs n a0 a1=some (y0,y1)/\xs=[.agg ((Nd.enc a0).map .s),.s (.sl 1 (a1.map (irow .i64)))]/\r = .val (.tup [.agg ((Nd.enc y0).map .s),nI y1])
def zPi:zAr:=pG zV1
theorem zUC:PSound prog 133 zPi:=by
 have gok:∀ f s,look? f [(27,zDD),(180,zNd),(28,zEs)]=some s->PSound prog f s:=zAn (by
  simp only[forall_mem_cons]
  exact⟨zD9,zTf,zEP,by simp⟩)
 refine psq tokW call133 func133 rfl ?_;rintro xs r w0 G0 ⟨f,⟨k,t,c,ks⟩,p,y0,y1,h,rfl,rfl⟩ _;rw[zHs]at h;obtain⟨b,hb,h⟩:=zAc h;refine yBn [4] [] rfl ?_;refine zAa<|yCp ?_;refine⟨_,⟨f,_,_,hb,rfl,rfl⟩,?_⟩
 show Tri ..;cases b with
 | false =>
  refine zAI rfl (fun _=>?_) (fun h=>by cases h)
  refine yCp ?_;refine zAd ?_;obtain⟨rfl,rfl⟩:=Prod.mk.inj (Option.some.inj h)
  unfold zBK;exact gR
 | true =>
  refine zAI rfl (fun h=>by cases h) (fun _=>?_)
  refine zAe ?_;show Tri ..;replace h:(match zBE (.mk k t c ks) p with | some r=>(zA0 r).bind fun r=>some (r,0) | none=>some (zCy,8))=some (y0,y1):=h;refine yCp ?_;cases hf:zBE (.mk k t c ks) p with
  | none =>
   rw[hf]at h;refine⟨.val (.tup [.junk,nB false]),⟨.mk k t c ks,p,rfl,by rw[hf]; rfl⟩,?_⟩
   refine zAa<|yCp ?_;refine zAI rfl (fun _=>?_) (fun h=>by cases h)
   refine yCp ?_;refine zAd ?_;obtain⟨rfl,rfl⟩:=Prod.mk.inj (Option.some.inj h)
   unfold zBK;exact gR
  | some z =>
   obtain⟨k2,t2,c2,ks2⟩:=z;rw[hf]at h;refine⟨.val (.tup [.s (.pt (Nd.enc (.mk k2 t2 c2 ks2))),nB true]),⟨.mk k t c ks,p,rfl,by rw[hf]; rfl⟩,?_⟩
   refine zAa<|yCp ?_;refine zAI rfl (fun h=>by cases h) (fun _=>?_)
   refine zAe ?_;show Tri ..;obtain⟨⟨k3,t3,c3,ks3⟩,hd,h⟩:=zAc h;obtain⟨rfl,rfl⟩:=Prod.mk.inj (Option.some.inj h)
   refine yCp ?_;refine⟨_,⟨_,_,hd,rfl,rfl⟩,?_⟩
   refine zAd ?_;unfold zBK;exact gR
variable {keys:List Nat}{ks:List Nd}
theorem zYD {T:Nat->Option TI}{own:Bool}{o:Oper}{σ:St}{e t e0:Nat}{args:Array Operand}{ts:Array Nat}{y:Operand}{v:AV} (hv:VAt σ.hp e v ks keys) (ho:o.op = .call { callee:=.builtin .len,args:=args,argTypes:=ts }) (ha:args.toList=[y]) (hts:ts.toList=[t]) (ht:tk T t = .slice e0)
  (hy:opd T σ.env t y=v):step1 T own o σ=some (none,nI (ks.length:Int),σ):=by
 rcases hv with ⟨rfl,rfl,_⟩ | ⟨q,rows,keys',w,rfl,hq,hlen,_,_⟩
 ·have e1:zB9 T own o σ.env=some (none,nI 0) :=(by simp only[zB9,ho,ha,hts,pLen,ht,hy]; rfl);simp only[step1,e1]; rfl
 ·rw[zOs ho ha hts ht hy hq,hlen]
theorem zYn {k c:Int}{tx:List UInt8}{k2 c2:Int}{tx2:List UInt8}{ks2:List Nd}{z r:Nd}{i s:Int}{p:List Int} (hx:ks[i.toNat]? = some (.mk k2 tx2 c2 ks2)) (hz:ks2[s.toNat]? = some z) :
  putL (.mk k tx c ks) (i::s::p) r = .mk k tx c (ks.set i.toNat (.mk k2 tx2 c2 (ks2.set s.toNat (putL z p r)))):=by
 rw[putL,hx]
 simp only[hz]
theorem Hole.here {hp:Nat->Option Ob}{e:Nat}{p p1:AV}{y:Nd}{F:Nd->Nd} (hn:(zBt p::keys).Nodup) (h:Hole hp e p keys p1 y F):∃ keys0 w0,At hp e p1 y keys0 [] w0/\isL 4 p1/\(zBt p1::keys0).Nodup:=by
 obtain⟨keys0,rest,w0,a1,a2,a3,a4,_⟩:=h;obtain⟨hb,hnk⟩:=List.nodup_cons.1 hn;obtain⟨n0,n1,n01⟩:=List.nodup_append.1 (a1.nodup_iff.1 hnk)
 refine⟨keys0,w0,a2,a3,List.nodup_cons.2 ⟨fun hm=>?_,n0⟩⟩
 rcases a4 with rfl | a4
 ·exact hb (a1.mem_iff.2 (mem_append_left _ hm))
 ·exact n01 _ hm _ a4 rfl
theorem Hole.step {hp:Nat->Option Ob}{e q i:Nat}{p p1:AV}{k c:Int}{tx:List UInt8}{ks:List Nd}{x:Nd}{keys:List Nat}{F:Nd->Nd} (hn:(zBt p::keys).Nodup) (h:Hole hp e p keys p1 (.mk k tx c ks) F) (hx:ks[i]? = some x) (hc:zAQ hp p1=some (zBh k tx c (.orow q))) :
  Hole hp e p keys (.rp q 4 i 0) x (fun r=>F (.mk k tx c (ks.set i r))) :=
 Hole.trans hn h fun keys0 w0 ha hl hn0=>by
  obtain⟨b,rows,h1,_,_,h4⟩:=Hole.kid ha hl hn0 hx;rw[hc]at h1;have:q=b :=(by simpa [zBh] using h1);rw[this]; exact h4
theorem zZG {t r:Nd}:putL t [] r=r:=by cases t; rfl
def zRP (xs:List AV) (hp:Nat->Option Ob) (n:Nat) (Φ:AV->(Nat->Option Ob)->Nat->Prop):Prop :=
 ∃ (p:AV) (t:Nd) (path:List Int) (keys:List Nat) (w:Nat),xs=[p,.s (.sl 1 (path.map (irow .i64)))]/\isL 4 p/\At hp 24 p t keys [] w/\(zBt p::keys).Nodup /\
  (zBE t path=none->Φ (.tup [.junk,nB false]) hp n)/\∀ p1 y F,zBE t path=some y->Hole hp 24 p keys p1 y F->(∀ r,putL t path r=F r)->Φ (.tup [p1,nB true]) hp n
def zM5:zAr:=zSU zRP
set_option maxHeartbeats 600000 in
theorem zQG:PSound prog 180 zM5:=by
 have gok:=@gok0 prog;refine zNO tokW call180 func180 rfl (fun xs hp n Φ h=>by obtain⟨_,_,_,_,_,rfl,_⟩:=h; show 2<=_; decide) _ rfl ?_;rintro xs hp n Φ w0 G0 B0 ⟨p0,t0,path0,keys,w,rfl,hl0,hat,hnd,hΦ1,hΦ2⟩ _ hhp;refine yCp ?_;refine zAa<|zAk (zAA (X:=AV×Nd×List Int×(Nd->Nd)) (fun x=>match x with | (p,y,q,F)=>⟨ofL [(0,p),(1,.s (.sl 1 (q.map (irow .i64)))),(4,.s .np),(5,nB false)],hp,n⟩)
  (fun x=>match x with | (p,y,q,F)=>zBE t0 path0=zBE y q/\Hole hp 24 p0 keys p y F/\∀ r,putL t0 path0 r=F (putL y q r)) (fun x=>match x with | (p,y,q,F)=>q.length) (p0,t0,path0,id) ⟨rfl,Hole.refl hat hl0,fun _=>rfl⟩ (Le.forget [(0,p0),(1,.s (.sl 1 (path0.map (irow .i64)))),(4,.s .np),(5,nB false)] ⟨rfl,rfl,rfl,rfl,trivial⟩) ?_)
 rintro⟨p,⟨k,t,c,ks⟩,q,F⟩ hI;have hI:zBE t0 path0=zBE (.mk k t c ks) q/\Hole hp 24 p0 keys p (.mk k t c ks) F/\∀ r,putL t0 path0 r=F (putL (.mk k t c ks) q r):=hI
 obtain⟨hI1,hI2,hI3⟩:=hI;have hlp:isL 4 p :=(by obtain⟨_,_,_,_,_,h,_⟩:=hI2; exact h);refine zAa<|yCp ?_;refine zAI rfl (fun hb=>?_) (fun hb=>?_)
 ·refine zAe ?_;show Tri ..
  match q,hI1,hI3,hb with
  | [],_,_,hb=>cases hb
  | [_],_,_,hb=>cases hb
  | i::s::q,hI1,hI3,hb =>
   refine zAh (Le.forgetH [(0,p),(1,.s (.sl 1 ((i::s::q).map (irow .i64)))),(4,.s .np),(5,nB false)] hp n ⟨rfl,rfl,rfl,rfl,trivial⟩ (fun _=>rfl) rfl)<|zAa<|zAk<|zAa ?_;refine zLi (by exact tokW) (by exact gok) (by exact mixed) [] [] [1,2,4,5] rfl (by decide +kernel) ?_;refine And.intro (show(0:Int)<=0/\(0:Int)<((((i::s::q).map (irow .i64)).length:Nat):Int) by simp only[map_cons,length_cons]; omega) ?_;refine And.intro (show(0:Int)<=1/\(1:Int)<((((i::s::q).map (irow .i64)).length:Nat):Int) by simp only[map_cons,length_cons]; omega) ?_;show Tri ..
   refine zAh (Le.forgetH [(0,p),(1,.s (.sl 1 ((i::s::q).map (irow .i64)))),(4,.s .np),(5,nB false),(6,nI i),(7,nI s)] hp n ⟨rfl,rfl,rfl,rfl,rfl,rfl,trivial⟩ (fun _=>rfl) rfl)<|zAa<|zAa ?_
   by_cases hi:i<0
   ·refine zAb [] [21] rfl ?_;intro b hb;obtain rfl:true=b:=(hb.trans (decide_eq_true hi)).symm;refine zAI rfl (fun _=>?_) (fun h=>by cases h)
    refine yCp ?_;refine zAd ?_;unfold zJv;exact⟨_,Le.forget [(5,nB false)] ⟨rfl,trivial⟩,_,rfl,hΦ1 (hI1.trans (zHO (fun h=>by omega)))⟩
   obtain⟨keys1,w1,hat1,_,hnd1⟩:=hI2.here hnd;obtain⟨v,hcv,hv⟩:=hat1.full;refine yCo ?_;refine evS ?_;refine evS ?_;rw[show decide (i<0)=false from decide_eq_false hi]
   refine evS ?_;refine zDA (g:=22) rfl rfl rfl ?_;refine evS ?_;refine zDA (g:=22) rfl rfl rfl ?_;refine evS (hs:=(zDy hlp (.inr rfl) rfl rfl)) ?_;refine zDA (g:=22) rfl rfl rfl ?_;refine evS (hs:=(zFm hlp rfl rfl)) ?_;refine zDA (g:=22) rfl rfl rfl ?_;refine evS (hs:=(zFR hlp rfl rfl rfl rfl rfl rfl rfl)) ?_;refine zDA (g:=22) rfl rfl rfl ?_;refine zEl (off:=3) (sz:=4) rfl rfl rfl rfl rfl rfl rfl hlp rfl hcv rfl ?_;refine zDA (g:=22) rfl rfl rfl ?_
   refine evS (hs:=(zYD hv rfl rfl rfl rfl rfl)) ?_;refine zDA (g:=22) rfl rfl rfl ?_;refine evS ?_
   by_cases hi2:(ks.length:Int)<=i
   ·rw[show decide ((ks.length:Int)<=i)=true from decide_eq_true hi2]
    refine evS ?_;refine zAI rfl (fun _=>?_) (fun h=>by cases h)
    refine yCp ?_;refine zAd ?_;unfold zJv;exact⟨_,Le.forget [(5,nB false)] ⟨rfl,trivial⟩,_,rfl,hΦ1 (hI1.trans (zHO (n:=.mk k t c ks) (fun h=>by have:i<(ks.length:Int):=h.2; omega)))⟩
   rw[show decide ((ks.length:Int)<=i)=false from decide_eq_false hi2]
   refine evS ?_;refine zAI rfl (fun h=>by cases h) (fun _=>?_)
   refine zAe ?_;show Tri ..;have hi0:i.toNat<ks.length :=(by omega);obtain⟨⟨k2,t2,c2,ks2⟩,hx⟩:∃ x,ks[i.toNat]? = some x:=⟨_,List.getElem?_eq_getElem hi0⟩
   obtain⟨b1,rows1,hc1,hr1,hlen1,hole1⟩:=Hole.kid hat1 hlp hnd1 hx;refine zAh (Le.forgetH [(0,p),(1,.s (.sl 1 ((i::s::q).map (irow .i64)))),(4,.s .np),(5,nB false),(6,nI i),(7,nI s)] hp n ⟨rfl,rfl,rfl,rfl,rfl,rfl,trivial⟩ (fun _=>rfl) rfl)<|yCp ?_;refine evS (hs:=(zDy hlp (.inr rfl) rfl rfl)) ?_;refine evS (hs:=(zFm hlp rfl rfl)) ?_;refine evS (hs:=(zFR hlp rfl rfl rfl rfl rfl rfl rfl)) ?_;refine zEl (off:=3) (sz:=4) rfl rfl rfl rfl rfl rfl rfl hlp rfl hc1 rfl ?_
   refine evS ?_;refine zAg rfl rfl rfl rfl rfl (zRC rfl rfl rfl rfl rfl rfl hr1 rfl) ⟨by omega,by rw[hlen1]; omega⟩ ?_;refine evS ?_;refine zAh (Le.forgetH [(0,p),(1,.s (.sl 1 ((i::s::q).map (irow .i64)))),(4,.s .np),(5,nB false),(6,nI i),(7,nI s),(8,.rp b1 4 i.toNat 0)] hp n ⟨rfl,rfl,rfl,rfl,rfl,rfl,rfl,trivial⟩ (fun _=>rfl) rfl)<|zAa<|zAa ?_
   by_cases hs:s<0
   ·refine zAb [] [38] rfl ?_;intro b hb;obtain rfl:true=b:=(hb.trans (decide_eq_true hs)).symm;refine zAI rfl (fun _=>?_) (fun h=>by cases h)
    refine yCp ?_;refine zAd ?_;unfold zJv;exact⟨_,Le.forget [(5,nB false)] ⟨rfl,trivial⟩,_,rfl,hΦ1 (hI1.trans (zHP (n:=.mk k t c ks) (by omega) hx (fun h=>by omega)))⟩
   have hl2:isL 4 (.rp b1 4 i.toNat 0):=.inl ⟨b1,i.toNat,rfl⟩
   have hI4:=Hole.step hnd hI2 hx hc1;obtain⟨keys2,w2,hat2,_,hnd2⟩:=hI4.here hnd;obtain⟨v2,hcv2,hv2⟩:=hat2.full;refine yCo ?_;refine evS ?_;refine evS ?_;rw[show decide (s<0)=false from decide_eq_false hs]
   refine evS ?_;refine zDA (g:=39) rfl rfl rfl ?_;refine evS ?_;refine zDA (g:=39) rfl rfl rfl ?_;refine evS (hs:=(zDy hl2 (.inr rfl) rfl rfl)) ?_;refine zDA (g:=39) rfl rfl rfl ?_;refine evS (hs:=(zFm hl2 rfl rfl)) ?_;refine zDA (g:=39) rfl rfl rfl ?_;refine evS (hs:=(zFR hl2 rfl rfl rfl rfl rfl rfl rfl)) ?_;refine zDA (g:=39) rfl rfl rfl ?_;refine zEl (off:=3) (sz:=4) rfl rfl rfl rfl rfl rfl rfl hl2 rfl hcv2 rfl ?_;refine zDA (g:=39) rfl rfl rfl ?_
   refine evS (hs:=(zYD hv2 rfl rfl rfl rfl rfl)) ?_;refine zDA (g:=39) rfl rfl rfl ?_;refine evS ?_
   by_cases hs2:(ks2.length:Int)<=s
   ·rw[show decide ((ks2.length:Int)<=s)=true from decide_eq_true hs2]
    refine evS ?_;refine zAI rfl (fun _=>?_) (fun h=>by cases h)
    refine yCp ?_;refine zAd ?_;unfold zJv;exact⟨_,Le.forget [(5,nB false)] ⟨rfl,trivial⟩,_,rfl,hΦ1 (hI1.trans (zHP (n:=.mk k t c ks) (by omega) hx (fun h=>by have:s<(ks2.length:Int):=h.2; omega)))⟩
   rw[show decide ((ks2.length:Int)<=s)=false from decide_eq_false hs2]
   refine evS ?_;refine zAI rfl (fun h=>by cases h) (fun _=>?_)
   refine zAe ?_;show Tri ..;have hs0:s.toNat<ks2.length :=(by omega);obtain⟨z,hz⟩:∃ z,ks2[s.toNat]? = some z:=⟨_,List.getElem?_eq_getElem hs0⟩
   obtain⟨b2,rows2,hc2,hr2,hlen2,hole2⟩:=Hole.kid hat2 hl2 hnd2 hz;refine zAh (Le.forgetH [(0,p),(1,.s (.sl 1 ((i::s::q).map (irow .i64)))),(4,.s .np),(5,nB false),(6,nI i),(7,nI s),(8,.rp b1 4 i.toNat 0)] hp n ⟨rfl,rfl,rfl,rfl,rfl,rfl,rfl,trivial⟩ (fun _=>rfl) rfl)<|yCo ?_;refine evS (hs:=(zDy hl2 (.inr rfl) rfl rfl)) ?_;refine evS (hs:=(zFm hl2 rfl rfl)) ?_;refine evS (hs:=(zFR hl2 rfl rfl rfl rfl rfl rfl rfl)) ?_;refine zEl (off:=3) (sz:=4) rfl rfl rfl rfl rfl rfl rfl hl2 rfl hc2 rfl ?_
   refine evS ?_;refine zAg rfl rfl rfl rfl rfl (zRC rfl rfl rfl rfl rfl rfl hr2 rfl) ⟨by omega,by rw[hlen2]; omega⟩ ?_;refine evS ?_;refine zAh (Le.forgetH [(0,.rp b2 4 s.toNat 0),(1,.s (.sl 1 ((i::s::q).map (irow .i64)))),(4,.s .np),(5,nB false)] hp n ⟨rfl,rfl,rfl,rfl,trivial⟩ (fun _=>rfl) rfl)<|yCo ?_;have h2l:(2:Int)<=((((i::s::q).map (irow .i64)).length:Nat):Int) :=(by simp only[map_cons,length_cons]; omega);refine evS ?_
   refine zAg rfl rfl rfl rfl rfl rfl ⟨by decide,h2l,Int.le_refl _⟩ ?_;refine evS ?_;have hI5:=Hole.step hnd hI4 hz hc2;refine⟨(.rp b2 4 s.toNat 0,z,q,fun r=>F (.mk k t c (ks.set i.toNat (.mk k2 t2 c2 (ks2.set s.toNat r))))),⟨?_,hI5,?_⟩,Le.forgetH [(0,.rp b2 4 s.toNat 0),(1,.s (.sl 1 (q.map (irow .i64)))),(4,.s .np),(5,nB false)] hp n ⟨rfl,congrArg (fun z=>AV.s (.sl 1 z)) ?_,rfl,rfl,trivial⟩ (fun _=>rfl) rfl,?_⟩
   ·exact hI1.trans (zPA (n:=.mk k t c ks) (by omega) hx (by omega) hz)
   ·intro r;exact(hI3 r).trans (congrArg F (zYn hx hz))
   ·show List.drop 2 (List.take ((((i::s::q).map (irow .i64)).length:Nat):Int).toNat ((i::s::q).map (irow .i64)))=_;rw[Int.toNat_natCast,take_length]; rfl
   ·show q.length<q.length+1+1
    omega
 ·refine zAD ?_;refine zAh (Le.forgetH [(0,p),(1,.s (.sl 1 (q.map (irow .i64)))),(4,.s .np),(5,nB false)] hp n ⟨rfl,rfl,rfl,rfl,trivial⟩ (fun _=>rfl) rfl)<|yCp ?_;refine evS (hs:=(zDy hlp (.inr rfl) rfl rfl)) ?_
  match q,hI1,hI3,hb with
  | [],hI1,hI3,_ =>
   refine evS ?_;refine evS ?_;refine evS ?_;refine evS (hs:=(zDy hlp (.inl rfl) rfl rfl)) ?_;refine evS ?_;refine zAd ?_;have hd:AV.deep p=p:=by rcases hlp with ⟨_,_,rfl⟩ | ⟨_,rfl⟩ <;> rfl
   unfold zJv;refine⟨_,Le.forget [(4,p),(5,nB true)] ⟨rfl,rfl,trivial⟩,.tup [p,nB true],?_,hΦ2 p (.mk k t c ks) F (hI1.trans rfl) hI2 fun r=>(hI3 r).trans (by rw[zZG])⟩
   show some (AV.tup [AV.deep p,nB true])=_;rw[hd]
  | [i],hI1,_,_ =>
   refine evS ?_;refine evS ?_;refine evS ?_;refine evS (hs:=(zDy hlp (.inl rfl) rfl rfl)) ?_;refine evS ?_;refine zAd ?_;unfold zJv;exact⟨_,Le.forget [(5,nB false)] ⟨rfl,trivial⟩,_,rfl,hΦ1 (hI1.trans rfl)⟩
  | i::s::p,_,_,hb=>exact absurd (of_decide_eq_false hb) (by simp only[map_cons,length_cons]; omega)
theorem zJg {T:Nat->Option TI}{σ:St}{t ty q bt u:Nat}{i:TI}{cells:List AV} (h1:σ.env t = .op q 0) (h2:σ.hp q=some (.box bt cells)) (h3:T ty=some i) (ha:i.k.agg=true) (hz:i.size=cells.length):zH9 T σ [.cell t ty,.tmp u]=some (.tup [AV.deep (.agg cells),(σ.env u).deep]):=by
 have hb:Nat.ble i.size cells.length=true :=(by rw[hz]; exact Nat.ble_eq_true_of_le (Nat.le_refl _));simp only[zH9,zIX,zTA,h1,h2,h3,ha,hb]
 rw[hz,take_length]
variable {keys:List Nat}{hp:Nat->Option Ob}
theorem Hole.base {e:Nat}{p p1:AV}{y:Nd}{F:Nd->Nd} (h:Hole hp e p keys p1 y F):zBt p1=zBt p∨zBt p1∈keys:=by
 obtain⟨keys0,rest,w0,a1,a2,a3,a4,_⟩:=h;rcases a4 with rfl | a4
 ·exact .inl rfl
 ·exact .inr (a1.mem_iff.2 (mem_append_right _ a4))
theorem At.ofV {e:Nat}{p v:AV}{k c:Int}{t:List UInt8}{ks:List Nd} (hc:zAQ hp p=some (zBh k t c v)) (h:VAt hp e v ks keys):∃ w,At hp e p (.mk k t c ks) keys [] w:=by
 rcases h with ⟨rfl,rfl,rfl⟩ | ⟨q,rows,keys',w,rfl,h1,h2,rfl,h3⟩
 ·exact⟨0,by simp only[At]; exact⟨_,hc,.inr (.inl (by simp))⟩⟩
 ·exact⟨w,by simp only[At]; exact⟨_,hc,.inr (.inr ⟨q,rows,keys',rfl,h1,h2,rfl,h3⟩)⟩⟩
def zTW (n:Nat) (xs:List AV) (r:Ret):Prop:=∃ (a0:Nd) (a1:List Int) (a2:Nd) (y0:Nd) (y1:Int),zFf n a0 a1 a2=some (y0,y1)/\xs=[.agg ((Nd.enc a0).map .s),.s (.sl 1 (a1.map (irow .i64))),.agg ((Nd.enc a2).map .s)]/\r = .val (.tup [.agg ((Nd.enc y0).map .s),nI y1])
def zNc:zAr:=pG zTW
theorem qB {P:Prop} (h:P:=by show putC H3 (.op 0 0) _ 0=_;rw[zGF (bt:=24) (cs:=[nI 0,.s (.str []),nI 0,.nl 4]) g4]; rfl):P:=h
theorem qE {P:Prop} (h:P:=by show putC H (.op 0 0) _ 0=_;rw[zGF (bt:=24) (cs:=[nI 0,.s (.str []),nI 0,.nl 4]) g0]; rfl):P:=h
set_option maxHeartbeats 600000 in
theorem zTe:PSound prog 135 zNc:=by
 have gok:∀ f s,look? f [(27,zDD),(180,zM5),(28,zM4)]=some s->PSound prog f s:=zAn (by
  simp only[forall_mem_cons]
  exact⟨zD9,zQG,zHQ,by simp⟩)
 refine psq tokW call135 func135 rfl ?_;rintro xs r w0 G0 ⟨f,⟨k,t,c,ks⟩,path,⟨rk,rt,rc,rks⟩,y0,y1,h,rfl,rfl⟩ _;rw[zFf]at h;obtain⟨b,hb,h⟩:=zAc h;refine yBn [6] [] rfl ?_;refine zAa<|yCp ?_;refine⟨_,⟨f,_,_,hb,rfl,rfl⟩,?_⟩
 show Tri ..;cases b with
 | false =>
  refine zAI rfl (fun _=>?_) (fun h=>by cases h)
  refine yCp ?_;refine zAd ?_;obtain⟨rfl,rfl⟩:=Prod.mk.inj (Option.some.inj h)
  unfold zBK;exact gR
 | true =>
  refine zAI rfl (fun h=>by cases h) (fun _=>?_)
  refine zAe ?_;show Tri ..;rw[if_pos rfl]at h;obtain⟨n1,hn1,h⟩:=zAc h;obtain⟨hcnt,hn1⟩:=zAx hn1;obtain rfl:=Option.some.inj hn1;refine yBn [8] [] rfl ?_;refine⟨_,⟨k,c,t,ks,hcnt,rfl,fun v hp' n' keys h1 h2 h3 h4 h5=>?_⟩,fun _ _ _ h=>h⟩
  have hv1:v.one=true/\∀ m,n'<m->v.lt m=true:=by
   rcases h3 with ⟨_,rfl,_⟩ | ⟨q,_,_,_,rfl,_,_,hk,_⟩
   ·exact⟨rfl,fun _ _=>rfl⟩
   ·exact⟨rfl,fun m hm=>decide_eq_true (Nat.lt_trans (h5 q (by rw[hk]; exact mem_cons_self)).2 hm)⟩
  refine zS0 (d:=16) ?_;refine evS ?_;refine zHn (sz:=4) (cs:=[nI 0,.s (.str []),nI 0,.nl 4]) (cs':=zBh k t c v) (p:=.op n' 0) rfl rfl rfl rfl rfl (.inr ⟨n',rfl⟩) rfl (zEF (bt:=24) (by show(bif Nat.beq n' n' then _ else hp' n')=_; rw[Nat.beq_refl]; rfl)) rfl rfl rfl (by simp only[zBh,all_cons,all_nil,hv1.1]; rfl) (by have h0:v.lt (n'+1)=true:=hv1.2 _ (Nat.lt_succ_self _); show AV.ltAll (n'+1) (zBh k t c v)=true; simp only[zBh,AV.ltAll,h0]; rfl) ?_;show Tri ..
  refine zIZ [(1,.s (.sl 1 (path.map (irow .i64)))),(5,.s (.pt (Nd.enc (.mk rk rt rc rks)))),(6,.op 0 0),(8,.op n' 0)] (n'+1) ⟨rfl,rfl,rfl,rfl,trivial⟩ rfl fun H hH=>?_
  have g1:H n'=some (.box 24 (zBh k t c v)):=(hH n').trans (by
   show putC (fun m=>bif Nat.beq m n' then some (Ob.box 24 [nI 0,.s (.str []),nI 0,.nl 4]) else hp' m) (.op n' 0) (zBh k t c v) n'=_;rw[zGF (bt:=24) (cs:=[nI 0,.s (.str []),nI 0,.nl 4]) (by simp only[Nat.beq_refl,cond_true])]
   simp only[Nat.beq_refl,cond_true])
  have g2:∀ m,m<n'->H m=hp' m:=fun m hm=>(hH m).trans (by
   show putC (fun m=>bif Nat.beq m n' then some (Ob.box 24 [nI 0,.s (.str []),nI 0,.nl 4]) else hp' m) (.op n' 0) (zBh k t c v) m=_;rw[zB2 (show m ≠ n' by omega),zEE (show m ≠ n' by omega)]; rfl)
  clear hH
  have g0:H 0=some (.box 24 [nI 0,.s (.str []),nI 0,.nl 4]):=(g2 0 h1).trans (h2 0 (Nat.lt_succ_self 0))
  obtain⟨w,hat⟩:=At.ofV (zEF g1) (h3.frame fun m hm=>g2 m (h5 m hm).2)
  have hnd:(zBt (.op n' 0)::keys).Nodup:=List.nodup_cons.2 ⟨fun hm=>Nat.lt_irrefl _ (h5 n' hm).2,h4⟩
  refine yCp ?_;refine⟨_,⟨.op n' 0,.mk k t c ks,path,keys,w,rfl,.inr ⟨n',rfl⟩,hat,hnd,fun hf=>?_,fun p1 y F hf hole hF=>?_⟩,fun _ _ _ h=>h⟩
  ·rw[hf]at h;refine zAa<|yCp ?_;refine zAI rfl (fun _=>?_) (fun h=>by cases h)
   obtain⟨rfl,rfl⟩:=Prod.mk.inj (Option.some.inj h)
   refine zAh (Le.forgetH [(6,.op 0 0)] H (n'+1) ⟨rfl,trivial⟩ (fun _=>rfl) rfl)<|yCp ?_;refine evS ?_;refine zHn (sz:=4) (cs:=[nI 0,.s (.str []),nI 0,.nl 4]) (cs':=[nI 0,.s (.str []),nI 0,.nl 4]) (p:=.op 0 0) rfl rfl rfl rfl rfl (.inr ⟨0,rfl⟩) rfl (zEF (bt:=24) g0) rfl rfl rfl rfl rfl ?_;refine evS ?_;refine zAd ?_;unfold zBK
   refine⟨_,Le.refl _ _,(zJg (bt:=24) (cells:=[nI 0,.s (.str []),nI 0,.nl 4]) rfl ?_ rfl rfl rfl).trans rfl,rfl⟩
   exact qE
  ·rw[hf]at h;obtain⟨keys1,w1,hat1,hl1,hnd1⟩:=hole.here hnd;refine zS0 (d:=19) ?_;refine evS ?_;refine evS ?_;refine evS ?_;refine evS (hs:=(zDy hl1 (.inl rfl) rfl rfl)) ?_;refine evS ?_;refine zAh (Le.forgetH [(5,.s (.pt (Nd.enc (.mk rk rt rc rks)))),(6,.op 0 0),(8,.op n' 0),(9,p1),(10,nB true)] H (n'+1) ⟨rfl,rfl,rfl,rfl,rfl,trivial⟩ (fun _=>rfl) rfl)<|zAa<|yCp ?_;show Tri ..
   refine zAI rfl (fun h=>by cases h) (fun _=>?_)
   refine zAe ?_;show Tri ..;obtain⟨b2,hb2,h⟩:=zAc h;refine zAa<|yCp ?_;refine⟨_,⟨f,_,_,hb2,rfl,rfl⟩,?_⟩
   show Tri ..;cases b2 with
   | false =>
    refine zAI rfl (fun _=>?_) (fun h=>by cases h)
    obtain⟨rfl,rfl⟩:=Prod.mk.inj (Option.some.inj h)
    refine zAh (Le.forgetH [(6,.op 0 0)] H (n'+1) ⟨rfl,trivial⟩ (fun _=>rfl) rfl)<|yCp ?_;refine evS ?_;refine zHn (sz:=4) (cs:=[nI 0,.s (.str []),nI 0,.nl 4]) (cs':=[nI 0,.s (.str []),nI 0,.nl 4]) (p:=.op 0 0) rfl rfl rfl rfl rfl (.inr ⟨0,rfl⟩) rfl (zEF (bt:=24) g0) rfl rfl rfl rfl rfl ?_;refine evS ?_;refine zAd ?_;unfold zBK
    refine⟨_,Le.refl _ _,(zJg (bt:=24) (cells:=[nI 0,.s (.str []),nI 0,.nl 4]) rfl ?_ rfl rfl rfl).trans rfl,rfl⟩
    exact qE
   | true =>
    refine zAI rfl (fun h=>by cases h) (fun _=>?_)
    refine zAe ?_;show Tri ..;rw[if_pos rfl]at h;obtain⟨n2,hn2,h⟩:=zAc h;obtain⟨hcnt2,hn2⟩:=zAx hn2;obtain rfl:=Option.some.inj hn2;refine zAh (Le.forgetH [(5,.s (.pt (Nd.enc (.mk rk rt rc rks)))),(6,.op 0 0),(8,.op n' 0),(9,p1)] H (n'+1) ⟨rfl,rfl,rfl,rfl,trivial⟩ (fun _=>rfl) rfl)<|yCp ?_;refine evS (hs:=(zDy hl1 (.inr rfl) rfl rfl)) ?_;refine evS ?_;refine⟨_,⟨rk,rc,rt,rks,hcnt2,rfl,fun v2 hp2 n2 keys2 q1 q2 q3 q4 q5=>?_⟩,fun _ _ _ h=>h⟩
    refine zS0 (d:=31) ?_;refine evS (hs:=(zFm hl1 rfl rfl)) ?_;have hb1:zBt p1<n'+1:=by
     rcases hole.base with h | h
     ·have:zBt p1=n':=h
      omega
     ·have:=(h5 _ h).2; omega
    obtain⟨yk,yt,yc,yks⟩:=y;obtain⟨vy,hcy,_⟩:=hat1.full;have hcy2:zAQ hp2 p1=some (zBh yk yt yc vy):=(zCz hl1 (q2 _ hb1)).trans hcy;have hv2:v2.one=true/\v2.lt n2=true:=by
     rcases q3 with ⟨_,rfl,_⟩ | ⟨q,_,_,_,rfl,_,_,hk,_⟩
     ·exact qH
     ·exact⟨rfl,decide_eq_true (q5 q (by rw[hk]; exact mem_cons_self)).2⟩
    refine zHn (sz:=4) (cs':=zBh rk rt rc v2) rfl rfl rfl rfl rfl hl1 rfl hcy2 rfl rfl rfl (by simp only[zBh,all_cons,all_nil,hv2.1]; rfl) (by show AV.ltAll n2 (zBh rk rt rc v2)=true; simp only[zBh,AV.ltAll,hv2.2]; rfl) ?_;show Tri ..;refine zIZ [(6,.op 0 0),(8,.op n' 0)] n2 ⟨rfl,rfl,trivial⟩ rfl fun H2 hH2=>?_
    have hH2:∀ m,H2 m=putC hp2 p1 (zBh rk rt rc v2) m:=hH2
    have hcp:zAQ H2 p1=some (zBh rk rt rc v2):=(zCz hl1 (hH2 _)).trans (zJ4 hl1 hcy2)
    have hb2k:∀ m∈keys2,H2 m=hp2 m:=fun m hm=>(hH2 m).trans (zB2 (by have hm1:n'+1<=m:=(q5 m hm).1; omega))
    obtain⟨w3,hat3⟩:=At.ofV hcp (q3.frame hb2k)
    obtain⟨keys0,rest,w0',a1,a2,a3,a4,a5⟩:=hole;have hrest:∀ m,m=n'∨m∈rest->m<n'+1:=fun m hm=>by
     rcases hm with rfl | hm
     ·omega
     ·have:=(h5 m (a1.mem_iff.2 (mem_append_right _ hm))).2; omega
    obtain⟨keys3,w4,hperm,hfin⟩:=a5 H2 (.mk rk rt rc rks) keys2 w3 (Sim.put (c:=zBh rk rt rc v2) hl1 hcy fun m hm=>(hH2 m).trans (zJd hl1 (q2 m (hrest m hm)) (q2 _ hb1))) hat3;have hput:F (.mk rk rt rc rks)=putL (.mk k t c ks) path (.mk rk rt rc rks):=(hF _).symm;rw[hput]at hfin;have hn0:∀ m,m=n'∨m∈keys3->m ≠ 0:=fun m hm=>by
     have e1:1<=n':=h1;rcases hm with rfl | hm
     ·omega
     ·rcases List.mem_append.1 (hperm.mem_iff.1 hm) with hm | hm
      ·have e2:1<=m:=(h5 m (a1.mem_iff.2 (mem_append_right _ hm))).1
       omega
      ·have e2:n'+1<=m:=(q5 m hm).1
       omega
    have hatD:At (fun m=>bif Nat.beq m 0 then none else H2 m) 24 (.op n' 0) (putL (.mk k t c ks) path (.mk rk rt rc rks)) keys3 [] w4:=hfin.frame (.inr ⟨n',rfl⟩) fun m hm=>by rw[zEE (hn0 m hm)]; rfl
    obtain⟨cs,hcs,hrd⟩:=hatD.rd;rcases zC7 (sz:=4) (.inr ⟨n',rfl⟩) hcs with ⟨q,i,e,rows,h1,_⟩ | ⟨q,bt,h1,hbt⟩
    ·cases h1
    cases h1;refine zAh (Le.givePart [(6,.op 0 0),(8,.s (.pt (Nd.enc (putL (.mk k t c ks) path (.mk rk rt rc rks)))))] (fun m=>bif Nat.beq m 0 then none else H2 m) (fun m=>bif Nat.beq m 0 then H2 m else none) (fun m ob hm=>by
     cases e:Nat.beq m 0 with
     | true=>rw[e]at hm; cases hm
     | false=>rw[e]at hm; exact hm) (fun m ob hm=>by
     cases e:Nat.beq m 0 with
     | true=>rw[e]at hm; exact hm
     | false=>rw[e]at hm; cases hm) (fun m ob ob' h1 h2=>by
     cases e:Nat.beq m 0 with
     | true=>rw[e]at h1; cases h1
     | false=>rw[e]at h2; cases h2) ⟨.inl rfl,.inr (Rd.box (off:=0) hbt hrd.1 hrd.2),trivial⟩) ?_
    have hb0:0 ≠ zBt p1:=by
     rcases a4 with rfl | a4
     ·exact Ne.symm (hn0 n' (.inl rfl))
     ·exact Ne.symm (hn0 _ (.inr (hperm.mem_iff.2 (mem_append_left _ a4))))
    have g3:H2 0=some (.box 24 [nI 0,.s (.str []),nI 0,.nl 4]):=(hH2 0).trans ((zB2 hb0).trans ((q2 0 (Nat.succ_pos n')).trans g0))
    clear hrd hcs hatD hfin hput
    generalize putL (.mk k t c ks) path (.mk rk rt rc rks)=T1 at *;obtain⟨k9,t9,c9,ks9⟩:=T1;obtain⟨b3,hb3,h⟩:=zAc h;refine zIZ [(6,.op 0 0),(8,.s (.pt (Nd.enc (.mk k9 t9 c9 ks9))))] n2 ⟨rfl,rfl,trivial⟩ rfl fun H3 hH3=>?_
    have g4:H3 0=some (.box 24 [nI 0,.s (.str []),nI 0,.nl 4]):=(hH3 0).trans g3;refine zAa<|yCp ?_;refine⟨_,⟨f,_,_,hb3,rfl,rfl⟩,?_⟩
    show Tri ..;cases b3 with
    | false =>
     refine zAI rfl (fun _=>?_) (fun h=>by cases h)
     obtain⟨rfl,rfl⟩:=Prod.mk.inj (Option.some.inj h)
     refine zAh (Le.forgetH [(6,.op 0 0)] H3 n2 ⟨rfl,trivial⟩ (fun _=>rfl) rfl)<|yCp ?_;refine evS ?_;refine zHn (sz:=4) (cs:=[nI 0,.s (.str []),nI 0,.nl 4]) (cs':=[nI 0,.s (.str []),nI 0,.nl 4]) (p:=.op 0 0) rfl rfl rfl rfl rfl (.inr ⟨0,rfl⟩) rfl (zEF (bt:=24) g4) rfl rfl rfl rfl rfl ?_;refine evS ?_;refine zAd ?_;unfold zBK
     refine⟨_,Le.refl _ _,(zJg (bt:=24) (cells:=[nI 0,.s (.str []),nI 0,.nl 4]) rfl ?_ rfl rfl rfl).trans rfl,rfl⟩
     exact qB
    | true =>
     refine zAI rfl (fun h=>by cases h) (fun _=>?_)
     obtain⟨rfl,rfl⟩:=Prod.mk.inj (Option.some.inj h)
     refine zAe ?_;refine zAh (Le.forgetH [(6,.op 0 0),(8,.s (.pt (Nd.enc (.mk k9 t9 c9 ks9))))] H3 n2 ⟨rfl,rfl,trivial⟩ (fun _=>rfl) rfl)<|yCp ?_;refine evS ?_;refine zHn (sz:=4) (cs:=[nI 0,.s (.str []),nI 0,.nl 4]) (cs':=zBh k9 t9 c9 (.s (.sl 4 (Nd.encs ks9)))) (p:=.op 0 0) rfl rfl rfl rfl rfl (.inr ⟨0,rfl⟩) rfl (zEF (bt:=24) g4) rfl rfl rfl rfl rfl ?_;refine evS ?_;refine zAd ?_;unfold zBK
     refine⟨_,Le.refl _ _,(zJg (bt:=24) (cells:=zBh k9 t9 c9 (.s (.sl 4 (Nd.encs ks9)))) rfl ?_ rfl rfl rfl).trans rfl,rfl⟩
     exact qB
end Go.Proofs.YtbfnjnljboncgaaGreat
namespace Go.Abs
theorem PSound.giveTop {P:Program}{f e sz:Nat}{R:List AV->(Nat->Option Ob)->Nat->(AV->(Nat->Option Ob)->Nat->Prop)->Prop}{S:List AV->List S->List (List S)->Prop} (h:PSound P f (zSU R))
  (hS:∀ xs cs rs,S xs cs rs->R xs (fun _=>none) 0 fun x hp n=>∃ q rows hpD,x = .agg (cs.map .s++[.orow q])/\hp q=some (.arow e sz rows)/\rows.length=rs.length/\(∀ r∈rs,r.length=sz)/\(∀ k ob,hpD k=some ob->hp k=some ob/\k ≠ q) /\
   ∀ (i:Nat) x s,rows.flatten[i]? = some x->rs.flatten[i]? = some s->Rd hpD x s) :
  PSound P f (zEA fun xs os x os'=>∃ cs rs,os=[]/\x = .agg (cs.map .s++[.orow 0])/\os'=[some (.row e sz rs)]/\S xs cs rs):=by
 refine PSound.ofOwn h.1 fun G w β xs vs os x os' hlt hgl hv hxl hob ⟨cs,rs,ho,hx,ho',hs⟩=>?_
 subst ho; subst hx; subst ho'
 refine(h.2.2.2 R rfl G w β xs vs (fun _=>none) 0 _ hlt hgl hv hxl ⟨fun k ob hk=>(by cases hk),fun k ob hk=>(by cases hk),fun k k' ob ob' hk=>(by cases hk)⟩ (hS xs cs rs hs)).mono ?_;rintro e' w' ⟨v,G',β',x,hp',n',rfl,⟨q,rows,hpD,rfl,hq,hlen,hsz,hD,hrd⟩,hn,hfr,hsub,hnew,hlt',hx,hxl,hob,hst⟩
 let c:Cx:=zFA P w β (fun _=>none) 0 G 0
 have hk:Keep G G' w w':=⟨hsub,fun b hb=>hfr.old b (hlt b hb) (by rintro⟨k,ob,h,_⟩; cases h)⟩
 have hc:Conc c G' β' ⟨fun _=>.junk,hpD,n'⟩ { tmps:=#[],defers:=[] } w':={
  defers:=rfl
  size:=rfl
  env:=fun t=>by simp only[AVal]
  envlt:=fun t=>rfl
  hp:=fun k ob hk=>hob.obs k ob (hD k ob hk).1
  hplt:=fun k ob hk=>hob.lts k ob (hD k ob hk).1
  inj:=fun k k' ob ob' hk hk'=>hob.inj k k' ob ob' (hD k ob hk).1 (hD k' ob' hk').1
  lt:=hlt'
  sub:=hsub
  new:=hnew
  fr:=hfr
  stay:=⟨hn,hst⟩
  glob:=hgl.keep hk }
 have hmine:∀ b,c.mine b->w.heap.size<=b:=fun b hb=>by
  rcases hb with ⟨k,ob,h,_⟩ | h
  ·cases h
  ·exact h
 have hk':Keep G' (allG G' β' hpD) w' w':=⟨fun _ h=>.inl h,fun _ _=>rfl⟩
 refine⟨v,allG G' β' hpD,fun _=>β' q,rfl,⟨hfr.os,hfr.tape,hfr.output,hfr.size,fun b hb _=>hfr.old b hb (by rintro⟨k,ob,h,_⟩; cases h)⟩,fun b hb=>.inl (hsub b hb),fun b hb=>?_,fun b hb=>?_,?_,?_,Nat.zero_le _,⟨fun i ob hi=>?_,fun i j ob ob' hi hj hne=>?_⟩,fun i ob hi=>absurd hi (Nat.not_lt_zero _)⟩
 ·rcases hb with hb | ⟨k,ob,h1,h2⟩
  ·exact(hnew b hb).imp id fun h=>.inr (hmine b h)
  ·exact .inr (.inr (hmine b (row_block (hc.hp k ob h1) b h2).2))
 ·rcases hb with hb | ⟨k,ob,h1,h2⟩
  ·exact hlt' b hb
  ·exact hc.blk_lt h1 h2
 ·simp only[AVal]at hx ⊢;obtain⟨us,rfl,hus⟩:=hx;refine⟨us,rfl,AVals.mk (by rw[hus.length]; simp) fun i y u hy hu=>?_⟩
  rw[List.getElem?_append]at hy
  by_cases hi:i<(cs.map AV.s).length
  ·rw[if_pos hi]at hy;obtain⟨u',hu',hr⟩:=hus.get (i:=i) (x:=y) (by rw[List.getElem?_append,if_pos hi]; exact hy)
   rw[hu]at hu'; cases hu'
   rw[List.getElem?_map]at hy;obtain⟨s,_,rfl⟩:=Option.map_eq_some_iff.1 hy;simp only[AVal]at hr ⊢;exact hr.keep hk'
  ·rw[if_neg hi]at hy;have h0:i - (cs.map AV.s).length=0 :=(by have:=(List.getElem?_eq_some_iff.1 hy).1; simpa using this);rw[h0]at hy;cases hy;obtain⟨u',hu',hr⟩:=hus.get (i:=i) (x:=.orow q) (by rw[List.getElem?_append,if_neg hi,h0]; rfl)
   rw[hu]at hu'; cases hu'
   simp only[AVal]at hr ⊢;exact hr
 ·simp only[AV.lt]
  refine zCD fun i y hy=>?_
  rw[List.getElem?_append]at hy;split at hy
  ·rw[List.getElem?_map]at hy;obtain⟨s,_,rfl⟩:=Option.map_eq_some_iff.1 hy
   rfl
  ·rename_i hi
   have h0:i - (cs.map AV.s).length=0 :=(by have:=(List.getElem?_eq_some_iff.1 hy).1; simpa using this);rw[h0]at hy;cases hy
   rfl
 ·match i,hi with
  | 0,hi =>
   cases hi;refine⟨?_,rfl⟩
   obtain⟨hl,hz,ho⟩:=hob.obs q _ hq;refine⟨hsz,hz,?_⟩
   rcases ho with ⟨h1,rfl⟩ | ⟨b,cap,cur,h1,h2,h3,h4,h5,h6,h7⟩
   ·exact .inl ⟨h1,List.length_eq_zero_iff.1 (by simpa using hlen.symm)⟩
   ·refine .inr ⟨b,cap,cur,by rw[← hlen]; exact h1,by rw[← hlen]; exact h2,h3,h4,?_,.inr (hmine b h6),fun i s hi=>?_⟩
    ·rintro(hb | ⟨k,ob,g1,g2⟩)
     ·exact h5 hb
     ·exact hob.inj k q ob _ (hD k ob g1).1 hq (hD k ob g1).2 b g2 (by rw[h1]; rfl)
    ·have hfl:=zAT hl;have hfs:=zAT hsz;have hil:i<rows.flatten.length :=(by rw[hfl,hlen,← hfs]; exact(List.getElem?_eq_some_iff.1 hi).1);obtain⟨u,hu,hr',_⟩:=h7 i _ (List.getElem?_eq_getElem hil)
     exact⟨u,hu,(hrd i _ s (List.getElem?_eq_getElem hil) hi).rep hc hr'⟩
  | i+1,hi=>simp at hi
 ·match i,j,hi,hj with
  | 0,0,_,_=>exact absurd rfl hne
  | 0,j+1,_,hj=>simp at hj
  | i+1,_,hi,_=>simp at hi
end Go.Abs
namespace Go.Proofs.YtbfnjnljboncgaaGreat
open Go.Abs
theorem VAt.rd {hp:Nat->Option Ob}{e:Nat}{v:AV}{ks:List Nd}{keys:List Nat} (h:VAt hp e v ks keys):Rd hp v (.sl 4 (Nd.encs ks)):=by
 rcases h with ⟨rfl,rfl,_⟩ | ⟨q,rows,keys',w,rfl,hq,hlen,rfl,h⟩
 ·exact .s _
 ·exact Rd.rows hq hlen fun j x hj=>(by have:=LAt.rd h j x hj; rwa [Nat.zero_add]at this)
def zWc (xs:List AV) (cs:List S) (rs:List (List S)):Prop:=∃ (a0:Nd) (k c:Int) (t:List UInt8) (ks:List Nd),zCW a0=some (.mk k t c ks)/\xs=[.agg ((Nd.enc a0).map .s)]/\cs=[.int .i64 k,.str t,.int .i64 c]/\rs=Nd.encs ks
theorem zN1:PSound prog 28 (zEA fun xs os x os'=>∃ cs rs,os=[]/\x = .agg (cs.map .s++[.orow 0])/\os'=[some (.row 24 4 rs)]/\zWc xs cs rs):=by
 refine PSound.giveTop zHQ fun xs cs rs ⟨⟨k0,t0,c0,ks0⟩,k,c,t,ks,hm,hx,hcs,hrs⟩=>?_
 subst hx; subst hcs; subst hrs
 obtain⟨⟨hq,hne⟩,hm⟩:=zAx hm;cases hm;refine⟨k0,c0,t0,ks0,hq,rfl,fun v hp' n' keys _ _ hv hnd _=>?_⟩
 rcases hv with ⟨rfl,_⟩ | ⟨q,rows,keys',w,rfl,hq,hlen,rfl,hl⟩
 ·exact absurd rfl hne
 refine⟨q,rows,fun k=>if k∈keys' then hp' k else none,rfl,hq,by rw[Nd.encs_eq,length_map]; exact hlen,fun r hr=>?_,fun k ob hk=>?_,zUU fun j r s hr hs=>?_⟩
 ·rw[Nd.encs_eq]at hr;obtain⟨x,_,rfl⟩:=List.mem_map.1 hr;cases x; rfl
 ·dsimp only at hk;split at hk
  ·rename_i hm
   exact⟨hk,fun e=>(List.nodup_cons.1 hnd).1 (by rw[← e]; exact hm)⟩
  ·cases hk
 ·rw[Nd.encs_eq,List.getElem?_map]at hs;cases hx:ks0[j]? with
  | none=>rw[hx]at hs; cases hs
  | some x =>
   rw[hx]at hs; cases hs
   obtain⟨keys0,rest,w0,hperm,hat,_⟩:=LAt.hole (i:=0) hl hnd hx;rw[Nat.zero_add]at hat;obtain⟨k2,t2,c2,ks2⟩:=x;obtain⟨v,hc,hv⟩:=hat.full;rw[zF8 hq,hr]at hc;cases hc;exact RdC.node (VAt.rd (hv.frame fun k hk=>by
    show(if k∈keys' then hp' k else none)=hp' k;rw[if_pos (hperm.mem_iff.2 (mem_append_left _ hk))]))
def zM6 (xs:List AV) (os:List Ob) (x:AV) (os':List (Option Ob)):Prop:=∃ (a0:Nd) (y0:Nd),zCW a0=some y0/\xs=[.agg ((Nd.enc a0).map .s)]/\os=[]/\x = .agg (match y0 with | .mk k t c _=>[nI k,nS t,nI c,.orow 0])/\os'=[some (.row 24 4 (match y0 with | .mk _ _ _ ks=>Nd.encs ks))]
def zGh:zAr:=zEA (fun xs os x os'=>zM6 xs os x os')
theorem zH1:PSound prog 28 zGh :=
 PSound.ofOwn zN1.1 fun G w β xs vs os x os' h1 h2 h3 h4 h5 ⟨a0,⟨k,t,c,ks⟩,hm,hx,ho,hr,ho'⟩ =>
  zN1.2.2.1 _ rfl G w β xs vs os x os' h1 h2 h3 h4 h5 ⟨[.int .i64 k,.str t,.int .i64 c],Nd.encs ks,ho,hr,ho',a0,k,c,t,ks,hm,hx,rfl,rfl⟩
end Go.Proofs.YtbfnjnljboncgaaGreat
namespace Go.Proofs
open Go.RowKit Go.Lib
theorem Tryz.Grow_nil_sNode (w:World) :
  Calls prog 242 #[.slice none 0 0,.int .i64 0] w fun e w'=>e = .returned (.slice none 0 0)/\w'=w:=by
 have h2:wrap64 0=0:=by unfold wrap64; omega
 go_enter func242,Tryz.ntmps242
 go_wp2
 go_ret
 exact qH
set_option maxHeartbeats 4000000 in
theorem Tryz.Grow_new_sNode (i0:TypeInfo) (z:Value) (hi0:prog.info? 24=some i0) (hz0:i0.zero=some z) (hs0:0<i0.size)
  (n:Nat) (w:World) (hroom:0<n) (hbig:n * i0.bytes<=140737488355328) (h63:n<=4611686018427387904) :
  Calls prog 242 #[.slice none 0 0,.int .i64 n] w fun e w' =>
   e = .returned (.slice (some ⟨w.heap.size,0,none⟩) 0 (grownCap w n 0 24)) /\
   w'=w.drew.alloc (.cells (#[]++Builtin.zeroCells z.cells n++Builtin.zeroCells z.cells (grownCap w n 0 24 - n)) 24):=by
 have h1:¬ ((n:Int)<0) :=(by omega);have h2:wrap64 0=0 :=(by unfold wrap64; omega);have h3:wrap64 (n:Int)=(n:Int) :=(by unfold wrap64; omega);have h4:(n:Int) > 0 :=(by omega);have hold:(Builtin.firstCells i0.size 0 (.slice none 0 0)).run prog w.drew = .ok ([]:List Value).toArray w.drew:=run_firstCells_none w.drew i0.size 0 0 0;have hrz:∀ ty,(Builtin.append_ #[22,3] ty #[.slice none 0 0,.int .i64 (n:Int)]).run prog w =
   .ok (.slice (some ⟨w.heap.size,0,none⟩) n (grownCap w n 0 24)) (w.drew.alloc (.cells (#[]++Builtin.zeroCells z.cells n++Builtin.zeroCells z.cells (grownCap w n 0 24 - n)) 24)):=fun ty=>by
  have h:=Lib.run_append_grow_zeros w 22 3 ty 24 i0 z .i64 .i64 Tryz.underlying22 Tryz.underlying3 hi0 hz0 none 0 0 [] hold n (by omega) hs0 (by omega) (by omega) (by omega)
   (by rw[Nat.zero_add]; exact growslice_fits hroom hbig)
  rw[Nat.zero_add]at h;exact h
 have hGn:n<=grownCap w n 0 24:=grownCap_ge w _ _ _;obtain⟨G,hG⟩:∃ G,G=grownCap w n 0 24:=⟨_,rfl⟩
 rw[← hG]at hrz hGn ⊢;have hG63:G<=9223372036854775807:=by
  have:=grownCap_le_maxLen w n 0 24 (by unfold maxLen; omega)
  rw[← hG]at this;unfold maxLen at this
  omega
 clear hold hG
 go_enter func242,Tryz.ntmps242
 go_wp2_with (at_builtin; refine Lib.wpList_append_run _ rfl _ _ _ _ rfl _ _ rfl rfl _ _ (hrz _) ?_)
 all_goals (go_ret; exact⟨rfl,rfl⟩)
theorem Tryz.Grow_nil_sint (w:World) :
  Calls prog 112 #[.slice none 0 0,.int .i64 0] w fun e w'=>e = .returned (.slice none 0 0)/\w'=w:=by
 have h2:wrap64 0=0:=by unfold wrap64; omega
 go_enter func112,Tryz.ntmps112
 go_wp2
 go_ret
 exact qH
set_option maxHeartbeats 4000000 in
theorem Tryz.Grow_new_sint (i0:TypeInfo) (z:Value) (hi0:prog.info? 3=some i0) (hz0:i0.zero=some z) (hs0:0<i0.size)
  (n:Nat) (w:World) (hroom:0<n) (hbig:n * i0.bytes<=140737488355328) (h63:n<=4611686018427387904) :
  Calls prog 112 #[.slice none 0 0,.int .i64 n] w fun e w' =>
   e = .returned (.slice (some ⟨w.heap.size,0,none⟩) 0 (grownCap w n 0 3)) /\
   w'=w.drew.alloc (.cells (#[]++Builtin.zeroCells z.cells n++Builtin.zeroCells z.cells (grownCap w n 0 3 - n)) 3):=by
 have h1:¬ ((n:Int)<0) :=(by omega);have h2:wrap64 0=0 :=(by unfold wrap64; omega);have h3:wrap64 (n:Int)=(n:Int) :=(by unfold wrap64; omega);have h4:(n:Int) > 0 :=(by omega);have hold:(Builtin.firstCells i0.size 0 (.slice none 0 0)).run prog w.drew = .ok ([]:List Value).toArray w.drew:=run_firstCells_none w.drew i0.size 0 0 0;have hrz:∀ ty,(Builtin.append_ #[36,3] ty #[.slice none 0 0,.int .i64 (n:Int)]).run prog w =
   .ok (.slice (some ⟨w.heap.size,0,none⟩) n (grownCap w n 0 3)) (w.drew.alloc (.cells (#[]++Builtin.zeroCells z.cells n++Builtin.zeroCells z.cells (grownCap w n 0 3 - n)) 3)):=fun ty=>by
  have h:=Lib.run_append_grow_zeros w 36 3 ty 3 i0 z .i64 .i64 Tryz.underlying36 Tryz.underlying3 hi0 hz0 none 0 0 [] hold n (by omega) hs0 (by omega) (by omega) (by omega)
   (by rw[Nat.zero_add]; exact growslice_fits hroom hbig)
  rw[Nat.zero_add]at h;exact h
 have hGn:n<=grownCap w n 0 3:=grownCap_ge w _ _ _;obtain⟨G,hG⟩:∃ G,G=grownCap w n 0 3:=⟨_,rfl⟩
 rw[← hG]at hrz hGn ⊢;have hG63:G<=9223372036854775807:=by
  have:=grownCap_le_maxLen w n 0 3 (by unfold maxLen; omega)
  rw[← hG]at this;unfold maxLen at this
  omega
 clear hold hG
 go_enter func112,Tryz.ntmps112
 go_wp2_with (at_builtin; refine Lib.wpList_append_run _ rfl _ _ _ _ rfl _ _ rfl rfl _ _ (hrz _) ?_)
 all_goals (go_ret; exact⟨rfl,rfl⟩)
end Go.Proofs
namespace Go.Proofs.YtbfnjnljboncgaaGreat
open Go.Abs
theorem zY0 (z:Array Value) (n:Nat):(Builtin.zeroCells z n).size=n * z.size:=by simp[Builtin.zeroCells]
def zJV (xs:List AV) (r:Ret):Prop:=∃ (a0:Int) (y0:List Nd),zEy a0=some y0/\xs=[.nl 4,nI a0]/\r = .row 24 4 (Nd.encs y0)
def zGm:zAr:=yBY fun xs r=>zJV xs r
theorem zJt:PSound prog 242 zGm :=
 ⟨call242,fun G w xs vs r hl hg _ hv ⟨a0,y0,hm,hx,hr⟩=>by
  subst hx; subst hr
  obtain⟨⟨q1,q2⟩,hm⟩:=zAx hm;obtain rfl:=Option.some.inj hm;obtain⟨n,rfl⟩:=Int.eq_ofNat_of_zero_le q1;simp only[AVals,AVal,Rep]at hv;obtain⟨_,_,rfl,rfl,_,_,rfl,rfl,rfl⟩:=hv
  by_cases h0:n=0
  ·subst h0;exact(Tryz.Grow_nil_sNode w).mono fun e w' ⟨h1,h2⟩=>by
    subst h2;exact⟨_,G,h1,Ext.refl hl,fun r hr=>(by cases hr),by decide,.inl ⟨rfl,rfl⟩⟩
  obtain⟨d,info,z,b1,b2,b3,b4,b5,b6,b7,b8,b9,b10⟩:=tokW 24 _ rfl;have i1:info.size=4:=b4;have i2:info.bytes=56:=b5;have hzs:z.cells.size=4:=zI2 b7 b8 b9;refine(Tryz.Grow_new_sNode info z b3 b6 (by omega) n w (by omega) (by rw[i2]; omega) (by omega)).mono fun e w' ⟨h1,h2⟩=>?_
  have hge:n<=grownCap w n 0 24 :=(by unfold grownCap Question.cut; simp);generalize grownCap w n 0 24=g at *;refine⟨_,G,h1,?_,fun r hr=>(by cases hr),by decide,.inr ⟨w.heap.size,g,#[]++Builtin.zeroCells z.cells n++Builtin.zeroCells z.cells (g - n),rfl,Nat.zero_le _,?_,by rw[h2]; exact RowBlk.laid (zCc w.drew _),fun h=>Nat.lt_irrefl _ (hl _ h),Nat.le_refl _,fun i s hi=>by cases hi⟩⟩
  ·rw[h2]
   exact(Ext.drew hl).trans (Ext.own (w:=w.drew) hl _)
  ·simp only[Array.size_append,Array.size_empty,zY0,hzs]
   omega,
 fun R hR=>(by cases hR),fun R hR=>(by cases hR)⟩
def zJn (xs:List AV) (r:Ret):Prop:=∃ (a0:List Nd) (y0:List Nd),zEh a0=some y0/\xs=[.s (.sl 4 (Nd.encs a0))]/\r = .val (.s (.sl 4 (Nd.encs y0)))
def zFZ:zAr:=zAu fun xs r=>zJn xs r
theorem zIT:PSound prog 221 zFZ:=by
 have gok:=@gok0 prog;refine psq tokW call221 func221 rfl ?_;rintro xs r w0 G0 ⟨l,y,h,rfl,rfl⟩ _;obtain⟨hq,h⟩:=zAx h;obtain rfl:=Option.some.inj h;have hlen:(Nd.encs l).length=l.length:=rlen Nd.encs_eq l;refine yCp ?_;refine zAa<|yCp ?_;intro b hb;show Tri ..;cases b with
 | true =>
  have hl:=hb rfl;refine zAI rfl (fun _=>?_) (fun h=>by cases h)
  refine yCp ?_;refine zAd ?_;unfold zBK;exact⟨_,Le.refl _ _,congrArg (fun z=>some (AV.s (.sl 4 z))) hl.symm,rfl⟩
 | false =>
  refine zAI rfl (fun h=>by cases h) (fun _=>?_)
  refine zAe<|yBn [5,7] [] rfl ?_;refine And.intro (show(([]:List (List S)).length+(Nd.encs l).length) * 56<=140737488355328/\([]:List (List S)).length+(Nd.encs l).length<=9223372036854775807 from by rw[hlen]; simp only[length_nil]; omega) ?_;refine zAd ?_;unfold zBK;exact⟨_,Le.giveRow 1 (e:=24) (sz:=4) (rows:=Nd.encs l) rfl,rfl,rfl⟩
def zKq (xs:List AV) (r:Ret):Prop:=∃ (a0:Int) (y0:List Int),zE0 a0=some y0/\xs=[.nl 1,nI a0]/\r = .row 3 1 (iL y0)
def zGV:zAr:=yBY fun xs r=>zKq xs r
theorem zKd:PSound prog 112 zGV :=
 ⟨call112,fun G w xs vs r hl hg _ hv ⟨a0,y0,hm,hx,hr⟩=>by
  subst hx; subst hr
  obtain⟨⟨q1,q2⟩,hm⟩:=zAx hm;obtain rfl:=Option.some.inj hm;obtain⟨n,rfl⟩:=Int.eq_ofNat_of_zero_le q1;simp only[AVals,AVal,Rep]at hv;obtain⟨_,_,rfl,rfl,_,_,rfl,rfl,rfl⟩:=hv
  by_cases h0:n=0
  ·subst h0;exact(Tryz.Grow_nil_sint w).mono fun e w' ⟨h1,h2⟩=>by
    subst h2;exact⟨_,G,h1,Ext.refl hl,fun r hr=>(by cases hr),by decide,.inl ⟨rfl,rfl⟩⟩
  obtain⟨d,info,z,b1,b2,b3,b4,b5,b6,b7,b8,b9,b10⟩:=tokW 3 _ rfl;have i1:info.size=1:=b4;have i2:info.bytes=8:=b5;have hzs:z.cells.size=1:=zI2 b7 b8 b9;refine(Tryz.Grow_new_sint info z b3 b6 (by omega) n w (by omega) (by rw[i2]; omega) (by omega)).mono fun e w' ⟨h1,h2⟩=>?_
  have hge:n<=grownCap w n 0 3 :=(by unfold grownCap Question.cut; simp);generalize grownCap w n 0 3=g at *;refine⟨_,G,h1,?_,fun r hr=>(by cases hr),by decide,.inr ⟨w.heap.size,g,#[]++Builtin.zeroCells z.cells n++Builtin.zeroCells z.cells (g - n),rfl,Nat.zero_le _,?_,by rw[h2]; exact RowBlk.laid (zCc w.drew _),fun h=>Nat.lt_irrefl _ (hl _ h),Nat.le_refl _,fun i s hi=>by cases hi⟩⟩
  ·rw[h2]
   exact(Ext.drew hl).trans (Ext.own (w:=w.drew) hl _)
  ·simp only[Array.size_append,Array.size_empty,zY0,hzs]
   omega,
 fun R hR=>(by cases hR),fun R hR=>(by cases hR)⟩
def zJT (xs:List AV) (r:Ret):Prop:=∃ (a0:List Int) (y0:List Int),zAP a0=some y0/\xs=[.s (.sl 1 (iL a0))]/\r = .val (.s (.sl 1 (iL y0)))
def zC6:zAr:=zAu fun xs r=>zJT xs r
theorem zEi:PSound prog 34 zC6:=by
 have gok:=@gok0 prog;refine psq tokW call34 func34 rfl ?_;rintro xs r w0 G0 ⟨l,y,h,rfl,rfl⟩ _;obtain⟨hq,h⟩:=zAx h;obtain rfl:=Option.some.inj h;have hlen:(iL l).length=l.length:=rlen (fun _=>rfl) l;refine yCp ?_;refine zAa<|yCp ?_;intro b hb;show Tri ..;cases b with
 | true =>
  have hl:=hb rfl;refine zAI rfl (fun _=>?_) (fun h=>by cases h)
  refine yCp ?_;refine zAd ?_;unfold zBK;exact⟨_,Le.refl _ _,congrArg (fun z=>some (AV.s (.sl 1 z))) hl.symm,rfl⟩
 | false =>
  refine zAI rfl (fun h=>by cases h) (fun _=>?_)
  refine zAe<|yBn [5,7] [] rfl ?_;refine And.intro (show(([]:List (List S)).length+(iL l).length) * 8<=140737488355328/\([]:List (List S)).length+(iL l).length<=9223372036854775807 from by rw[hlen]; simp only[length_nil]; omega) ?_;refine zAd ?_;unfold zBK;exact⟨_,Le.giveRow 1 (e:=3) (sz:=1) (rows:=iL l) rfl,rfl,rfl⟩
def zAO (p:List Nd):List S:=[.sl 4 (Nd.encs p)]
variable (n:Nat) (xs:List AV) (r:Ret)
def zIh:Prop:=∃ a0 y0,zBW n a0=some y0/\xs=[.s (.sl 1 ((List.map zAO) a0))]/\r = .row 24 4 (Nd.encs y0)
def zFw:zAr:=pG zIh
theorem yB3 {α:Type}{a b:α} (h:a=b:=by simp[map_append,map_take,map_drop,irow,brow,zF1,map_cons,map_nil,zFx,Nd.encs_eq,Nd.enc,zBu,zAS,zBY,zAO]):a=b :=
 h
theorem jH {P:Prop} (h:P:=by have hy:=osi h;subst hy;unfold zBK;exact⟨_,Le.refl _ _,0,rfl,rfl⟩):P:=h
theorem kH {P:Prop} (h:P:=by refine zAh hle<|yCp ?_;refine zAd ?_;exact jH):P:=h
theorem kT {P:Prop} (h:P:=by refine zAe<|yCo ?_;refine⟨(k,i64.wrap (x3+1),i64.wrap (size4+(e6.length:Int))),h,Le.fgt,Nat.lt_succ_self k⟩):P:=h
theorem zH7:PSound prog 234 zFw:=by
 have gok:=gk1 zJt<|gk0
 refine psq tokW call234 func234 rfl ?_;rintro xs r w0 G0 ⟨n,slices1,y0,h,rfl,rfl⟩ _;rw[zBW]at h;refine yBn [2] [] rfl ?_;refine zAh (Le.rnq [] [(0,.s (.sl 1 ((List.map zAO) slices1)))] [] 0)<|yCp ?_;refine zAa<|yBn [] [10] rfl ?_;intro n2 hn2;obtain rfl:=rlE (fun _=>rfl) slices1 hn2;show Tri ..;obtain⟨size5,hl,h⟩:=zAc h;refine pL [(0,.s (.sl 1 ((List.map zAO) slices1))),(3,nI size5)] ?_ (fun σ' hle=>?_)
 ·refine zAk (zAA (X:=Nat×Int×Int) (fun y=>match y with | (k,x3,size4)=>⟨ofL [(0,.s (.sl 1 ((List.map zAO) slices1))),(3,nI size4),(9,.s (.sl 1 ((List.map zAO) slices1))),(10,nI (slices1.length:Int)),(11,nI x3)],fun _=>none,0⟩) (fun y=>zAW slices1 y.1 y.2.1 y.2.2=some size5) (fun y=>y.1) (n,0,0) hl ?_ ?_)
  ·exact Le.fgt
  ·rintro⟨k,x3,size4⟩ h;cases k with
   | zero=>cases h
   | succ k =>
    replace h:zAW slices1 (k+1) x3 size4=some size5:=h;rw[zAW]at h;refine yCp ?_;refine zAa<|zAf rfl h (fun hb h=>?_) (fun hb h=>?_)
    ·refine zAe<|zAa<|zAk<|yBn [] [13] rfl ?_;obtain⟨e6,he6,h⟩:=zAc h;refine And.intro (zAq (fun _=>rfl) he6).1 ?_;intro r7 hr7;obtain rfl:[.sl 4 (Nd.encs e6)]=r7:=(hr7.trans (zAq (fun _=>rfl) he6).2.1).symm;refine yBn [] [17] rfl ?_;intro n8 hn8;obtain rfl:=rlE Nd.encs_eq e6 hn8;refine yCp ?_;refine zAf rfl h (fun hb h=>?_) (fun hb h=>?_)
     ·cases h
     ·exact kT
    ·refine zAD ?_;exact jD
 ·refine zAh hle<|yBn [24] [] rfl ?_;obtain⟨y9,hy9,h⟩:=zAc h;refine⟨_,⟨_,_,hy9,rfl,rfl⟩,?_⟩
  refine zAa<|yBn [] [26] rfl ?_;intro n10 hn10;obtain rfl:=rlE (fun _=>rfl) slices1 hn10;show Tri ..;obtain⟨l14,hl,h⟩:=zAc h;refine zAm ⟨ofL [(6,.orow 0)],ofH [(0,.row 24 4 (Nd.encs l14))],1⟩ ?_ (fun σ' hle=>?_)
  ·refine zAk (zAA (X:=Nat×Int×(List Nd)) (fun y=>match y with | (k,x11,l13)=>⟨ofL [(6,.orow 0),(25,.s (.sl 1 ((List.map zAO) slices1))),(26,nI (slices1.length:Int)),(27,nI x11)],ofH [(0,.row 24 4 (Nd.encs l13))],1⟩) (fun y=>zAX slices1 y.1 y.2.1 y.2.2=some l14) (fun y=>y.1) (n,0,y9) hl ?_ ?_)
   ·exact kR
   ·rintro⟨k,x11,l13⟩ h;cases k with
    | zero=>cases h
    | succ k =>
     replace h:zAX slices1 (k+1) x11 l13=some l14:=h;rw[zAX]at h;refine yCp ?_;refine zAa<|zAf rfl h (fun hb h=>?_) (fun hb h=>?_)
     ·refine zAe<|zAa<|zAk<|yBn [] [29] rfl ?_;obtain⟨e15,he15,h⟩:=zAc h;refine And.intro (zAq (fun _=>rfl) he15).1 ?_;intro r16 hr16;obtain rfl:[.sl 4 (Nd.encs e15)]=r16:=(hr16.trans (zAq (fun _=>rfl) he15).2.1).symm;refine zAb [33] [] rfl ?_;obtain⟨hq,h⟩:=zAx h;refine And.intro (show((Nd.encs l13).length+(Nd.encs e15).length) * 56<=140737488355328/\(Nd.encs l13).length+(Nd.encs e15).length<=9223372036854775807 from by simp only[length_append,length_cons,length_nil,length_map,rlen Nd.encs_eq]at hq ⊢; omega) ?_
      refine zAh (Le.rnq [(1,0)] [(6,.orow 0),(25,.s (.sl 1 ((List.map zAO) slices1))),(26,nI (slices1.length:Int)),(27,nI x11)] [(0,.row 24 4 (Nd.encs (l13++e15)))] 1 (h2:=⟨rfl,⟨_,rfl,congrArg (Ob.row 24 4) yB3⟩,trivial⟩))<|yCo ?_;refine⟨(k,i64.wrap (x11+1),l13++e15),h,(Le.rnq [(0,0)] _ _ _),Nat.lt_succ_self k⟩
     ·refine zAD ?_;exact jC
  ·exact kH
def zAJ (p:(zO8×List Nd)):List S:=[.int .i64 p.1.1,.sl 1 (iL p.1.2.1),.int .i64 p.1.2.2.1,.int .i64 p.1.2.2.2.1,.sl 4 (Nd.encs p.1.2.2.2.2.1),.int .i64 p.1.2.2.2.2.2.1,.str p.1.2.2.2.2.2.2.1,.str p.1.2.2.2.2.2.2.2,.sl 4 (Nd.encs p.2)]
def zKn:Prop:=∃ a0 a1 a2 y0,zAZ n a0 a1 a2=some y0/\xs=[.agg ((zAJ a0).map .s),nI a1,.s (.sl 4 (Nd.encs a2))]/\r = .val (.s (.sl 4 (Nd.encs y0)))
def zBX:zAr:=pG zKn
theorem zCx:PSound prog 218 zBX:=by
 have gok:=gk1 zH7<|gk0
 refine psq tokW call218 func218 rfl ?_;rintro xs r w0 G0 ⟨n,⟨⟨c1Y,c1Al,c1J,c1U,c1X,c1V,c1Ak,c1Aj⟩,c1Am⟩,n2,nodes3,y0,h,rfl,rfl⟩ _;rw[zAZ]at h;refine yCp ?_;refine zAa<|zAC [] [12,21,22] [] rfl (by decide +kernel) ?_;obtain⟨hq,h⟩:=zAx h;refine And.intro ⟨hq.1,hq.2.1,Int.le_trans hq.2.2 (Int.ofNat_le.2 (Nat.le_of_eq (rlen Nd.encs_eq _).symm))⟩ ?_;intro r4 hr4;obtain rfl:Nd.encs ((c1Am.take c1J.toNat).drop (0:Int).toNat)=r4:=(hr4.trans (rcut Nd.encs_eq _ _ _)).symm;obtain⟨hq,h⟩:=zAx h
 refine And.intro ⟨hq.1,Int.le_trans hq.2.1 (Int.ofNat_le.2 (Nat.le_of_eq (rlen Nd.encs_eq _).symm)),Int.le_refl _⟩ ?_;intro r5 hr5;obtain rfl:Nd.encs ((c1Am.take (c1Am.length:Int).toNat).drop (i64.wrap (c1J+n2)).toNat)=r5:=(hr5.trans ((congrArg (fun m:Nat=>((Nd.encs c1Am).take m).drop (i64.wrap (c1J+n2)).toNat) (rlen Nd.encs_eq _)).trans (rcut Nd.encs_eq _ _ _))).symm;intro r6 hr6
 obtain rfl:(List.map zAO) [(c1Am.take c1J.toNat).drop (0:Int).toNat,nodes3,(c1Am.take (c1Am.length:Int).toNat).drop (i64.wrap (c1J+n2)).toNat]=r6:=(hr6.trans yB3).symm;obtain⟨y7,hy7,h⟩:=zAc h;refine⟨_,⟨_,_,_,hy7,rfl,rfl⟩,?_⟩
 exact jM
def zEB:Prop:=∃ a0 a1 y0,zCg n a0 a1=some y0/\xs=[.agg ((Nd.enc a0).map .s),.agg ((Nd.enc a1).map .s)]/\r = .val (nB y0)
def zBc:Prop:=∃ a0 a1 y0,zAY n a0 a1=some y0/\xs=[.s (.sl 4 (Nd.encs a0)),.s (.sl 4 (Nd.encs a1)),.s (.fn 220)]/\r = .val (nB y0)
theorem zOz (n:Nat) (ih_node_Equal:PSound prog 220 (zAu (zEB n))) (ih_slices_EqualFunc_sNode:PSound prog 219 (zAu (zBc n))):PSound prog 220 (zAu (zEB (n+1))):=by
 have gok:=gk1 ih_slices_EqualFunc_sNode<|gk0
 refine psq tokW call220 func220 rfl ?_;rintro xs r w0 G0 ⟨⟨a1A,a1C,a1D,a1B⟩,⟨b2A,b2C,b2D,b2B⟩,y0,h,rfl,rfl⟩ _;rw[zCg]at h;refine yCp ?_;refine zAa ?_;obtain⟨x3,hj,h⟩:=zAc h;refine pL [(4,nB x3)] ?_ (fun σ' hle=>?_)
 ·replace h:=hj;refine zAb [] [10,17,24] rfl ?_;intro b hb;cases b with
  | true =>
   replace h:=zAw hb.symm h;intro b hb;cases b with
   | true =>
    replace h:=zAw hb.symm h;intro b hb;cases b with
    | true =>
     replace h:=zAw hb.symm h;obtain⟨y4,hy4,h⟩:=zAc h;refine⟨_,⟨_,_,_,hy4,rfl,rfl⟩,?_⟩
     exact jD
    | false =>
     exact jI
   | false =>
    exact jJ
  | false =>
   exact jL
 ·exact jR
theorem zGL (n:Nat) (ih_node_Equal:PSound prog 220 (zAu (zEB n))) (ih_slices_EqualFunc_sNode:PSound prog 219 (zAu (zBc n))):PSound prog 219 (zAu (zBc (n+1))):=by
 have gok:=gk1 ih_node_Equal<|gk0
 refine psq tokW call219 func219 rfl ?_;rintro xs r w0 G0 ⟨s11,s22,y0,h,rfl,rfl⟩ _;rw[zAY]at h;refine yCp ?_;refine zAa<|yBn [] [11,13] rfl ?_;intro n3 hn3;obtain rfl:=rlE Nd.encs_eq s11 hn3;intro n4 hn4;obtain rfl:=rlE Nd.encs_eq s22 hn4;refine zAf rfl h (fun hb h=>?_) (fun hb h=>?_)
 ·exact gG
 ·refine zAe<|zAa<|yBn [] [16] rfl ?_;intro n5 hn5;obtain rfl:=rlE Nd.encs_eq s11 hn5;show Tri ..;obtain⟨fl,hl,ho1⟩:=zAc h;refine zB3 (fl:=fl) (fun z=>match z with | _=>⟨ofL [],fun _=>none,0⟩) ?_ (fun z σ' hz hle=>?_)
  ·refine zAk (zAA (X:=Nat×Int) (fun y=>match y with | (k,x6)=>⟨ofL [(1,.s (.sl 4 (Nd.encs s22))),(2,.s (.fn 220)),(15,.s (.sl 4 (Nd.encs s11))),(16,nI (s11.length:Int)),(17,nI x6)],fun _=>none,0⟩) (fun y=>zAM (zCg n) s11 s22 y.1 y.2=some fl) (fun y=>y.1) (n,0) hl ?_ ?_)
   ·exact Le.fgt
   ·rintro⟨k,x6⟩ h;cases k with
    | zero=>cases h
    | succ k =>
     replace h:zAM (zCg n) s11 s22 (k+1) x6=some fl:=h;rw[zAM]at h;refine yCp ?_;refine zAa<|zAf rfl h (fun hb h=>?_) (fun hb h=>?_)
     ·refine zAe<|zAa<|zAk<|yBn [8] [20] rfl ?_;obtain⟨⟨e7A,e7C,e7D,e7B⟩,he7,h⟩:=zAc h;refine And.intro (zAq Nd.encs_eq he7).1 ?_;intro r8 hr8;obtain rfl:(nN e7A e7C e7D e7B)=r8:=(hr8.trans (zAq Nd.encs_eq he7).2.1).symm;refine zAh (Le.giveBox 0 (nN e7A e7C e7D e7B) rfl rfl)<|yBn [9] [24] rfl ?_;obtain⟨⟨e9A,e9C,e9D,e9B⟩,he9,h⟩:=zAc h;refine And.intro (zAq Nd.encs_eq he9).1 ?_
      intro r10 hr10;obtain rfl:(nN e9A e9C e9D e9B)=r10:=(hr10.trans (zAq Nd.encs_eq he9).2.1).symm;refine zAh (Le.giveBox 1 (nN e9A e9C e9D e9B) rfl rfl)<|yCp ?_;obtain⟨y11,hy11,h⟩:=zAc h;refine⟨_,⟨_,_,_,hy11,rfl,rfl⟩,?_⟩
      refine zAf rfl h (fun hb h=>?_) (fun hb h=>?_)
      ·exact jE
      ·refine zAe<|yCo ?_;refine⟨(k,i64.wrap (x6+1)),h,(Le.rnq [] _ [] 0),Nat.lt_succ_self k⟩
     ·exact gV
  ·exact jF
theorem zIt:∀ n,PSound prog 220 (zAu (zEB n))/\PSound prog 219 (zAu (zBc n)):=by
 intro n
 induction n with
 | zero =>
  refine⟨?_,?_⟩
  ·exact zCP call220 (fun xs r h=>by obtain⟨_,_,_,h,_⟩:=h; rw[zCg]at h; cases h)
  ·exact zCP call219 (fun xs r h=>by obtain⟨_,_,_,h,_⟩:=h; rw[zAY]at h; cases h)
 | succ n ih =>
  obtain⟨ih_node_Equal,ih_slices_EqualFunc_sNode⟩:=ih;exact⟨zOz n ih_node_Equal ih_slices_EqualFunc_sNode,zGL n ih_node_Equal ih_slices_EqualFunc_sNode⟩
def zLX:zAr:=pG zEB
theorem zQ5:PSound prog 220 zLX:=zDu (fun n=>(zIt n).1)
def zED:zAr:=pG zBc
theorem zHf:PSound prog 219 zED:=zDu (fun n=>(zIt n).2)
def zG4:Prop:=∃ a0 y0 y1,zBp n a0=some (y0,y1)/\xs=[.agg ((zAJ a0).map .s)]/\r = .val (.tup [.s (.sl 4 (Nd.encs y0)),nI y1])
def zG7:zAr:=pG zG4
theorem jA {P:Prop} (h:P:=by refine zAd ?_;obtain⟨hj1,hk1⟩:=pij h;subst hj1 hk1;exact fin0 rfl rfl):P:=h
theorem jP {P:Prop} (h:P:=by refine yCp ?_;exact jA):P:=h
theorem zGN:PSound prog 185 zG7:=by
 have gok:=gk1 zH1<|gk1 zHV<|gk1 zQ5<|gk1 zCx<|gk0
 refine psq tokW call185 func185 rfl ?_;rintro xs r w0 G0 ⟨n,⟨⟨c1Y,c1Al,c1J,c1U,c1X,c1V,c1Ak,c1Aj⟩,c1Am⟩,y0,y1,h,rfl,rfl⟩ _;rw[zBp]at h;refine yCp ?_;refine yBn [4] [11] rfl ?_;obtain⟨⟨e2A,e2C,e2D,e2B⟩,he2,h⟩:=zAc h;refine And.intro (zAq Nd.encs_eq he2).1 ?_;intro r3 hr3;obtain rfl:(nN e2A e2C e2D e2B)=r3:=(hr3.trans (zAq Nd.encs_eq he2).2.1).symm;obtain⟨⟨y4A,y4C,y4D,y4B⟩,hy4,h⟩:=zAc h
 refine⟨_,_,⟨_,_,hy4,rfl,rfl,rfl,rfl⟩,?_⟩
 refine zAa<|zAa<|zAC [] [] [3,4] rfl (by decide +kernel) ?_;obtain⟨y5,hy5,h⟩:=zAc h;refine⟨_,⟨_,_,hy5,rfl,rfl⟩,?_⟩
 refine zAf rfl h (fun hb h=>?_) (fun hb h=>?_)
 ·exact jP
 ·refine zAe<|yCp ?_;obtain⟨⟨e6A,e6C,e6D,e6B⟩,he6,h⟩:=zAc h;refine And.intro (zAq Nd.encs_eq he6).1 ?_;refine And.intro (zAq Nd.encs_eq he6).2.2 ?_;refine⟨_,(zAq Nd.encs_eq he6).2.1,?_⟩
  refine yCp ?_;obtain⟨⟨e7A,e7C,e7D,e7B⟩,he7,h⟩:=zAc h;refine And.intro (zAq Nd.encs_eq he7).1 ?_;have hset8:=(rset (R:=Nd.encs) (f:=Nd.enc) Nd.encs_eq he7 (Nd.mk e7A e7C e7D []) 3 4 [.sl 4 (Nd.encs [])] rfl)
  have hat8:=at_set he7 (Nd.mk e7A e7C e7D [])
  refine And.intro (zAq Nd.encs_eq he7).2.2 ?_;refine zAh (Le.rnq [(1,0),(0,1)] [(1,.s (.pt [.int .i64 c1Y,.sl 1 (iL c1Al),.int .i64 c1J,.int .i64 c1U,.sl 4 (Nd.encs c1X),.int .i64 c1V,.str c1Ak,.str c1Aj,.sl 4 (Nd.encs c1Am)])),(4,.op 0 0),(5,.s (.sl 4 (Nd.encs e6B)))] [(0,.box 24 [nI y4A,nS y4C,nI y4D,.orow 1]),(1,.row 24 4 (Nd.encs (y4B.set c1V.toNat (Nd.mk e7A e7C e7D []))))] 2 (h2:=⟨rfl,⟨_,rfl,rfl⟩,rfl,⟨_,rfl,congrArg (Ob.row 24 4) hset8⟩,trivial⟩))<|zAa<|zAa ?_
  obtain⟨x9,hj,h⟩:=zAc h;refine pL [(1,.s (.pt [.int .i64 c1Y,.sl 1 (iL c1Al),.int .i64 c1J,.int .i64 c1U,.sl 4 (Nd.encs c1X),.int .i64 c1V,.str c1Ak,.str c1Aj,.sl 4 (Nd.encs c1Am)])),(5,.s (.sl 4 (Nd.encs e6B))),(50,nB x9)] ?_ (fun σ' hle=>?_)
  ·replace h:=hj;refine zAC [] [36,41,46] [7,13] rfl (by decide +kernel) ?_;intro n10 hn10;obtain rfl:=rlE Nd.encs_eq e6B hn10;intro b hb;cases b with
   | true =>
    replace h:=zAw hb.symm h;exact kA
   | false =>
    replace h:=zAv hb.symm h;obtain⟨⟨e11A,e11C,e11D,e11B⟩,he11,h⟩:=zAc h;refine And.intro (zAq Nd.encs_eq he11).1 ?_;intro r12 hr12;obtain rfl:(nN e11A e11C e11D e11B)=r12:=(hr12.trans (zAq Nd.encs_eq he11).2.1).symm;obtain⟨y13,hy13,h⟩:=zAc h;refine⟨_,⟨_,_,_,_,hy13,rfl,rfl⟩,?_⟩
    exact kA
  ·refine zAh hle<|zAf rfl h (fun hb h=>?_) (fun hb h=>?_)
   ·exact jP
   ·refine zAe<|yCp ?_;obtain⟨y14,hy14,h⟩:=zAc h;refine⟨_,⟨_,_,_,_,_,hy14,rfl,rfl⟩,?_⟩
    exact jA
def zG5 (xs:List AV) (r:Ret):Prop:=∃ a0 y0 y1,zBq a0=some (y0,y1)/\xs=[.agg ((zAJ a0).map .s)]/\r = .val (.tup [.s (.sl 4 (Nd.encs y0)),nI y1])
def zG8:zAr:=zAu fun xs r=>zG5 xs r
theorem zGO:PSound prog 185 zG8:=by
 have gok:=gk1 zEP<|gk1 zHV<|gk0
 refine psq tokW call185 func185 rfl ?_;rintro xs r w0 G0 ⟨⟨⟨c1Y,c1Al,c1J,c1U,c1X,c1V,c1Ak,c1Aj⟩,c1Am⟩,y0,y1,h,rfl,rfl⟩ _;rw[zBq]at h;refine yCp ?_;refine yBn [4] [11] rfl ?_;obtain⟨⟨e2A,e2C,e2D,e2B⟩,he2,h⟩:=zAc h;refine And.intro (zAq Nd.encs_eq he2).1 ?_;intro r3 hr3;obtain rfl:(nN e2A e2C e2D e2B)=r3:=(hr3.trans (zAq Nd.encs_eq he2).2.1).symm;obtain⟨⟨y4A,y4C,y4D,y4B⟩,hy4,h⟩:=zAc h
 refine⟨_,⟨_,_,hy4,rfl,rfl⟩,?_⟩
 refine zAa<|zAa<|zAC [] [] [3] rfl (by decide +kernel) ?_;obtain⟨y5,hy5,h⟩:=zAc h;refine⟨_,⟨_,_,hy5,rfl,rfl⟩,?_⟩
 refine zAf rfl h (fun hb h=>?_) (fun hb h=>?_)
 ·exact jP
 ·refine zAe<|zAa ?_;cases h
def zKo:Prop:=∃ a0 y0 y1,zDC n a0=some (y0,y1)/\xs=[.agg ((zAJ a0).map .s)]/\r = .val (.tup [.s (.sl 4 (Nd.encs y0)),nI y1])
def zGS:zAr:=pG zKo
theorem yB4 {α:Type}{a b:α} (h:a=b:=by simp[map_append,map_take,map_drop,irow,brow,zF1,map_cons,map_nil,zFx,Nd.encs_eq,Nd.enc,zBu,zAS,zBY,zAO,zAJ]):a=b :=
 h
theorem zKb:PSound prog 184 zGS:=by
 have gok:=gk1 zH1<|gk1 zIT<|gk1 zCx<|gk0
 refine psq tokW call184 func184 rfl ?_;rintro xs r w0 G0 ⟨n,⟨⟨c1Y,c1Al,c1J,c1U,c1X,c1V,c1Ak,c1Aj⟩,c1Am⟩,y0,y1,h,rfl,rfl⟩ _;rw[zDC]at h;refine yCp ?_;refine yBn [4] [8] rfl ?_;obtain⟨⟨e2A,e2C,e2D,e2B⟩,he2,h⟩:=zAc h;refine And.intro (zAq Nd.encs_eq he2).1 ?_;intro r3 hr3;obtain rfl:(nN e2A e2C e2D e2B)=r3:=(hr3.trans (zAq Nd.encs_eq he2).2.1).symm;obtain⟨⟨y4A,y4C,y4D,y4B⟩,hy4,h⟩:=zAc h
 refine⟨_,_,⟨_,_,hy4,rfl,rfl,rfl,rfl⟩,?_⟩
 refine zAa<|zAC [] [28] [1,19,21] rfl (by decide +kernel) ?_;obtain⟨hq,h⟩:=zAx h;refine And.intro ⟨hq.1,hq.2.1,Int.le_trans hq.2.2 (Int.ofNat_le.2 (Nat.le_of_eq (rlen Nd.encs_eq _).symm))⟩ ?_;intro r5 hr5;obtain rfl:Nd.encs ((c1Am.take (i64.wrap (c1J+c1U)).toNat).drop c1J.toNat)=r5:=(hr5.trans (rcut Nd.encs_eq _ _ _)).symm;obtain⟨y6,hy6,h⟩:=zAc h;refine⟨_,⟨_,_,hy6,rfl,rfl⟩,?_⟩
 obtain⟨⟨e7A,e7C,e7D,e7B⟩,he7,h⟩:=zAc h;refine And.intro (zAq Nd.encs_eq he7).1 ?_;have hset8:=(rset (R:=Nd.encs) (f:=Nd.enc) Nd.encs_eq he7 (Nd.mk e7A e7C e7D y6) 3 4 [.sl 4 (Nd.encs y6)] rfl)
 have hat8:=at_set he7 (Nd.mk e7A e7C e7D y6)
 refine And.intro (zAq Nd.encs_eq he7).2.2 ?_;show Tri ..
 refine zAh (Le.trans (Le.trans (Le.trans (Le.rnq [(1,0),(0,1)] [(1,.s (.pt [.int .i64 c1Y,.sl 1 (iL c1Al),.int .i64 c1J,.int .i64 c1U,.sl 4 (Nd.encs c1X),.int .i64 c1V,.str c1Ak,.str c1Aj,.sl 4 (Nd.encs c1Am)])),(4,.op 0 0)] [(0,.box 24 [nI y4A,nS y4C,nI y4D,.orow 1]),(1,.row 24 4 (Nd.encs (y4B.set c1V.toNat (Nd.mk e7A e7C e7D y6))))] 2 (h2:=⟨rfl,⟨_,rfl,rfl⟩,rfl,⟨_,rfl,congrArg (Ob.row 24 4) hset8⟩,trivial⟩)) (Le.giveRow 1 rfl)) (Le.rnq [(0,0)] [(1,.s (.pt [.int .i64 c1Y,.sl 1 (iL c1Al),.int .i64 c1J,.int .i64 c1U,.sl 4 (Nd.encs c1X),.int .i64 c1V,.str c1Ak,.str c1Aj,.sl 4 (Nd.encs c1Am)])),(4,.op 0 0)] [(0,.box 24 [nI y4A,nS y4C,nI y4D,.s (.sl 4 (Nd.encs (y4B.set c1V.toNat (Nd.mk e7A e7C e7D y6))))])] 1)) (Le.giveBox 0 [.int .i64 y4A,.str y4C,.int .i64 y4D,.sl 4 (Nd.encs (y4B.set c1V.toNat (Nd.mk e7A e7C e7D y6)))] rfl rfl)) ?_
 refine yBn [] [37] rfl ?_;intro r9 hr9;obtain rfl:Nd.encs [Nd.mk y4A y4C y4D (y4B.set c1V.toNat (Nd.mk e7A e7C e7D y6))]=r9:=(hr9.trans yB4).symm;obtain⟨y10,hy10,h⟩:=zAc h;refine⟨_,⟨_,_,_,_,_,hy10,rfl,rfl⟩,?_⟩
 exact jA
def zJi:Prop:=∃ a0 y0 y1,zCS n a0=some (y0,y1)/\xs=[.agg ((zAJ a0).map .s)]/\r = .val (.tup [.s (.sl 4 (Nd.encs y0)),nI y1])
def zFU:zAr:=pG zJi
theorem zIN:PSound prog 182 zFU:=by
 have gok:=gk1 zCx<|gk0
 refine psq tokW call182 func182 rfl ?_;rintro xs r w0 G0 ⟨n,⟨⟨c1Y,c1Al,c1J,c1U,c1X,c1V,c1Ak,c1Aj⟩,c1Am⟩,y0,y1,h,rfl,rfl⟩ _;rw[zCS]at h;refine yCp ?_;refine yCp ?_;obtain⟨y2,hy2,h⟩:=zAc h;refine⟨_,⟨_,_,_,_,_,hy2,rfl,rfl⟩,?_⟩
 exact jA
def zJj:Prop:=∃ a0 y0 y1,zCT n a0=some (y0,y1)/\xs=[.agg ((zAJ a0).map .s)]/\r = .val (.tup [.s (.sl 4 (Nd.encs y0)),nI y1])
def zFV:zAr:=pG zJj
theorem zIO:PSound prog 183 zFV:=by
 have gok:=gk1 zHf<|gk1 zCx<|gk0
 refine psq tokW call183 func183 rfl ?_;rintro xs r w0 G0 ⟨n,⟨⟨c1Y,c1Al,c1J,c1U,c1X,c1V,c1Ak,c1Aj⟩,c1Am⟩,y0,y1,h,rfl,rfl⟩ _;rw[zCT]at h;refine yCp ?_;refine yBn [] [8] rfl ?_;intro n2 hn2;obtain rfl:=rlE Nd.encs_eq c1X hn2;refine zAa<|zAa<|zAC [] [19] [] rfl (by decide +kernel) ?_;obtain⟨hq,h⟩:=zAx h;refine And.intro ⟨hq.1,hq.2.1,Int.le_trans hq.2.2 (Int.ofNat_le.2 (Nat.le_of_eq (rlen Nd.encs_eq _).symm))⟩ ?_;intro r3 hr3
 obtain rfl:Nd.encs ((c1Am.take (i64.wrap (c1J+(c1X.length:Int))).toNat).drop c1J.toNat)=r3:=(hr3.trans (rcut Nd.encs_eq _ _ _)).symm;obtain⟨y4,hy4,h⟩:=zAc h;refine⟨_,⟨_,_,_,_,hy4,rfl,rfl⟩,?_⟩
 refine zAf rfl h (fun hb h=>?_) (fun hb h=>?_)
 ·exact jP
 ·refine zAe<|yCp ?_;obtain⟨y5,hy5,h⟩:=zAc h;refine⟨_,⟨_,_,_,_,_,hy5,rfl,rfl⟩,?_⟩
  exact jA
def zLn:Prop:=∃ a0 y0 y1,zDY n a0=some (y0,y1)/\xs=[.agg ((zAJ a0).map .s)]/\r = .val (.tup [.s (.sl 4 (Nd.encs y0)),nI y1])
def zHk:zAr:=pG zLn
theorem jN {P:Prop} (h:P:=by refine zAd ?_;cases h;replace h:some _=some _:=ho1;obtain⟨hj1,hk1⟩:=pij h;subst hj1 hk1;exact fin0 rfl rfl):P:=h
theorem gW {P:Prop} (h:P:=by refine zAe ?_;cases h;exact⟨_,rfl,(Le.rnq [(0,0)] _ _ _)⟩):P:=h
theorem qF {P:Prop} (h:P:=by refine zAe ?_;exact jC):P:=h
theorem zK2:PSound prog 186 zHk:=by
 have gok:=gk1 zCx<|gk0
 refine psq tokW call186 func186 rfl ?_;rintro xs r w0 G0 ⟨n,⟨⟨c1Y,c1Al,c1J,c1U,c1X,c1V,c1Ak,c1Aj⟩,c1Am⟩,y0,y1,h,rfl,rfl⟩ _;rw[zDY]at h;refine yCp ?_;refine yBn [4] [10] rfl ?_;obtain⟨⟨e2A,e2C,e2D,e2B⟩,he2,h⟩:=zAc h;refine And.intro (zAq Nd.encs_eq he2).1 ?_;intro r3 hr3;obtain rfl:(nN e2A e2C e2D e2B)=r3:=(hr3.trans (zAq Nd.encs_eq he2).2.1).symm;refine zAa<|yCp ?_
 show Tri ..;obtain⟨fl,hj,ho1⟩:=zAc h;refine zB3 (fl:=fl) (fun z=>match z with | _=>⟨ofL [(1,.s (.pt [.int .i64 c1Y,.sl 1 (iL c1Al),.int .i64 c1J,.int .i64 c1U,.sl 4 (Nd.encs c1X),.int .i64 c1V,.str c1Ak,.str c1Aj,.sl 4 (Nd.encs c1Am)])),(4,.op 0 0)],ofH [(0,.box 24 [nI e2A,nS e2C,nI e2D,.s (.sl 4 (Nd.encs e2B))])],1⟩) ?_ (fun z σ' hz hle=>?_)
 ·replace h:=hj;refine zAk<|zAa<|yCp ?_;show Tri ..;obtain⟨x4,hj,h⟩:=zAc h;refine zAm ⟨ofL [(1,.s (.pt [.int .i64 c1Y,.sl 1 (iL c1Al),.int .i64 c1J,.int .i64 c1U,.sl 4 (Nd.encs c1X),.int .i64 c1V,.str c1Ak,.str c1Aj,.sl 4 (Nd.encs c1Am)])),(4,.op 0 0),(14,nB x4)],ofH [(0,.box 24 [nI e2A,nS e2C,nI e2D,.s (.sl 4 (Nd.encs e2B))])],1⟩ ?_ (fun σ' hle=>?_)
  ·replace h:=hj;refine zAf rfl h (fun hb h=>?_) (fun hb h=>?_)
   ·exact qF
   ·refine yCp ?_;refine zAf rfl h (fun hb h=>?_) (fun hb h=>?_)
    ·exact qF
    ·refine yCp ?_;refine zAf rfl h (fun hb h=>?_) (fun hb h=>?_)
     ·exact qF
     ·refine yCp ?_;refine zAf rfl h (fun hb h=>?_) (fun hb h=>?_)
      ·exact qF
      ·refine yCo ?_;exact jC
  ·refine zAh hle<|zAf rfl h (fun hb h=>?_) (fun hb h=>?_)
   ·exact gW
   ·refine yCp ?_;exact jN
 ·subst hz;obtain _:=z;replace h:=ho1;refine zAh hle<|zAa<|yCp ?_;refine zAf rfl h (fun hb h=>?_) (fun hb h=>?_)
  ·exact jP
  ·refine zAe<|yCp ?_;refine yBn [] [32] rfl ?_;intro r5 hr5;obtain rfl:Nd.encs [Nd.mk e2A c1Aj e2D e2B]=r5:=(hr5.trans yB4).symm;obtain⟨y6,hy6,h⟩:=zAc h;refine⟨_,⟨_,_,_,_,_,hy6,rfl,rfl⟩,?_⟩
   exact jA
def zJh (xs:List AV) (r:Ret):Prop:=∃ a0 y0,zB8 a0=some y0/\xs=[.agg ((zAJ a0).map .s)]/\r = .val (nI y0)
def zFT:zAr:=zAu fun xs r=>zJh xs r
theorem zIM:PSound prog 181 zFT:=by
 have gok:=@gok0 prog;refine psq tokW call181 func181 rfl ?_;rintro xs r w0 G0 ⟨⟨⟨c1Y,c1Al,c1J,c1U,c1X,c1V,c1Ak,c1Aj⟩,c1Am⟩,y0,h,rfl,rfl⟩ _;rw[zB8]at h;refine yCp ?_;refine yCp ?_;refine zAa<|yCp ?_;show Tri ..;obtain⟨need2,hj,h⟩:=zAc h
 refine pL [(1,.s (.pt [.int .i64 c1Y,.sl 1 (iL c1Al),.int .i64 c1J,.int .i64 c1U,.sl 4 (Nd.encs c1X),.int .i64 c1V,.str c1Ak,.str c1Aj,.sl 4 (Nd.encs c1Am)])),(3,nI need2)] ?_ (fun σ' hle=>?_)
 ·replace h:=hj;refine zAk<|yCp ?_;refine zAf rfl h (fun hb h=>?_) (fun hb h=>?_)
  ·exact kF
  ·refine yCp ?_;refine zAf rfl h (fun hb h=>?_) (fun hb h=>?_)
   ·refine zAb [] [14] rfl ?_;intro n3 hn3;obtain rfl:=rlE Nd.encs_eq c1X hn3;exact jD
   ·refine yCp ?_;refine zAf rfl h (fun hb h=>?_) (fun hb h=>?_)
    ·exact kF
    ·exact gI
 ·refine zAh hle<|zAa<|zAa ?_;obtain⟨x4,hj,h⟩:=zAc h;refine pL [(43,nB x4)] ?_ (fun σ' hle=>?_)
  ·replace h:=hj;refine zAb [] [24,30,33,37] rfl ?_;intro b hb;cases b with
   | true =>
    replace h:=zAw hb.symm h;intro b hb;subst hb;exact jD
   | false =>
    replace h:=zAv hb.symm h;intro n5 hn5;obtain rfl:=rlE Nd.encs_eq c1Am hn5;intro b hb;cases b with
    | true =>
     exact jG
    | false =>
     replace h:=zAv hb.symm h;intro n6 hn6;obtain rfl:=rlE Nd.encs_eq c1Am hn6;exact jD
  ·refine zAh hle<|zAf rfl h (fun hb h=>?_) (fun hb h=>?_)
   ·exact gG
   ·refine zAe<|yCp ?_;exact jM
def zMG:Prop:=∃ a0 a1 y0,zDo n a0 a1=some y0/\xs=[.s (.sl 4 (Nd.encs a0)),nI a1]/\r = .val (nB y0)
def zH0:zAr:=pG zMG
theorem zLz:PSound prog 179 zH0:=by
 have gok:=gk1 zG0<|gk1 zHV<|gk0
 refine psq tokW call179 func179 rfl ?_;rintro xs r w0 G0 ⟨n,l1,slot2,y0,h,rfl,rfl⟩ _;rw[zDo]at h;refine yCp ?_;refine zAa<|zAa ?_;obtain⟨x3,hj,h⟩:=zAc h;refine pL [(0,.s (.sl 4 (Nd.encs l1))),(1,nI slot2),(24,nB x3)] ?_ (fun σ' hle=>?_)
 ·replace h:=hj;refine zAb [] [6,8,13,17,20] rfl ?_;intro n4 hn4;obtain rfl:=rlE Nd.encs_eq l1 hn4;intro b hb;cases b with
  | true =>
   replace h:=zAw hb.symm h;intro b hb;subst hb;intro b hb;subst hb;exact jD
  | false =>
   replace h:=zAv hb.symm h;obtain⟨y5,hy5,h⟩:=zAc h;refine⟨_,⟨_,_,_,hy5,rfl,rfl⟩,?_⟩
   intro b hb;cases b with
   | true =>
    replace h:=zAw hb.symm h;intro b hb;subst hb;exact jD
   | false =>
    replace h:=zAv hb.symm h;intro b hb;cases b with
    | true =>
     exact jG
    | false =>
     replace h:=zAv hb.symm h;obtain⟨⟨e6A,e6C,e6D,e6B⟩,he6,h⟩:=zAc h;refine And.intro (zAq Nd.encs_eq he6).1 ?_;intro r7 hr7;obtain rfl:(nN e6A e6C e6D e6B)=r7:=(hr7.trans (zAq Nd.encs_eq he6).2.1).symm;obtain⟨y8,hy8,h⟩:=zAc h;refine⟨_,⟨_,_,hy8,rfl,rfl⟩,?_⟩
     exact jD
 ·refine zAh hle<|zAf rfl h (fun hb h=>?_) (fun hb h=>?_)
  ·exact gG
  ·refine zAe<|yBn [] [26,30,33] rfl ?_;obtain⟨⟨e9A,e9C,e9D,e9B⟩,he9,h⟩:=zAc h;refine And.intro (zAq Nd.encs_eq he9).1 ?_;intro r10 hr10;obtain rfl:(nN e9A e9C e9D e9B)=r10:=(hr10.trans (zAq Nd.encs_eq he9).2.1).symm;obtain⟨⟨e11A,e11C,e11D,e11B⟩,he11,h⟩:=zAc h;refine And.intro (zAq Nd.encs_eq he11).1 ?_;intro r12 hr12;obtain rfl:(nN e11A e11C e11D e11B)=r12:=(hr12.trans (zAq Nd.encs_eq he11).2.1).symm;intro n13 hn13
   obtain rfl:=rlE Nd.encs_eq e11B hn13;exact jM
def zAl (p:zO8):List S:=[.int .i64 p.1,.sl 1 (iL p.2.1),.int .i64 p.2.2.1,.int .i64 p.2.2.2.1,.sl 4 (Nd.encs p.2.2.2.2.1),.int .i64 p.2.2.2.2.2.1,.str p.2.2.2.2.2.2.1,.str p.2.2.2.2.2.2.2]
def zQe:Prop:=∃ a0 y0,zEW n a0=some y0/\xs=[.agg ((zAl a0).map .s)]/\r = .val (nB y0)
def zKu:zAr:=pG zQe
theorem jZ {P:Prop} (h:P:=by refine zAh hle<|zAd ?_;cases h;replace h:some _=some _:=ho1;exact jB):P:=h
theorem zOX:PSound prog 132 zKu:=by
 have gok:=gk1 zG0<|gk1 zLz<|gk0
 refine psq tokW call132 func132 rfl ?_;rintro xs r w0 G0 ⟨n,⟨a1A,a1E,a1F,a1K,a1G,a1H,a1L,a1C⟩,y0,h,rfl,rfl⟩ _;rw[zEW]at h;refine yCp ?_;refine zAa ?_;obtain⟨x2,hj,h⟩:=zAc h;refine pL [(1,.s (.pt [.int .i64 a1A,.sl 1 (iL a1E),.int .i64 a1F,.int .i64 a1K,.sl 4 (Nd.encs a1G),.int .i64 a1H,.str a1L,.str a1C])),(3,nB x2)] ?_ (fun σ' hle=>?_)
 ·replace h:=hj;refine zAb [] [7] rfl ?_;intro b hb;cases b with
  | true =>
   exact jG
  | false =>
   exact jI
 ·refine zAh hle<|zAa<|yCp ?_;show Tri ..;obtain⟨fl,hj,ho1⟩:=zAc h;refine zB3 (fl:=fl) (fun z=>match z with | _=>⟨ofL [],fun _=>none,0⟩) ?_ (fun z σ' hz hle=>?_)
  ·replace h:=hj;refine zAk<|zAa<|yCp ?_;show Tri ..;obtain⟨x3,hj,h⟩:=zAc h;refine pL [(1,.s (.pt [.int .i64 a1A,.sl 1 (iL a1E),.int .i64 a1F,.int .i64 a1K,.sl 4 (Nd.encs a1G),.int .i64 a1H,.str a1L,.str a1C])),(3,nB x2),(13,nI a1A),(14,nB x3)] ?_ (fun σ' hle=>?_)
   ·replace h:=hj;refine zAf rfl h (fun hb h=>?_) (fun hb h=>?_)
    ·exact gI
    ·exact kF
   ·refine zAh hle<|zAf rfl h (fun hb h=>?_) (fun hb h=>?_)
    ·refine zAa ?_;obtain⟨x4,hj,h⟩:=zAc h;refine pL [(2,nB x4)] ?_ (fun σ' hle=>?_)
     ·replace h:=hj;refine zAb [] [20,25,29,32,35] rfl ?_;intro b hb;cases b with
      | true =>
       replace h:=zAw hb.symm h;intro b hb;cases b with
       | true =>
        replace h:=zAw hb.symm h;intro b hb;cases b with
        | true =>
         replace h:=zAw hb.symm h;intro n5 hn5;obtain rfl:=rlE Nd.encs_eq a1G hn5;intro b hb;cases b with
         | true =>
          replace h:=zAw hb.symm h;obtain⟨y6,hy6,h⟩:=zAc h;refine⟨_,⟨_,_,_,hy6,rfl,rfl⟩,?_⟩
          exact jD
         | false =>
          exact jI
        | false =>
         exact jJ
       | false =>
        exact jL
      | false =>
       exact jW
     ·exact jZ
    ·refine zAa<|yCp ?_;show Tri ..;obtain⟨x7,hj,h⟩:=zAc h;refine pL [(1,.s (.pt [.int .i64 a1A,.sl 1 (iL a1E),.int .i64 a1F,.int .i64 a1K,.sl 4 (Nd.encs a1G),.int .i64 a1H,.str a1L,.str a1C])),(3,nB x2),(13,nI a1A),(40,nB x7)] ?_ (fun σ' hle=>?_)
     ·replace h:=hj;refine zAf rfl h (fun hb h=>?_) (fun hb h=>?_)
      ·exact gI
      ·exact kF
     ·refine zAh hle<|zAf rfl h (fun hb h=>?_) (fun hb h=>?_)
      ·refine zAa ?_;obtain⟨x8,hj,h⟩:=zAc h;refine pL [(2,nB x8)] ?_ (fun σ' hle=>?_)
       ·replace h:=hj;refine zAb [] [46,50] rfl ?_;intro b hb;cases b with
        | true =>
         replace h:=zAw hb.symm h;intro b hb;cases b with
         | true =>
          replace h:=zAw hb.symm h;obtain⟨y9,hy9,h⟩:=zAc h;refine⟨_,⟨_,_,_,_,hy9,rfl,rfl⟩,?_⟩
          exact jD
         | false =>
          exact jI
        | false =>
         exact jJ
       ·exact jZ
      ·refine yCp ?_;refine zAf rfl h (fun hb h=>?_) (fun hb h=>?_)
       ·refine zAa ?_;obtain⟨x10,hj,h⟩:=zAc h;refine pL [(2,nB x10)] ?_ (fun σ' hle=>?_)
        ·replace h:=hj;refine zAb [] [62,67,70,73] rfl ?_;intro b hb;cases b with
         | true =>
          replace h:=zAw hb.symm h;intro b hb;cases b with
          | true =>
           replace h:=zAw hb.symm h;intro n11 hn11;obtain rfl:=rlE Nd.encs_eq a1G hn11;intro b hb;cases b with
           | true =>
            exact jG
           | false =>
            exact jI
          | false =>
           exact jJ
         | false =>
          exact jL
        ·exact jZ
       ·exact kP
  ·exact jF
def zTU (xs:List AV) (r:Ret):Prop:=∃ a0 y0,zDI a0=some y0/\xs=[.s (.sl 1 (iL a0))]/\r = .val (.s (.sl 1 (iL y0)))
def zJY:zAr:=zAu fun xs r=>zTU xs r
theorem zMq:PSound prog 75 zJY:=by
 have gok:=gk1 zEi<|gk0
 refine psq tokW call75 func75 rfl ?_;rintro xs r w0 G0 ⟨l1,y0,h,rfl,rfl⟩ _;rw[zDI]at h;refine yCp ?_;refine yCp ?_;obtain⟨y2,hy2,h⟩:=zAc h;refine⟨_,⟨_,_,hy2,rfl,rfl⟩,?_⟩
 exact jM
def zRQ:Prop:=∃ a0 y0,zFC n a0=some y0/\xs=[.s (.sl 4 (Nd.encs a0))]/\r = .row 24 4 (Nd.encs y0)
def zLV:zAr:=pG zRQ
theorem yBc {α:Type}{a b:α} (h:a=b:=by simp[map_append,map_take,map_drop,irow,brow,zF1,map_cons,map_nil,zFx,Nd.encs_eq,Nd.enc,zBu,zAS,zBY,zAO,zAJ,zAl]):a=b :=
 h
theorem zQ3:PSound prog 113 zLV:=by
 have gok:=gk1 zEP<|gk0
 refine psq tokW call113 func113 rfl ?_;rintro xs r w0 G0 ⟨n,l1,y0,h,rfl,rfl⟩ _;rw[zFC]at h;refine yBn [2] [] rfl ?_;refine zAh (Le.rnq [] [(0,.s (.sl 4 (Nd.encs l1)))] [] 0)<|yBn [3] [] rfl ?_;show Tri ..
 refine zAh (Le.rnq [(0,0)] [(0,.s (.sl 4 (Nd.encs l1))),(3,.orow 0)] [(0,.row 24 4 (Nd.encs []))] 1 (h2:=⟨rfl,⟨_,rfl,congrArg (Ob.row 24 4) yBc⟩,trivial⟩))<|zAa<|yBn [] [6] rfl ?_;intro n2 hn2;obtain rfl:=rlE Nd.encs_eq l1 hn2;show Tri ..;obtain⟨l6,hl,h⟩:=zAc h;refine zAm ⟨ofL [(3,.orow 0)],ofH [(0,.row 24 4 (Nd.encs l6))],1⟩ ?_ (fun σ' hle=>?_)
 ·refine zAk (zAA (X:=Nat×Int×(List Nd)) (fun y=>match y with | (k,x4,l5)=>⟨ofL [(0,.s (.sl 4 (Nd.encs l1))),(3,.orow 0),(6,nI (l1.length:Int)),(7,nI x4)],ofH [(0,.row 24 4 (Nd.encs l5))],1⟩) (fun y=>zBG l1 y.1 y.2.1 y.2.2=some l6) (fun y=>y.1) (n,0,[]) hl ?_ ?_)
  ·exact kR
  ·rintro⟨k,x4,l5⟩ h;cases k with
   | zero=>cases h
   | succ k =>
    replace h:zBG l1 (k+1) x4 l5=some l6:=h;rw[zBG]at h;refine yCp ?_;refine zAa<|zAf rfl h (fun hb h=>?_) (fun hb h=>?_)
    ·refine zAe<|zAa<|zAk<|yCp ?_;refine zAb [17] [13,16] rfl ?_;obtain⟨⟨e7A,e7C,e7D,e7B⟩,he7,h⟩:=zAc h;refine And.intro (zAq Nd.encs_eq he7).1 ?_;intro r8 hr8;obtain rfl:(nN e7A e7C e7D e7B)=r8:=(hr8.trans (zAq Nd.encs_eq he7).2.1).symm;obtain⟨⟨y9A,y9C,y9D,y9B⟩,hy9,h⟩:=zAc h;refine⟨_,⟨_,_,hy9,rfl,rfl⟩,?_⟩
     intro r10 hr10;obtain rfl:Nd.encs [Nd.mk y9A y9C y9D y9B]=r10:=(hr10.trans yBc).symm;obtain⟨hq,h⟩:=zAx h
     refine And.intro (show((Nd.encs l5).length+(Nd.encs [Nd.mk y9A y9C y9D y9B]).length) * 56<=140737488355328/\(Nd.encs l5).length+(Nd.encs [Nd.mk y9A y9C y9D y9B]).length<=9223372036854775807 from by simp only[length_append,length_cons,length_nil,length_map,rlen Nd.encs_eq]at hq ⊢; omega) ?_;show Tri ..
     refine zAh (Le.rnq [(1,0)] [(0,.s (.sl 4 (Nd.encs l1))),(3,.orow 0),(6,nI (l1.length:Int)),(7,nI x4)] [(0,.row 24 4 (Nd.encs (l5++[Nd.mk y9A y9C y9D y9B])))] 1 (h2:=⟨rfl,⟨_,rfl,congrArg (Ob.row 24 4) yBc⟩,trivial⟩))<|yCo ?_;refine⟨(k,i64.wrap (x4+1),l5++[Nd.mk y9A y9C y9D y9B]),h,(Le.rnq [(0,0)] _ _ _),Nat.lt_succ_self k⟩
    ·refine zAD ?_;exact jC
 ·exact kH
def zXb:Prop:=∃ a0 y0,zFD n a0=some y0/\xs=[.agg ((zAl a0).map .s)]/\r = .val (.agg ((zAl y0).map .s))
def zNb:zAr:=pG zXb
theorem zPP:PSound prog 67 zNb:=by
 have gok:=gk1 zMq<|gk1 zQ3<|gk0
 refine psq tokW call67 func67 rfl ?_;rintro xs r w0 G0 ⟨n,⟨op1A,op1E,op1F,op1K,op1G,op1H,op1L,op1C⟩,y0,h,rfl,rfl⟩ _;rw[zFD]at h;refine yBn [1,2] [] rfl ?_;refine yCp ?_;obtain⟨y2,hy2,h⟩:=zAc h;refine⟨_,⟨_,_,hy2,rfl,rfl⟩,?_⟩
 refine yCp ?_;obtain⟨y3,hy3,h⟩:=zAc h;refine⟨_,⟨_,_,_,hy3,rfl,rfl⟩,?_⟩
 exact gG
variable {A B:List AV->Ret->Prop}{P:Program}
theorem zYl {f:Nat} (hA:PSound P f (zAu A)) (hB:PSound P f (zAu B)):PSound P f (zAu fun xs r=>A xs r∨B xs r) :=
 ⟨hA.1,fun G w xs vs r hl hg hp hv hs=>hs.elim (hA.2.1 G w xs vs r hl hg hp hv) (hB.2.1 G w xs vs r hl hg hp hv),fun R hR=>(by cases hR),fun R hR=>(by cases hR)⟩
theorem zUN {f:Nat} (hA:PSound P f (zAu A)) (h:∀ xs r,B xs r->A xs r):PSound P f (zAu B) :=
 ⟨hA.1,fun G w xs vs r hl hg hp hv hs=>hA.2.1 G w xs vs r hl hg hp hv (h xs r hs),fun R hR=>(by cases hR),fun R hR=>(by cases hR)⟩
def zJk (n:Nat) (xs:List AV) (r:Ret):Prop:=∃ (a0:(zO8×List Nd)) (y0:List Nd) (y1:Int),zBj n a0=some (y0,y1)/\xs=[.agg ((zAJ a0).map .s)]/\r = .val (.tup [.s (.sl 4 (Nd.encs y0)),nI y1])
def zFW:zAr:=pG zJk
theorem zIP:PSound prog 185 zFW :=
 zUN (zYl zGO zGN) fun xs r ⟨n,a,y,z,hm,hx,hr⟩=>by
  unfold zBj at hm;split at hm
  ·rename_i q hq
   obtain rfl:=Option.some.inj hm;exact .inl ⟨a,y,z,hq,hx,hr⟩
  ·exact .inr ⟨n,a,y,z,hm,hx,hr⟩
variable (n:Nat) (xs:List AV) (r:Ret)
def zJR:Prop:=∃ a0 y0 y1,zCo n a0=some (y0,y1)/\xs=[.agg ((zAJ a0).map .s)]/\r = .val (.tup [.s (.sl 4 (Nd.encs y0)),nI y1])
def zGi:zAr:=pG zJR
theorem zJp:PSound prog 134 zGi:=by
 have gok:=gk1 zIM<|gk1 zIN<|gk1 zIO<|gk1 zKb<|gk1 zIP<|gk1 zK2<|gk0
 refine psq tokW call134 func134 rfl ?_;rintro xs r w0 G0 ⟨n,⟨⟨c1Y,c1Al,c1J,c1U,c1X,c1V,c1Ak,c1Aj⟩,c1Am⟩,y0,y1,h,rfl,rfl⟩ _;rw[zCo]at h;refine yCp ?_;refine zAa<|yCp ?_;obtain⟨y2,hy2,h⟩:=zAc h;refine⟨_,⟨_,_,hy2,rfl,rfl⟩,?_⟩
 refine yCp ?_;refine zAf rfl h (fun hb h=>?_) (fun hb h=>?_)
 ·exact jP
 ·refine zAe<|zAa<|yCp ?_;refine zAk<|yCp ?_;refine zAf rfl h (fun hb h=>?_) (fun hb h=>?_)
  ·refine yCp ?_;obtain⟨⟨y3,y4⟩,hy3,h⟩:=zAc h;refine⟨_,⟨_,_,_,_,hy3,rfl,rfl⟩,?_⟩
   exact jA
  ·refine yCp ?_;refine zAf rfl h (fun hb h=>?_) (fun hb h=>?_)
   ·refine yCp ?_;obtain⟨⟨y5,y6⟩,hy5,h⟩:=zAc h;refine⟨_,⟨_,_,_,_,hy5,rfl,rfl⟩,?_⟩
    exact jA
   ·refine yCp ?_;refine zAf rfl h (fun hb h=>?_) (fun hb h=>?_)
    ·refine yCp ?_;obtain⟨⟨y7,y8⟩,hy7,h⟩:=zAc h;refine⟨_,⟨_,_,_,_,hy7,rfl,rfl⟩,?_⟩
     exact jA
    ·refine yCp ?_;refine zAf rfl h (fun hb h=>?_) (fun hb h=>?_)
     ·refine yCp ?_;obtain⟨⟨y9,y10⟩,hy9,h⟩:=zAc h;refine⟨_,⟨_,_,_,_,hy9,rfl,rfl⟩,?_⟩
      exact jA
     ·refine zAe<|yCp ?_;obtain⟨⟨y11,y12⟩,hy11,h⟩:=zAc h;refine⟨_,⟨_,_,_,_,hy11,rfl,rfl⟩,?_⟩
      exact jA
def zRR:Prop:=∃ a0 a1 y0 y1,zEJ n a0 a1=some (y0,y1)/\xs=[.agg ((Nd.enc a0).map .s),.agg ((zAl a1).map .s)]/\r = .val (.tup [.agg ((Nd.enc y0).map .s),nI y1])
def zLW:zAr:=pG zRR
theorem zQ4:PSound prog 74 zLW:=by
 have gok:=gk1 zD9<|gk1 zOX<|gk1 zUC<|gk1 zJp<|gk1 zTe<|gk0
 refine psq tokW call74 func74 rfl ?_;rintro xs r w0 G0 ⟨n,⟨n1A,n1C,n1D,n1B⟩,⟨op2A,op2E,op2F,op2K,op2G,op2H,op2L,op2C⟩,y0,y1,h,rfl,rfl⟩ _;rw[zEJ]at h;refine yBn [4] [] rfl ?_;refine zAa<|yCp ?_;obtain⟨y3,hy3,h⟩:=zAc h;refine⟨_,⟨_,_,_,hy3,rfl,rfl⟩,?_⟩
 refine zAf rfl h (fun hb h=>?_) (fun hb h=>?_)
 ·exact jP
 ·refine zAe<|zAa<|yCp ?_;obtain⟨y4,hy4,h⟩:=zAc h;refine⟨_,⟨_,_,_,hy4,rfl,rfl⟩,?_⟩
  refine zAf rfl h (fun hb h=>?_) (fun hb h=>?_)
  ·exact jP
  ·refine zAe<|yBn [6] [] rfl ?_;obtain⟨⟨⟨y5A,y5C,y5D,y5B⟩,y6⟩,hy5,h⟩:=zAc h;refine⟨_,⟨_,_,_,_,_,hy5,rfl,rfl⟩,?_⟩
   refine zAa<|yCp ?_;refine zAf rfl h (fun hb h=>?_) (fun hb h=>?_)
   ·exact jP
   ·refine zAe<|yCp ?_;obtain⟨⟨y7,y8⟩,hy7,h⟩:=zAc h;refine⟨_,⟨_,_,_,_,hy7,rfl,rfl⟩,?_⟩
    refine zAa<|yCp ?_;refine zAf rfl h (fun hb h=>?_) (fun hb h=>?_)
    ·exact jP
    ·refine zAe<|yBn [8] [] rfl ?_;obtain⟨⟨⟨y9A,y9C,y9D,y9B⟩,y10⟩,hy9,h⟩:=zAc h;refine⟨_,⟨_,_,_,_,_,_,hy9,rfl,rfl⟩,?_⟩
     refine zAh (Le.giveBox 2 (nN y9A y9C y9D y9B) rfl rfl)<|zAa<|yCp ?_;refine zAf rfl h (fun hb h=>?_) (fun hb h=>?_)
     ·exact jP
     ·refine zAe<|yCp ?_;exact jA
def zM7:Prop:=∃ a0 a1 y0 y1 y2,zBR n a0 a1=some (y0,y1,y2)/\xs=[.agg ((Nd.enc a0).map .s),.s (.sl 8 ((List.map zAl) a1))]/\r = .val (.tup [.agg ((Nd.enc y0).map .s),nI y1,nI y2])
def zIi:zAr:=pG zM7
theorem kS {P:Prop} (h:P:=by exact(Le.rnq [(0,0),(1,1)] _ _ _)):P:=h
theorem kU {P:Prop} (h:P:=by refine zAD ?_;cases h;exact⟨_,rfl,(Le.rnq [(0,0),(1,1)] _ _ _)⟩):P:=h
theorem zMK:PSound prog 43 zIi:=by
 have gok:=gk1 zD9<|gk1 zEP<|gk1 zQ4<|gk0
 refine psq tokW call43 func43 rfl ?_;rintro xs r w0 G0 ⟨n,⟨n1A,n1C,n1D,n1B⟩,ops2,y0,y1,y2,h,rfl,rfl⟩ _;rw[zBR]at h;refine yBn [4] [] rfl ?_;refine zAa<|yCp ?_;obtain⟨y3,hy3,h⟩:=zAc h;refine⟨_,⟨_,_,_,hy3,rfl,rfl⟩,?_⟩
 refine zAf rfl h (fun hb h=>?_) (fun hb h=>?_)
 ·refine yCp ?_;refine zAd ?_;exact jK
 ·refine zAe<|yBn [7] [] rfl ?_;obtain⟨⟨y4A,y4C,y4D,y4B⟩,hy4,h⟩:=zAc h;refine⟨_,⟨_,_,hy4,rfl,rfl⟩,?_⟩
  refine zAa<|yBn [] [19] rfl ?_;intro n5 hn5;obtain rfl:=rlE (fun _=>rfl) ops2 hn5;show Tri ..;obtain⟨fl,hl,ho1⟩:=zAc h;refine zB3 (fl:=fl) (fun z=>match z with | ⟨x12,x13,x14,x15⟩=>⟨ofL [(4,.op 0 0),(7,.op 1 0)],ofH [(0,.box 24 [nI 0,.s (.str []),nI 0,.nl 4]),(1,.box 24 [nI x12,nS x13,nI x14,.s (.sl 4 (Nd.encs x15))])],2⟩) ?_ (fun z σ' hz hle=>?_)
  ·refine zAk (zAA (X:=Nat×Int×(List UInt8)×Int×(List Nd)×Int) (fun y=>match y with | (k,x7,x8,x9,x10,x11)=>⟨ofL [(4,.op 0 0),(7,.op 1 0),(18,.s (.sl 8 ((List.map zAl) ops2))),(19,nI (ops2.length:Int)),(20,nI x11)],ofH [(0,.box 24 [nI 0,.s (.str []),nI 0,.nl 4]),(1,.box 24 [nI x7,nS x8,nI x9,.s (.sl 4 (Nd.encs x10))])],2⟩) (fun y=>zBa n ops2 y.1 y.2.1 y.2.2.1 y.2.2.2.1 y.2.2.2.2.1 y.2.2.2.2.2=some fl) (fun y=>y.1) (n,y4A,y4C,y4D,y4B,0) hl ?_ ?_)
   ·exact kS
   ·rintro⟨k,x7,x8,x9,x10,x11⟩ h;cases k with
    | zero=>cases h
    | succ k =>
     replace h:zBa n ops2 (k+1) x7 x8 x9 x10 x11=some fl:=h;rw[zBa]at h;refine yCp ?_;refine zAa<|zAf rfl h (fun hb h=>?_) (fun hb h=>?_)
     ·refine zAe<|zAa<|zAk<|yBn [9] [23] rfl ?_;obtain⟨⟨e16A,e16E,e16F,e16K,e16G,e16H,e16L,e16C⟩,he16,h⟩:=zAc h;refine And.intro (zAq (fun _=>rfl) he16).1 ?_;intro r17 hr17;obtain rfl:[.int .i64 e16A,.sl 1 (iL e16E),.int .i64 e16F,.int .i64 e16K,.sl 4 (Nd.encs e16G),.int .i64 e16H,.str e16L,.str e16C]=r17:=(hr17.trans (zAq (fun _=>rfl) he16).2.1).symm;show Tri ..
      refine zAh (Le.giveBox 2 [.int .i64 e16A,.sl 1 (iL e16E),.int .i64 e16F,.int .i64 e16K,.sl 4 (Nd.encs e16G),.int .i64 e16H,.str e16L,.str e16C] rfl rfl)<|yBn [10] [] rfl ?_;obtain⟨⟨⟨y18A,y18C,y18D,y18B⟩,y19⟩,hy18,h⟩:=zAc h;refine⟨_,⟨_,_,_,_,_,hy18,rfl,rfl⟩,?_⟩
      refine zAh (Le.giveBox 3 (nN y18A y18C y18D y18B) rfl rfl)<|zAa<|yCp ?_;refine zAf rfl h (fun hb h=>?_) (fun hb h=>?_)
      ·refine yCp ?_;refine zAd ?_;cases h;replace h:some _=some _:=ho1;exact jK
      ·refine zAe<|yCo ?_;refine yCo ?_;refine⟨(k,y18A,y18C,y18D,y18B,i64.wrap (x11+1)),h,(Le.rnq [(0,0),(1,1)] _ _ _),Nat.lt_succ_self k⟩
     ·exact kU
  ·subst hz;obtain⟨x12,x13,x14,x15⟩:=z;replace h:=ho1;refine zAh hle<|yCp ?_;refine zAd ?_;exact jK
def zQf:Prop:=∃ a0 y0,zCd n a0=some y0/\xs=[.agg ((zAl a0).map .s)]/\r = .val (.agg ((zAl y0).map .s))
def zKv:zAr:=pG zQf
theorem jO {P:Prop} (h:P:=by cases h;exact(Le.rnq [(0,0),(1,1)] _ _ _)):P:=h
theorem zOY:PSound prog 37 zKv:=by
 have gok:=gk1 zPP<|gk0
 refine psq tokW call37 func37 rfl ?_;rintro xs r w0 G0 ⟨n,⟨op1A,op1E,op1F,op1K,op1G,op1H,op1L,op1C⟩,y0,h,rfl,rfl⟩ _;rw[zCd]at h;refine yBn [2] [] rfl ?_;refine yBn [3] [] rfl ?_;obtain⟨⟨y2A,y2E,y2F,y2K,y2G,y2H,y2L,y2C⟩,hy2,h⟩:=zAc h;refine⟨_,⟨_,_,_,hy2,rfl,rfl⟩,?_⟩
 refine zAa<|yCp ?_;show Tri ..;obtain⟨⟨x3,x4,x5⟩,hj,h⟩:=zAc h;refine zAm ⟨ofL [(2,.op 0 0),(3,.op 1 0)],ofH [(0,.box 76 [nI 0,.nl 1,nI 0,nI 0,.nl 4,nI 0,.s (.str []),.s (.str [])]),(1,.box 76 [nI x3,.s (.sl 1 (iL y2E)),nI y2F,nI y2K,.s (.sl 4 (Nd.encs y2G)),nI y2H,nS x4,nS x5])],2⟩ ?_ (fun σ' hle=>?_)
 ·replace h:=hj;refine zAk<|yCp ?_;refine zAf rfl h (fun hb h=>?_) (fun hb h=>?_)
  ·refine yCo ?_;exact jO
  ·refine yCp ?_;refine zAf rfl h (fun hb h=>?_) (fun hb h=>?_)
   ·refine yCo ?_;exact jO
   ·refine yCp ?_;refine zAf rfl h (fun hb h=>?_) (fun hb h=>?_)
    ·refine yCo ?_;exact jO
    ·refine yCp ?_;refine zAf rfl h (fun hb h=>?_) (fun hb h=>?_)
     ·refine yCo ?_;exact jO
     ·refine yCp ?_;refine zAf rfl h (fun hb h=>?_) (fun hb h=>?_)
      ·refine zAC [] [] [5,7] rfl (by decide +kernel) ?_;exact jO
      ·refine zAe ?_;exact jO
 ·refine zAh hle<|yCp ?_;exact jM
end Go.Proofs.YtbfnjnljboncgaaGreat
